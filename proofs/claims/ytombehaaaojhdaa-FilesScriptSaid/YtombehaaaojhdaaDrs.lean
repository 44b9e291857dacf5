/- (*Disk).Restart -/
import Derived.Test.YtombehaaaojhdaaDt
import Derived.StillTailTactics
set_option linter.unusedVariables false
namespace Go.Proofs.Ytombehaaaojhdaa
open Go.Maps Go.RowKit

theorem wait_shape {w : World} {wv : Value} {n : Nat} {cv : List Value} (h : w.ownsRow 0 57 1 wv n cv) :
    ∃ ao c, wv = .slice ao n c ∧ n ≤ c ∧ c ≤ maxLen ∧ (ao = none → c = 0) ∧ ∀ j v, cv[j]? = some v → ∃ g, ao = some ⟨g, 0, none⟩ ∧ w.cell? ⟨g, j, none⟩ = some v := by
  rcases h with ⟨hl, ⟨rfl, rfl⟩ | ⟨g, cap, cur, rfl, _, hg, hnc, hcm, hcs, ht⟩⟩
  · refine ⟨none, 0, rfl, Nat.le_refl _, by unfold maxLen; omega, fun _ => rfl, fun j v hv => ?_⟩
    have hcv : cv = [] := List.eq_nil_of_length_eq_zero (by simpa using hl)
    rw [hcv] at hv
    cases hv
  · refine ⟨_, cap, rfl, hnc, hcm, (fun e => nomatch e), fun j v hv => ⟨g, rfl, ?_⟩⟩
    rw [cell_of_row w g j cur _ (0, 0) hg]
    rw [← ht] at hv
    have hj : j < n := by
      rcases Nat.lt_or_ge j n with h' | h'
      · exact h'
      · rw [List.getElem?_eq_none (by simp; omega)] at hv; cases hv
    rw [Nat.mul_one, List.getElem?_take_of_lt hj] at hv
    simpa using hv

theorem run_cut_slice (T : TypeId) (ht : Try.prog.underlying T = some (.slice (Try.prog.elem T))) (s : Nat) (hs : ∀ W, (sizeOf (Try.prog.elem T)).run Try.prog W = .ok s W) (ao : Option Addr) (l c k : Nat) (hk : k ≤ c) (W : World) :
    (Instr.slice T (.slice ao l c) none (some (.int .i64 k)) none).run Try.prog W = .ok (.slice ao k c) W := by
  have := run_slice_h (P := Try.prog) W T ao l c ht .i64 (k : Int) (by omega) (by omega)
  rw [this, hs]
  simp only [Result.andThen_ok, sliced]
  cases ao with
  | none => by_cases h0 : c = k <;> simp [h0]
  | some a => simp [Addr.add]

theorem run_min2 (x y z : Int) (h : min x y = z) (W : World) : (Builtin.min_ #[3, 3] 3 #[.int .i64 x, .int .i64 y]).run Try.prog W = .ok (.int .i64 z) W := by
  have e9 : (if y < x then y else x) = z := by split <;> omega
  rw [run_min_int2, e9]
theorem run_max2 (x y z : Int) (h : max x y = z) (W : World) : (Builtin.max_ #[3, 3] 3 #[.int .i64 x, .int .i64 y]).run Try.prog W = .ok (.int .i64 z) W := by
  have e9 : (if x < y then y else x) = z := by split <;> omega
  rw [run_max_int2, e9]

theorem put_len {N : List Nm} {n : Nat} {d : DV} (h : d.Inv N n) (j : Nat) {cs : List Ch} (hcs : cs ∈ d.wait) (i : Nat) : Maps.size (putAll ((d.wait.take j).foldl putAll d.safe) (cs.take i)) ≤ N.length :=
  Names.size ((names_fold _ _ h.nsafe (fun x hx => h.nwait x (List.mem_of_mem_take hx))).putAll (fun c hc => h.nwait cs hcs c (List.mem_of_mem_take hc)))
    (size_putAll _ _ (tidy_fold _ _ h.tsafe)).1

theorem trimBut_lens {bytes : Int} {left : Lit → Bool} {D : NMap} {fs : List FileV} {B : Nat} (h : ∀ f ∈ fs, f.b.length ≤ B ∧ f.safe ≤ f.b.length) : ∀ f ∈ trimBut bytes left D fs, f.b.length ≤ B ∧ f.safe ≤ f.b.length := by
  intro f hf
  obtain ⟨j, hj⟩ := List.mem_iff_getElem?.1 hf
  rw [trimBut, List.getElem?_mapIdx] at hj
  cases hg : fs[j]? with
  | none => rw [hg] at hj; cases hj
  | some g =>
    rw [hg] at hj
    simp at hj
    have h3 := h g (List.mem_of_getElem? hg)
    subst hj
    split
    · have := trim_lens bytes g
      exact ⟨by omega, this.2⟩
    · exact h3

set_option maxRecDepth 20000 in
set_option maxHeartbeats 8000000 in
theorem restart_disk (w : World) (L : Lab) (db nb sb : Nat) (wv : Value) (φ : List Nat) (fv cv : List Value) (d : DV) (h : DiskAt w L db nb sb wv φ fv cv d) (N : List Nm) (nc : Nat) (hI : d.Inv N nc) (hN : N.length ≤ 64) (hN2 : ∀ s ∈ N, s.length ≤ maxLen) (names bytes : Int) (hb1 : bytes ≤ 1099511627776) :
    Calls Try.prog 7 #[.pointer (some ⟨db, 0, none⟩), .int .i64 names, .int .i64 bytes] w fun e w' => e = .returned (.tuple #[]) ∧ DiskTo w L db (d.restart names bytes) w' := by
  obtain ⟨ao, c, rfl, hnc, hcm, hnil, hcv⟩ := wait_shape h.wait
  have c1 : w.cell? ⟨db, 1, none⟩ = some (.map (some sb)) := (Blk.cell h.cells 1).trans rfl
  have c2 : w.cell? ⟨db, 2, none⟩ = some (.slice ao d.wait.length c) := (Blk.cell h.cells 2).trans rfl
  obtain ⟨len, hlen⟩ : ∃ len, len = d.wait.length := ⟨_, rfl⟩
  rw [← hlen] at c2
  obtain ⟨mn, hmn⟩ : ∃ mn, min names (len : Int) = mn := ⟨_, rfl⟩
  obtain ⟨nn, hnn⟩ : ∃ nn : Nat, max 0 mn = (nn : Int) := ⟨(max 0 mn).toNat, by omega⟩
  have r1 := run_min2 names len mn hmn
  have r2 := run_max2 0 mn nn hnn
  have hnl : nn ≤ len := by omega
  have r3 := run_cut_slice 54 (by kernel_rfl) 1 (fun W => by kernel_rfl) ao len c nn (by omega)
  have hnn' : (max 0 (min names d.wait.length)).toNat = nn := by rw [← hlen, hmn, hnn]; rfl
  have HLEN := Lib.hid hlen
  have HNN := Lib.hid hnn'
  have HNL := Lib.hid hnl
  have HCV := Lib.hid hcv
  have H := Lib.hid h
  have HI := Lib.hid hI
  have HN2 := Lib.hid hN2
  have HC := Lib.hid (And.intro hnc hcm)
  have HN := Lib.hid hN
  clear hmn hnn hlen hnl hnn' hcv h hI hnc hcm hnil hN2 hN
  have hnm : nn ≤ 9223372036854775807 := by have := HNL.out; have := HLEN.out; have := HC.out; unfold maxLen at this; omega
  go_enter Try.func7, Try.ntmps7
  go_wp2
  clear r1 r2 r3 c1 c2
  go_loopw [27] (fun k wr => ∃ j : Nat, j ≤ nn ∧ k = .int .i64 j ∧ MapAt Try.prog 9 wr φ sb ((d.wait.take j).foldl putAll d.safe) ∧ w.grownBy wr (some sb)) (fun k _ => nn - (intOf k).toNat)
  case atStart => exact ⟨0, Nat.zero_le _, rfl, H.out.safe, World.grownBy.refl _ _⟩
  case round =>
    obtain ⟨j, hj, rfl, hm, hgr⟩ := hrel
    have HM := Lib.hid hm
    have HGR := Lib.hid hgr
    clear hm hgr
    by_cases hlt : j < nn
    · obtain ⟨cs, hcs⟩ : ∃ cs, d.wait[j]? = some cs := ⟨_, List.getElem?_eq_getElem (by have := HLEN.out; have := HNL.out; omega)⟩
      obtain ⟨v, hv, ⟨gc, cur, rfl, hgc, hcur, hlc⟩⟩ := H.out.chs j cs hcs
      obtain ⟨gw, rfl, hcw⟩ := HCV.out j _ hv
      have hcw' : wr.cell? ⟨gw, j, none⟩ = some (.slice (some ⟨gc, 0, none⟩) cs.length cs.length) :=
        HGR.out.cell hcw (fun e => by have h1 := H.out.lwait gw rfl; cases e; rw [H.out.lsafe] at h1; cases h1)
      have hcsl : cs.length ≤ 9223372036854775807 := by have := HI.out.wlen cs (List.mem_of_getElem? hcs); omega
      have hmem := List.mem_of_getElem? hcs
      have hgcs : gc ≠ sb := fun e => by rw [e, H.out.lsafe] at hlc; cases hlc
      have hdbs : db ≠ sb := fun e => by have := H.out.ldisk; rw [e, H.out.lsafe] at this; cases this
      have hstep : (d.wait.take (j + 1)).foldl putAll d.safe = putAll ((d.wait.take j).foldl putAll d.safe) cs := by
        rw [List.take_add_one, hcs, List.foldl_append]; rfl
      have HST := Lib.hid hstep
      have HCUR := Lib.hid (And.intro hcur hgc)
      have HCM := Lib.hid hmem
      have HNE := Lib.hid (And.intro hgcs hdbs)
      clear hstep hcur hgc hmem hgcs hdbs hcs hcw hv
      go_wp2
      generalize hD : (d.wait.take j).foldl putAll d.safe = D at *
      have HD := Lib.hid hD
      clear hD
      obtain ⟨wo, rfl⟩ : ∃ wo : World, wo = wr := ⟨_, rfl⟩
      go_loopw [33] (fun k wi => ∃ i : Nat, i ≤ cs.length ∧ k = .int .i64 i ∧ MapAt Try.prog 9 wi φ sb (putAll D (cs.take i)) ∧ w.grownBy wi (some sb)) (fun k _ => cs.length - (intOf k).toNat)
      case atStart => exact ⟨0, Nat.zero_le _, rfl, HM.out, HGR.out⟩
      case round =>
        obtain ⟨i, hi, rfl, hmi, hgri⟩ := hrel
        by_cases hlti : i < cs.length
        · obtain ⟨ch, hch⟩ : ∃ ch, cs[i]? = some ch := ⟨_, List.getElem?_eq_getElem hlti⟩
          have hcm : ch.ok φ.length ∧ ch.1.length ≤ maxLen := ⟨H.out.hchs cs HCM.out ch (List.mem_of_getElem? hch), HN2.out _ (HI.out.nwait cs HCM.out ch (List.mem_of_getElem? hch))⟩
          have hgw : Blk wr gc 60 cur := (hgri.block gc (Blk.lt HCUR.out.2) (by simpa using HNE.out.1)).trans HCUR.out.2
          have hdw := (hgri.block db (Blk.lt H.out.cells) (by simpa using HNE.out.2)).trans H.out.cells
          have g0 : wr.cell? ⟨gc, i * 2, none⟩ = some (.string ⟨ch.1.toArray⟩) := by rw [Blk.cell hgw, ← (chCells_get φ cs i ch hch).1, ← HCUR.out.1]; simp
          have g1 : wr.cell? ⟨gc, i * 2 + 1, none⟩ = some (ptrOf φ ch.2) := by rw [Blk.cell hgw, ← (chCells_get φ cs i ch hch).2, ← HCUR.out.1]; simp
          have d0 : wr.cell? ⟨db, 1, none⟩ = some (.map (some sb)) := by rw [Blk.cell hdw]; rfl
          have hnb : sb < wr.heap.size := World.ownsMap.lt hmi
          have HNB := Lib.hid hnb
          have HMI := Lib.hid hmi
          have HGI := Lib.hid hgri
          have d0' : ∀ o, (wr.alloc o).cell? ⟨db, 1, none⟩ = some (.map (some sb)) := fun o => (World.cell?_alloc_lt wr o _ (World.block_lt_of_cell? wr _ d0)).trans d0
          have HCH := Lib.hid hcm
          have hstep : putAll D (cs.take (i + 1)) = put1 (putAll D (cs.take i)) ch := by
            rw [List.take_add_one, hch, ← putAll_snoc]; rfl
          have HSTI := Lib.hid hstep
          have hsz' : Maps.size (putAll D (cs.take i)) < maxLen := by
            have := put_len HI.out j HCM.out i
            rw [HD.out] at this
            have h2 := HN.out
            unfold maxLen; omega
          have HSZ := Lib.hid hsz'
          clear hmi hnb hcm hgw hdw hstep hsz' hch hgri
          obtain ⟨s, o⟩ := ch
          simp only at g0 g1
          obtain ⟨po, hp⟩ := ptrOf_shape φ o
          rw [hp] at g1
          have hput : ∀ w0 : World, w0.heap[sb]? = wr.heap[sb]? → Calls Try.prog 20 #[.map (some sb), .agg #[.string ⟨s.toArray⟩, .pointer po]] w0 fun e w' => e = .returned (.tuple #[]) ∧ MapAt Try.prog 9 w' φ sb (put1 (putAll D (cs.take i)) (s, o)) ∧ w0.grownBy w' (some sb) := fun w0 e => by
            have := put_any w0 φ H.out.nodup sb (putAll D (cs.take i)) (s, o) (HMI.out.block e) HCH.out.1 HCH.out.2 HSZ.out
            rwa [hp] at this
          have HPUT := Lib.hid hput
          clear hp hput
          go_wp2_with fail
          have hns : some wr.heap.size ≠ some sb := by have := HNB.out; simp; omega
          have HNS := Lib.hid hns
          clear hns
          have a0 : (wr.alloc (.cells #[.string ⟨s.toArray⟩, .pointer po] 60)).cell? ⟨db, 1, none⟩ = some (.map (some sb)) := d0' _
          go_region_held3 (fun w' => w'.cell? ⟨db, 1, none⟩ = some (.map (some sb)) ∧ w'.cell? ⟨wr.heap.size, 0, none⟩ = some (.string ⟨s.toArray⟩) ∧ w'.cell? ⟨wr.heap.size, 1, none⟩ = some (.pointer po))
            (first | exact ⟨a0, cell_new2 _ _ _ _, cell_new2' _ _ _ _⟩ | exact ⟨hg2.cell a0 (by simpa using HNE.out.2), hg2.cell (cell_new2 _ _ _ _) HNS.out, hg2.cell (cell_new2' _ _ _ _) HNS.out⟩)
            (first | (go_at_call 20; refine (HPUT.out _ ?_).mono ?_; (exact Below.heap_alloc _ _ _ HNB.out); rintro e w2 ⟨rfl, hm2, hg2⟩))
          go_wp2
          go_roundw
          case rel =>
            exact ⟨i + 1, by omega, by go_num, by rw [HSTI.out]; exact hm2, (HGI.out.trans (World.grownBy_alloc _ _ _)).trans ⟨hg2.os, hg2.tape, hg2.output, hg2.size, hg2.block⟩⟩
          case measure => simp [intOf]; omega
        · obtain rfl : i = cs.length := by omega
          rw [List.take_length] at hmi
          have HMI := Lib.hid hmi
          have HGI := Lib.hid hgri
          clear hmi hgri
          go_wp2
          go_roundw
          case rel => exact ⟨j + 1, by omega, by go_num, by rw [HST.out]; exact HMI.out, HGI.out⟩
          case measure => simp [intOf]; omega
    · obtain rfl : j = nn := by omega
      have hDD : Go.Maps.size ((d.wait.take j).foldl putAll d.safe) ≤ 64 := Nat.le_trans (HI.out.sizes j) HN.out
      have hheld : Held φ.length ((d.wait.take j).foldl putAll d.safe) := by
        rw [H.out.nfiles]
        exact held_fold _ _ HI.out.hsafe (fun cs hcs => HI.out.hwait cs (List.mem_of_mem_take hcs))
      have hD1 := H.out.remap HGR.out HM.out hheld
      have hT1 := H.out.remap_turned HGR.out
      have hres : d.restart names bytes = { d with now := (d.wait.take j).foldl putAll d.safe, safe := (d.wait.take j).foldl putAll d.safe, wait := [], files := trimAll bytes ((d.wait.take j).foldl putAll d.safe) d.files, down := false, left := -1 } := by
        unfold DV.restart
        simp only [HNN.out]
      have HRES := Lib.hid hres
      clear hres
      have hlens : ∀ f ∈ d.files, f.b.length ≤ 4294967296 ∧ f.safe ≤ f.b.length := fun f hf => by
        have h1 := HI.out.lens f hf
        have h2 := HI.out.room1
        exact ⟨by omega, h1.2⟩
      generalize (d.wait.take j).foldl putAll d.safe = D at *
      have hown := HM.out
      have HOWN := Lib.hid hown
      have HD1 := Lib.hid hD1
      have HT1 := Lib.hid hT1
      have HHELD := Lib.hid hheld
      have HLENS := Lib.hid hlens
      obtain ⟨w1, rfl⟩ : ∃ w1 : World, w1 = wr := ⟨_, rfl⟩
      have c1 : w1.cell? ⟨db, 1, none⟩ = some (.map (some sb)) := (Blk.cell hD1.cells 1).trans rfl
      clear hown hD1 hT1 hheld HM HGR hlens hDD
      go_wp2_with (first | (at_range; refine wpList_range_own _ rfl _ 53 rfl 9 58 keyed Try.underlying53 (fread φ) sb _ D rfl HOWN.out ?_; intro w0 hrg0 hg0 hs0) | go_in)
      go_frame
      go_loopw [11] (fun _ wr => ∃ left cnt L' fv', wr.ranges Try.prog 9 (fread φ) sb w1.heap.size (Maps.size D) D left cnt ∧ DiskAt wr L' db nb sb (.slice ao d.wait.length c) φ fv' cv { d with safe := D, files := trimBut bytes left D d.files } ∧ Turned L L' w1 wr ∧ L' w1.heap.size = none) (fun _ wr => wr.rangeLeft sb w1.heap.size)
      case atStart =>
        refine ⟨_, _, L, fv, hrg0, ?_, ⟨hg0.os, hg0.tape, hg0.output, hg0.size, fun k hk _ => hg0.block k hk (by simp), fun _ _ h => h⟩, ?_⟩
        · rw [trimBut_start _ _ (MapAt.keys HOWN.out)]
          exact HD1.out.keep hg0.size (fun k hk => hg0.block k (HD1.out.dom k hk) (by simp))
        · cases e : L w1.heap.size with
          | none => rfl
          | some x => have := HD1.out.dom w1.heap.size (by rw [e]; simp); omega
      case round =>
        obtain ⟨left, cnt, L', fv', hrg, hDk, hTk, hLn⟩ := hrel
        have HRG := Lib.hid hrg
        have HDK := Lib.hid hDk
        have HTK := Lib.hid hTk
        have HLN := Lib.hid hLn
        clear hrg hDk hTk hLn
        go_wp2_with (first | (at_next; refine wpList_next_ranges _ rfl _ rfl 9 keyed (fread φ) Value.string Value.pointer (fun key kl hk => by obtain ⟨s, e, _⟩ := key_string hk; exact ⟨s, e⟩) fread_shape sb w1.heap.size _ _ _ _ rfl HRG.out ?_ ?_) | go_in)
        · intro hc0 hl0
          have hfin : trimBut bytes left D d.files = trimAll bytes D d.files := trimBut_end _ hl0 _ _
          have HF := Lib.hid hfin
          have HL0 := Lib.hid hl0
          clear hfin hl0 hc0 hrg0 hg0 hs0
          have hD4 := HDK.out
          rw [HF.out] at hD4
          have c1' : wr.cell? ⟨db, 1, none⟩ = some (.map (some sb)) := (Blk.cell hD4.cells 1).trans rfl
          obtain ⟨es, clock, hes, hcl⟩ := hD4.safe.clone
          have hBd : Blk (wr.alloc (.map es clock)) db 56 _ := Blk.alloc hD4.cells _
          have d0 := Blk.cell hBd 0
          have d2 := Blk.cell hBd 2
          have d4 := Blk.cell hBd 4
          have d5 := Blk.cell hBd 5
          have g0 := Blk.frozen hBd 0
          have g2 := Blk.frozen hBd 2
          have g4 := Blk.frozen hBd 4
          have g5 := Blk.frozen hBd 5
          simp at d0 d2 d4 d5
          have HCL := Lib.hid hcl
          have HES := Lib.hid hes
          have HD4 := Lib.hid hD4
          have HB := Lib.hid hBd
          clear hcl hes hD4 hBd
          go_wp2_with fail
          refine (clone_map sb es clock wr HES.out).mono ?_
          rintro e w2 ⟨rfl, rfl⟩
          go_wp2
          go_end0
          have hk : ∀ k, k < wr.heap.size → k ≠ db → (((((wr.alloc (.map es clock)).setCell ⟨db, 0, none⟩ (.map (some wr.heap.size))).setCell ⟨db, 2, none⟩ (.slice none 0 0)).setCell ⟨db, 5, none⟩ (.bool false)).setCell ⟨db, 4, none⟩ (.int .i64 (-1))).heap[k]? = wr.heap[k]? := fun k hk hne => by
            rw [Below.heap_setCell _ _ _ _ hne, Below.heap_setCell _ _ _ _ hne, Below.heap_setCell _ _ _ _ hne, Below.heap_setCell _ _ _ _ hne, Below.heap_alloc _ _ _ hk]
          have hs : wr.heap.size < (((((wr.alloc (.map es clock)).setCell ⟨db, 0, none⟩ (.map (some wr.heap.size))).setCell ⟨db, 2, none⟩ (.slice none 0 0)).setCell ⟨db, 5, none⟩ (.bool false)).setCell ⟨db, 4, none⟩ (.int .i64 (-1))).heap.size := by simp [World.setCell]
          have hb := Blk.set_ (Blk.set_ (Blk.set_ (Blk.set_ HB.out 0 (.map (some wr.heap.size))) 2 (.slice none 0 0)) 5 (.bool false)) 4 (.int .i64 (-1))
          have hne : wr.heap.size ≠ db := by have := (HD4.out.dom db (by rw [HD4.out.ldisk]; simp)); omega
          have hm : MapAt Try.prog 9 (((((wr.alloc (.map es clock)).setCell ⟨db, 0, none⟩ (.map (some wr.heap.size))).setCell ⟨db, 2, none⟩ (.slice none 0 0)).setCell ⟨db, 5, none⟩ (.bool false)).setCell ⟨db, 4, none⟩ (.int .i64 (-1))) φ wr.heap.size D := by
            refine MapAt.block HCL.out ?_
            rw [Below.heap_setCell _ _ _ _ hne, Below.heap_setCell _ _ _ _ hne, Below.heap_setCell _ _ _ _ hne, Below.heap_setCell _ _ _ _ hne]
          rw [HRES.out]
          exact ⟨rfl, _, _, sb, _, φ, fv', [], HD4.out.renow hs hk false (-1) hb hm, (HT1.out.trans HTK.out).trans (HD4.out.renow_turned hs hk rfl rfl rfl)⟩
        · intro x ca kl y1 y2 w2 cnt1 hkx hlx hy hat hrg1 hlt hg1 hs1 hen
          obtain ⟨s, e1, rfl⟩ := key_string hkx
          obtain ⟨i, fb, hi, hfb, rfl⟩ := entry_file HHELD.out (World.ownsMap.isMap HOWN.out) (y := (y1, y2)) hy hat
          have hD2 : DiskAt w2 L' db nb sb (.slice ao d.wait.length c) φ fv' cv { d with safe := D, files := trimBut bytes left D d.files } :=
            HDK.out.keep hg1.size (fun k hk => hg1.block k (HDK.out.dom k hk) (fun e => by cases e; exact hk HLN.out))
          obtain ⟨f, ao', cp, hf, hfv, hF⟩ := hD2.file_at hfb
          have b0 : w2.cell? ⟨fb, 0, none⟩ = some (.slice ao' f.b.length cp) := (Blk.cell hF.cells 0).trans rfl
          have b1 : w2.cell? ⟨fb, 1, none⟩ = some (.int .i64 f.safe) := (Blk.cell hF.cells 1).trans rfl
          have f0 : w2.frozen? ⟨fb, 0, none⟩ = false := Blk.frozen hF.cells 0
          have f1 : w2.frozen? ⟨fb, 1, none⟩ = false := Blk.frozen hF.cells 1
          obtain ⟨hl1, hl2⟩ := trimBut_lens HLENS.out f (List.mem_of_getElem? hf)
          obtain ⟨hc1, hc2, hc3⟩ := bytes_cap hF.bytes
          clear hc3
          obtain ⟨mb, hmb⟩ : ∃ mb, min bytes (f.b.length : Int) = mb := ⟨_, rfl⟩
          obtain ⟨mx, hmx⟩ : ∃ mx : Nat, max 0 mb = (mx : Int) := ⟨(max 0 mb).toNat, by omega⟩
          obtain ⟨n, hn⟩ : ∃ n : Nat, min (f.b.length : Int) ((f.safe : Int) + (mx : Int)) = (n : Int) := ⟨min f.b.length (f.safe + mx), by omega⟩
          have q1 := run_min2 bytes f.b.length mb hmb
          have q2 := run_max2 0 mb mx hmx
          have q3 := run_min2 f.b.length ((f.safe : Int) + (mx : Int)) n hn
          have q4 := run_cut_slice 32 (by kernel_rfl) 1 (fun W => by kernel_rfl) ao' f.b.length cp n (by omega)
          have hwr : IntKind.i64.wrap ((f.safe : Int) + (mx : Int)) = (f.safe : Int) + (mx : Int) := IntWalk.i64_in _ (by omega)
          have hnm : n = min f.b.length (f.safe + (max 0 (min bytes f.b.length)).toNat) := by rw [hmb, hmx]; omega
          have hncp : n ≤ cp := by omega
          have hnl : n ≤ f.b.length := by omega
          have HNM := Lib.hid (And.intro hnm hnl)
          have HCC := Lib.hid (And.intro hncp hc2)
          have HD2 := Lib.hid hD2
          have HF := Lib.hid hF
          have HR1 := Lib.hid hrg1
          have HG1 := Lib.hid hg1
          have HI1 := Lib.hid (And.intro hi (And.intro hf hlx))
          clear hat hy hkx hlx hF hf hmb hmx hn hl1 hl2 hc1 hc2 hnm hncp hnl hD2 hrg1 hg1 hi
          have HLT := Lib.hid hlt
          clear hlt
          go_wp2_with fail
          have hclip : ∀ W : World, Calls Try.prog 21 #[.slice ao' n cp] W fun e w'' => e = .returned (.slice ao' n n) ∧ w'' = W := fun W =>
            (clip_any W ao' n cp HCC.out.1 HCC.out.2).mono fun e w'' ⟨h1, h2⟩ => ⟨h1, h2.symm⟩
          have HCLIP := Lib.hid hclip
          clear hclip
          refine wp_region_still_tail 28 (by kernel_rfl) (by kernel_rfl) ?_
          simp only [List.take_succ_cons, List.take_zero, List.drop_succ_cons, List.drop_zero]
          clear hen hfv hs1 hrg0 hg0 hs0
          iterate 25 still_step
          still_call (HCLIP.out _)
          iterate 2 still_step
          refine wpStill_nil ?_
          change wpList _ _ _ _ _ w2.drew
          have hgd : w2.grownBy w2.drew none := ⟨rfl, rfl, rfl, Nat.le_refl _, fun _ _ _ => rfl⟩
          have hD3 := HD2.out.keep (w' := w2.drew) (Nat.le_refl _) (fun _ _ => rfl)
          have hF3 : FileAt w2.drew L' i fb (.slice ao' f.b.length cp) f := ⟨HF.out.lab, HF.out.cells, HF.out.bytes.keep (fun _ _ => rfl), HF.out.row⟩
          have hR3 := HR1.out.kept hgd (by simp) (by simp)
          have hT3 : Turned L L' w1 w2.drew := ⟨HG1.out.os.trans HTK.out.os, HG1.out.tape.trans HTK.out.tape, HG1.out.output.trans HTK.out.output, Nat.le_trans HTK.out.size HG1.out.size, fun k hk hl => (HG1.out.block k (Nat.lt_of_lt_of_le hk HTK.out.size) (fun e => by cases e; omega)).trans (HTK.out.block k hk hl), HTK.out.dom⟩
          have b0' : w2.drew.cell? ⟨fb, 0, none⟩ = some (.slice ao' f.b.length cp) := b0
          have b1' : w2.drew.cell? ⟨fb, 1, none⟩ = some (.int .i64 f.safe) := b1
          have f0' : w2.drew.frozen? ⟨fb, 0, none⟩ = false := f0
          have f1' : w2.drew.frozen? ⟨fb, 1, none⟩ = false := f1
          clear b0 b1 f0 f1 HD2 HF HR1 HG1 hgd
          generalize w2.drew = w3 at *
          have HD3 := Lib.hid hD3
          have HF3 := Lib.hid hF3
          have HR3 := Lib.hid hR3
          have HT3 := Lib.hid hT3
          clear hD3 hF3 hR3 hT3 q1 q2 q3 q4 hwr
          go_wp2
          go_roundw
          case rel =>
            have hgn : ∀ g, (Value.slice ao' n n).ownBlock = some g → (Value.slice ao' f.b.length cp).ownBlock = some g := fun g hg => by cases ao' <;> exact hg
            have hfin := HD3.out.retrim hfb HI1.out.2.1 HF3.out (trim bytes) HNM.out.2 (by simp only [trim]; rw [← HNM.out.1]) (m := n) (by have := HNM.out.2; simp only [trim]; rw [← HNM.out.1]; simp; omega)
            have hgs : w3.grownBy ((w3.setCell ⟨fb, 0, none⟩ (.slice ao' n n)).setCell ⟨fb, 1, none⟩ (.int .i64 n)) (some fb) := grown_set (grown_set (World.grownBy.refl _ _) _ _) _ _
            have hl1 := HF3.out.lab
            have hne1 : some sb ≠ some fb := fun e => by cases e; rw [HD3.out.lsafe] at hl1; cases hl1
            have hne2 : some w1.heap.size ≠ some fb := fun e => by cases e; rw [HLN.out] at hl1; cases hl1
            have hRR := HR3.out.kept hgs hne1 hne2
            refine ⟨_, cnt1, fun k => if (Value.slice ao' n n).ownBlock = some k then some (.row i) else L' k, fv'.set i (.slice ao' n n), hRR, ?_, HT3.out.trans hfin.2, ?_⟩
            · rw [trimBut_step bytes (World.ownsMap.tidy HOWN.out keyed) HI1.out.1]
              exact hfin.1
            · show (if (Value.slice ao' n n).ownBlock = some w1.heap.size then some (Lbl.row i) else L' w1.heap.size) = none
              rw [if_neg (fun e => by have := HF3.out.row _ (hgn _ e); rw [HLN.out] at this; cases this)]
              exact HLN.out
          case measure =>
            have hgs : w3.grownBy ((w3.setCell ⟨fb, 0, none⟩ (.slice ao' n n)).setCell ⟨fb, 1, none⟩ (.int .i64 n)) (some fb) := grown_set (grown_set (World.grownBy.refl _ _) _ _) _ _
            have hl1 := HF3.out.lab
            have hne1 : some sb ≠ some fb := fun e => by cases e; rw [HD3.out.lsafe] at hl1; cases hl1
            have hne2 : some w1.heap.size ≠ some fb := fun e => by cases e; rw [HLN.out] at hl1; cases hl1
            have := HR3.out.kept hgs hne1 hne2
            rw [this.left_eq, HRG.out.left_eq]
            exact HLT.out
end Go.Proofs.Ytombehaaaojhdaa
