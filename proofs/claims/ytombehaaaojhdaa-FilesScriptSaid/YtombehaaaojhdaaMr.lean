/- (*Model).restart -/
import Derived.Test.YtombehaaaojhdaaMp
set_option linter.unusedVariables false
namespace Go.Proofs.Ytombehaaaojhdaa
open Go.Maps Go.RowKit

theorem trimBut_same (bytes : Int) {left : Lit → Bool} {D : NMap} (ht : Tidy D) {s : Nm} {i : Nat} (hi : look D s = some i) (hd : holdsBut left D i = true) (fs : List FileV) :
    trimBut bytes (fun z => left z && !z.sameKey (.string s)) D fs = trimBut bytes left D fs := by
  refine List.ext_getElem? fun j => ?_
  unfold trimBut
  rw [List.getElem?_mapIdx, List.getElem?_mapIdx]
  cases fs[j]? with
  | none => rfl
  | some f =>
    simp only [Option.map_some, holdsBut_step ht hi]
    by_cases e : j = i
    · subst e; simp [hd]
    · have : (j == i) = false := by simp; omega
      simp [this]

theorem holdsBut_start {D : NMap} (hk : ∀ p ∈ entries D, WideAt.IsKeyLit p.1) (i : Nat) : holdsBut (has D) D i = false := by
  unfold holdsBut
  rw [List.any_eq_false]
  intro p hp
  have : has D p.1 = true := by
    cases D with
    | map es =>
      rw [has_eq, List.any_eq_true]
      exact ⟨p, hp, WideAt.sameKey_self (hk p hp)⟩
    | _ => cases hp
  simp [this]

/-- the kept names' map has turned -/
theorem ModelAt.remap {w w' : World} {L : MLab} {mb nb kb : Nat} {wv xv : Value} {φ : List Nat} {nv xs : List Value} {d : DV} (h : ModelAt w L mb nb kb wv xv φ nv xs d) (hg : w.grownBy w' (some kb)) {D : NMap}
    (hm : MapAt Try.prog 9 w' φ kb D) (hD : Held φ.length D) : ModelAt w' L mb nb kb wv xv φ nv xs { d with safe := D } ∧ MTurned L L w w' := by
  have hkeep : ∀ k l, L k = some l → l ≠ .kept → w'.heap[k]? = w.heap[k]? := fun k l hl hne => hg.block k (h.dom k (by rw [hl]; simp)) (fun e => by cases e; rw [h.lkept] at hl; cases hl; exact hne rfl)
  refine ⟨{
    dom := fun k hl => Nat.lt_of_lt_of_le (h.dom k hl) hg.size
    lmodel := h.lmodel
    cells := (hkeep mb _ h.lmodel (by simp)).trans h.cells
    lnow := h.lnow
    lkept := h.lkept
    now := h.now.block (hkeep nb _ h.lnow (by simp))
    kept := hm
    hnow := h.hnow
    hkept := hD
    nfiles := h.nfiles
    files := fun i f hf => by
      obtain ⟨fb, h1, h3⟩ := h.files i f hf
      exact ⟨fb, h1, h3.lab, (hkeep fb _ h3.lab (by simp)).trans h3.cells⟩
    wait := ownsRow_block h.wait (fun g hg' => hkeep g _ (h.lwait g hg') (by simp))
    lwait := h.lwait
    fwait := ownsRow_block h.fwait (fun g hg' => hkeep g _ (h.lfwait g hg') (by simp))
    lfwait := h.lfwait
    chs := fun i cs hc => by
      obtain ⟨v, u, h1, h2, hm⟩ := h.chs i cs hc
      exact ⟨v, u, h1, h2, hm.keep fun k hl => by
        rcases hl with hl | hl <;> exact ⟨hkeep k _ hl (by simp), rfl⟩⟩
    hchs := h.hchs }, hg.os, hg.tape, hg.output, hg.size, fun k hk hl => hg.block k hk (fun e => by cases e; rw [h.lkept] at hl; cases hl), fun _ _ h => h⟩

theorem row_cell {w : World} {e : TypeId} {v : Value} {n : Nat} {xs : List Value} (h : w.ownsRow 0 e 1 v n xs) :
    ∃ ao c, v = .slice ao n c ∧ (∀ j u, xs[j]? = some u → ∃ g, ao = some ⟨g, 0, none⟩ ∧ w.cell? ⟨g, j, none⟩ = some u) ∧ n ≤ maxLen := by
  rcases h with ⟨hl, ⟨rfl, rfl⟩ | ⟨g, cap, cur, rfl, _, hg, hnc, hcm, hcs, ht⟩⟩
  · refine ⟨none, 0, rfl, fun j v hv => ?_, by unfold maxLen; omega⟩
    have hcv : xs = [] := List.eq_nil_of_length_eq_zero (by simpa using hl)
    rw [hcv] at hv
    cases hv
  · refine ⟨_, cap, rfl, fun j v hv => ⟨g, rfl, ?_⟩, by omega⟩
    rw [cell_of_row w g j cur _ (0, 0) hg]
    rw [← ht] at hv
    have hj : j < n := by
      rcases Nat.lt_or_ge j n with h' | h'
      · exact h'
      · rw [List.getElem?_eq_none (by simp; omega)] at hv; cases hv
    rw [Nat.mul_one, List.getElem?_take_of_lt hj] at hv
    simpa using hv

set_option maxRecDepth 100000 in
set_option maxHeartbeats 8000000 in
theorem mrestart_model (w : World) (L : MLab) (mb nb kb : Nat) (wv xv : Value) (φ : List Nat) (nv xs : List Value) (d : DV) (h : ModelAt w L mb nb kb wv xv φ nv xs d) (N : List Nm) (nc : Nat) (hI : d.Inv N nc) (hN : N.length ≤ 64) (hN2 : ∀ s ∈ N, s.length ≤ maxLen) (names bytes : Int) (hb1 : bytes ≤ 1099511627776) :
    Calls Try.prog 8 #[.pointer (some ⟨mb, 0, none⟩), .int .i64 names, .int .i64 bytes] w fun e w' => e = .returned (.tuple #[]) ∧ ModelTo w L mb (d.restart names bytes) w' := by
  obtain ⟨ao, c, rfl, hcv, hcm⟩ := row_cell h.wait
  obtain ⟨ao2, c2, rfl, hcx, _⟩ := row_cell h.fwait
  obtain ⟨len, hlen⟩ : ∃ len, len = d.wait.length := ⟨_, rfl⟩
  have hkm : mb ≠ kb := fun e => by have := h.lmodel; rw [e, h.lkept] at this; cases this
  have hcell : ∀ wr : World, w.grownBy wr (some kb) → wr.cell? ⟨mb, 1, none⟩ = some (.map (some kb)) ∧ wr.cell? ⟨mb, 2, none⟩ = some (.slice ao len c) ∧ wr.cell? ⟨mb, 3, none⟩ = some (.slice ao2 len c2) := fun wr hg => by
    have hB : Blk wr mb 31 _ := (hg.block mb (Blk.lt h.cells) (by simpa using hkm)).trans h.cells
    refine ⟨by rw [Blk.cell hB]; rfl, ?_, ?_⟩
    · rw [hlen, Blk.cell hB]; rfl
    · rw [hlen, Blk.cell hB]; rfl
  obtain ⟨nn, hnn⟩ : ∃ nn : Nat, (max 0 (min names (len : Int))).toNat = nn := ⟨_, rfl⟩
  have hnl : nn ≤ len := by omega
  have hnm : len ≤ 9223372036854775807 := by rw [hlen]; unfold maxLen at hcm; omega
  have HLEN := Lib.hid hlen
  have HNN := Lib.hid (And.intro hnn hnl)
  have HCV := Lib.hid hcv
  have HCX := Lib.hid hcx
  have H := Lib.hid h
  have HI := Lib.hid hI
  have HN := Lib.hid hN
  have HN2 := Lib.hid hN2
  have HCELL := Lib.hid hcell
  have HKM := Lib.hid hkm
  clear hlen hnn hcv hcx h hI hN hN2 hcm hcell hkm hnl
  go_enter Try.func8, Try.ntmps8
  go_wp2
  go_loopw [6] (fun k wr => ∃ j : Nat, j ≤ nn ∧ k = .int .i64 j ∧ MapAt Try.prog 9 wr φ kb ((d.wait.take j).foldl putAll d.safe) ∧ w.grownBy wr (some kb)) (fun k _ => nn - (intOf k).toNat)
  case atStart => exact ⟨0, Nat.zero_le _, rfl, H.out.kept, World.grownBy.refl _ _⟩
  case round =>
    obtain ⟨j, hj, rfl, hm, hgr⟩ := hrel
    obtain ⟨e1, e2, e3⟩ := HCELL.out wr hgr
    have HM := Lib.hid hm
    have HGR := Lib.hid hgr
    clear hm hgr
    by_cases hlt : j < nn
    · have hb2 : decide (j < len) = true := by have := HNN.out; simp; omega
      have hb3 : decide ((j : Int) < names) = true := by have := HNN.out; simp; omega
      obtain ⟨cs, hcs⟩ : ∃ cs, d.wait[j]? = some cs := ⟨_, List.getElem?_eq_getElem (by have := HLEN.out; have := HNN.out; omega)⟩
      obtain ⟨v, u, hv, hu, ⟨gc, hc, rfl, hgc, hlc, rfl, hhc, hlh⟩⟩ := H.out.chs j cs hcs
      obtain ⟨gw, rfl, hcw⟩ := HCV.out j _ hv
      obtain ⟨gx, rfl, hcx⟩ := HCX.out j _ hu
      have hcw' : wr.cell? ⟨gw, j, none⟩ = some (.slice (some ⟨gc, 0, none⟩) cs.length cs.length) :=
        HGR.out.cell hcw (fun e => by have h1 := H.out.lwait gw rfl; cases e; rw [H.out.lkept] at h1; cases h1)
      have hxk : some gx ≠ some kb := fun e => by have h1 := H.out.lfwait gx rfl; cases e; rw [H.out.lkept] at h1; cases h1
      have hcsl : cs.length ≤ 9223372036854775807 := by have := HI.out.wlen cs (List.mem_of_getElem? hcs); omega
      have hmem := List.mem_of_getElem? hcs
      have hgcs : gc ≠ kb := fun e => by rw [e, H.out.lkept] at hlc; cases hlc
      have hhcs : hc ≠ kb := fun e => by rw [e, H.out.lkept] at hlh; cases hlh
      have hstep : (d.wait.take (j + 1)).foldl putAll d.safe = putAll ((d.wait.take j).foldl putAll d.safe) cs := by
        rw [List.take_add_one, hcs, List.foldl_append]; rfl
      have HST := Lib.hid hstep
      have HCUR := Lib.hid (And.intro hgc hhc)
      have HCM := Lib.hid hmem
      have HNE := Lib.hid (And.intro hgcs (And.intro hhcs (And.intro hxk hcx)))
      clear hstep hgc hhc hmem hgcs hhcs hcs hcw hv hu hxk hcx
      have hjl0 : j < len := by have := HNN.out; omega
      have hjn0 : (j : Int) < names := by have := HNN.out; omega
      go_wp2
      generalize hD : (d.wait.take j).foldl putAll d.safe = D at *
      have HD := Lib.hid hD
      clear hD hb2 hb3
      obtain ⟨wo, rfl⟩ : ∃ wo : World, wo = wr := ⟨_, rfl⟩
      go_loopw [34] (fun k wi => ∃ i : Nat, i ≤ cs.length ∧ k = .int .i64 i ∧ MapAt Try.prog 9 wi φ kb (putAll D (cs.take i)) ∧ w.grownBy wi (some kb)) (fun k _ => cs.length - (intOf k).toNat)
      case atStart => exact ⟨0, Nat.zero_le _, rfl, HM.out, HGR.out⟩
      case round =>
        obtain ⟨i, hi, rfl, hmi, hgri⟩ := hrel
        by_cases hlti : i < cs.length
        · obtain ⟨ch, hch⟩ : ∃ ch, cs[i]? = some ch := ⟨_, List.getElem?_eq_getElem hlti⟩
          have hcm : ch.ok φ.length ∧ ch.1.length ≤ maxLen := ⟨H.out.hchs cs HCM.out ch (List.mem_of_getElem? hch), HN2.out _ (HI.out.nwait cs HCM.out ch (List.mem_of_getElem? hch))⟩
          have hgw : Blk wr gc 9 _ := (hgri.block gc (Blk.lt HCUR.out.1) (by simpa using HNE.out.1)).trans HCUR.out.1
          have hhw : Blk wr hc 44 _ := (hgri.block hc (Blk.lt HCUR.out.2) (by simpa using HNE.out.2.1)).trans HCUR.out.2
          obtain ⟨d1, d2, d3⟩ := HCELL.out wr hgri
          have g0 : wr.cell? ⟨gc, i, none⟩ = some (.string ⟨ch.1.toArray⟩) := by rw [Blk.cell hgw]; simp [hch]
          have g1 : wr.cell? ⟨hc, i, none⟩ = some (ptrOf φ ch.2) := by rw [Blk.cell hhw]; simp [hch]
          have g2 : wr.cell? ⟨gx, j, none⟩ = some (.slice (some ⟨hc, 0, none⟩) cs.length cs.length) := hgri.cell HNE.out.2.2.2 HNE.out.2.2.1
          have hjl : j < len := by have := HNN.out; omega
          have HMI := Lib.hid hmi
          have HGI := Lib.hid hgri
          have HCH := Lib.hid hcm
          have hstep : putAll D (cs.take (i + 1)) = put1 (putAll D (cs.take i)) ch := by
            rw [List.take_add_one, hch, ← putAll_snoc]; rfl
          have HSTI := Lib.hid hstep
          have hsz' : Maps.size (putAll D (cs.take i)) < maxLen := by
            have := put_len HI.out j HCM.out i
            rw [HD.out] at this
            have h2 := HN.out
            unfold maxLen; omega
          have HSZ := Lib.hid hsz'
          clear hmi hcm hgw hhw hstep hsz' hch hgri e1 e2 e3 hcw' d2
          obtain ⟨s, o⟩ := ch
          simp only at g0 g1
          obtain ⟨po, hp⟩ := ptrOf_shape φ o
          rw [hp] at g1
          have hput : ∀ w0 : World, w0.heap[kb]? = wr.heap[kb]? → Calls Try.prog 23 #[.map (some kb), .string ⟨s.toArray⟩, .pointer po] w0 fun e w' => e = .returned (.tuple #[]) ∧ MapAt Try.prog 9 w' φ kb (put1 (putAll D (cs.take i)) (s, o)) ∧ w0.grownBy w' (some kb) := fun w0 e => by
            have := mset_any w0 φ H.out.nodup kb (putAll D (cs.take i)) (s, o) (HMI.out.block e) HCH.out.1 HCH.out.2 HSZ.out
            rwa [hp] at this
          have HPUT := Lib.hid hput
          have HNK := Lib.hid (show some mb ≠ some kb ∧ some hc ≠ some kb from ⟨by simpa using HKM.out, by simpa using HNE.out.2.1⟩)
          clear hp hput
          go_wp2_with fail
          go_region_held3 (fun w' => w'.cell? ⟨mb, 1, none⟩ = some (.map (some kb)) ∧ w'.cell? ⟨mb, 3, none⟩ = some (.slice (some ⟨gx, 0, none⟩) len c2) ∧ w'.cell? ⟨gx, j, none⟩ = some (.slice (some ⟨hc, 0, none⟩) cs.length cs.length) ∧ w'.cell? ⟨hc, i, none⟩ = some (.pointer po))
            (first | exact ⟨d1, d3, g2, g1⟩ | exact ⟨hg2.cell d1 HNK.out.1, hg2.cell d3 HNK.out.1, hg2.cell g2 HNE.out.2.2.1, hg2.cell g1 HNK.out.2⟩)
            (first | (go_at_call 23; refine (HPUT.out _ ?_).mono ?_; (exact rfl); rintro e w2 ⟨rfl, hm2, hg2⟩))
          go_wp2
          go_roundw
          case rel =>
            exact ⟨i + 1, by omega, by go_num, by rw [HSTI.out]; exact hm2, HGI.out.trans ⟨hg2.os, hg2.tape, hg2.output, hg2.size, hg2.block⟩⟩
          case measure => simp [intOf]; omega
        · obtain rfl : i = cs.length := by omega
          rw [List.take_length] at hmi
          have HMI := Lib.hid hmi
          have HGI := Lib.hid hgri
          clear hmi hgri
          go_wp2
          go_roundw
          case rel => exact ⟨j + 1, by omega, by go_num, by rw [HST.out]; exact HMI.out, HGI.out⟩
          case measure => simp [intOf]; omega
    · obtain rfl : j = nn := by omega
      have hheld : Held φ.length ((d.wait.take j).foldl putAll d.safe) := by
        rw [H.out.nfiles]
        exact held_fold _ _ HI.out.hsafe (fun cs hcs => HI.out.hwait cs (List.mem_of_mem_take hcs))
      obtain ⟨hM1, hT1⟩ := H.out.remap HGR.out HM.out hheld
      have hsz64 : Maps.size ((d.wait.take j).foldl putAll d.safe) ≤ 64 := Nat.le_trans (HI.out.sizes j) HN.out
      have hres : d.restart names bytes = { d with now := (d.wait.take j).foldl putAll d.safe, safe := (d.wait.take j).foldl putAll d.safe, wait := [], files := trimAll bytes ((d.wait.take j).foldl putAll d.safe) d.files, down := false, left := -1 } := by
        unfold DV.restart
        simp only [← HLEN.out, HNN.out.1]
      have HRES := Lib.hid hres
      have hlens : ∀ f ∈ d.files, f.b.length ≤ 4294967296 ∧ f.safe ≤ f.b.length := fun f hf => by
        have h1 := HI.out.lens f hf
        have h2 := HI.out.room1
        exact ⟨by omega, h1.2⟩
      generalize (d.wait.take j).foldl putAll d.safe = D at *
      obtain ⟨w1, rfl⟩ : ∃ w1 : World, w1 = wr := ⟨_, rfl⟩
      obtain ⟨w2, hw2⟩ : ∃ w2, w2 = w1.alloc (.map #[] 0) := ⟨_, rfl⟩
      have hmm : (Instr.makeMap 68 none).run Try.prog w1 = .ok (.map (some w1.heap.size)) w2 := by rw [hw2]; rfl
      have hbw : Below w1.heap.size w1 w2 := by rw [hw2]; exact (Below.refl _ w1).alloc (Nat.le_refl _) _
      have hsz2 : w2.heap.size = w1.heap.size + 1 := by rw [hw2, size_alloc]
      have hM2 := hM1.below hbw
      have hown : MapAt Try.prog 9 w2 φ kb D := hM2.kept
      have hdone : DoneAt w2 φ w1.heap.size (holdsBut (has D) D) := by
        refine ⟨#[], 0, by rw [hw2]; exact heap_alloc_new w1 _, (fun e h => by simp at h), fun i fb _ h => ?_⟩
        rw [holdsBut_start (MapAt.keys hown)] at h; cases h
      have hfree : ∀ k, w1.heap.size ≤ k → L k = none := fun k hk => hM1.free hk
      have k1 : w2.cell? ⟨mb, 1, none⟩ = some (.map (some kb)) := (Blk.cell hM2.cells 1).trans rfl
      have HOWN := Lib.hid hown
      have HM2 := Lib.hid hM2
      have HT2 := Lib.hid hT1
      have HBW2 := Lib.hid (MTurned.below (L := L) hbw)
      have HDN := Lib.hid hdone
      have HFR := Lib.hid hfree
      have HS2 := Lib.hid hsz2
      have HHELD := Lib.hid hheld
      have HLENS := Lib.hid hlens
      have HSZ := Lib.hid hsz64
      have hfacts : (decide (j < len) = true ∧ decide ((j : Int) < names) = false ∧ names ≤ (j : Int)) ∨ (decide (j < len) = false ∧ len ≤ j) := by
        have := HNN.out
        by_cases h9 : j < len
        · exact .inl ⟨by simpa using h9, by simp; omega, by omega⟩
        · exact .inr ⟨by simpa using h9, by omega⟩
      clear hown hM1 hT1 hbw hsz2 hM2 hdone hfree hheld hlens hsz64 hres hw2 HM HGR hlt hj
      rcases hfacts with ⟨hb2, hb3, hc3⟩ | ⟨hb2, hc3⟩
      all_goals
          go_wp2_with (first | (at_range; refine wpList_range_own _ rfl _ 27 rfl 9 44 keyed Try.underlying27 (fread φ) kb _ D rfl HOWN.out ?_; intro w0 hrg0 hg0 hs0) | go_in)
          go_frame
          clear hb2 hc3
          go_loopw [11] (fun _ wr => ∃ left cnt, wr.ranges Try.prog 9 (fread φ) kb w2.heap.size (Maps.size D) D left cnt ∧ ModelAt wr L mb nb kb (.slice ao d.wait.length c) (.slice ao2 d.wait.length c2) φ nv xs { d with safe := D, files := trimBut bytes left D d.files } ∧ MTurned L L w1 wr ∧ DoneAt wr φ w1.heap.size (holdsBut left D)) (fun _ wr => wr.rangeLeft kb w2.heap.size)
          case atStart =>
            refine ⟨_, _, hrg0, ?_, HBW2.out.trans ⟨hg0.os, hg0.tape, hg0.output, hg0.size, fun k hk _ => hg0.block k hk (by simp), fun _ _ h => h⟩, HDN.out.keep (hg0.block _ (by have := HS2.out; omega) (by simp))⟩
            rw [trimBut_start _ _ (MapAt.keys HOWN.out)]
            exact HM2.out.keep hg0.size (fun k hk => hg0.block k (HM2.out.dom k hk) (by simp))
          case round =>
            obtain ⟨left, cnt, hrg, hDk, hTk, hDn⟩ := hrel
            have HRG := Lib.hid hrg
            have HDK := Lib.hid hDk
            have HTK := Lib.hid hTk
            have HDO := Lib.hid hDn
            clear hrg hDk hTk hDn hrg0 hg0 hs0
            go_wp2_with (first | (at_next; refine wpList_next_ranges _ rfl _ rfl 9 keyed (fread φ) Value.string Value.pointer (fun key kl hk => by obtain ⟨s, e, _⟩ := key_string hk; exact ⟨s, e⟩) fread_shape kb w2.heap.size _ _ _ _ rfl HRG.out ?_ ?_) | go_in)
            · intro hc0 hl0
              have hfin : trimBut bytes left D d.files = trimAll bytes D d.files := trimBut_end _ hl0 _ _
              have HF := Lib.hid hfin
              clear hfin hl0 hc0
              have hD4 := HDK.out
              rw [HF.out] at hD4
              have c1' : wr.cell? ⟨mb, 1, none⟩ = some (.map (some kb)) := (Blk.cell hD4.cells 1).trans rfl
              have hcp := copied_any wr φ kb D hD4.kept HSZ.out
              have HCP := Lib.hid hcp
              have HD4 := Lib.hid hD4
              clear hcp hD4
              go_wp2_with fail
              refine HCP.out.mono ?_
              rintro e w3 ⟨rfl, hmp, hbw, hlt⟩
              have hM3 := HD4.out.below hbw
              have y0 := Blk.cell hM3.cells 0
              have y2 := Blk.cell hM3.cells 2
              have y3 := Blk.cell hM3.cells 3
              have y5 := Blk.cell hM3.cells 5
              have y6 := Blk.cell hM3.cells 6
              have g0 := Blk.frozen hM3.cells 0
              have g2 := Blk.frozen hM3.cells 2
              have g3 := Blk.frozen hM3.cells 3
              have g5 := Blk.frozen hM3.cells 5
              have g6 := Blk.frozen hM3.cells 6
              simp at y0 y2 y3 y5 y6
              have HM3 := Lib.hid hM3
              have HMP := Lib.hid (And.intro hmp (And.intro hbw hlt))
              clear hM3 hmp hbw hlt
              go_wp2
              go_end0
              have hmbn : wr.heap.size ≠ mb := fun e => by have := HD4.out.dom mb (by rw [HD4.out.lmodel]; simp); omega
              have hkbm : kb ≠ mb := fun e => by have := HD4.out.lkept; rw [e, HD4.out.lmodel] at this; cases this
              have hB3 := Blk.set_ (Blk.set_ (Blk.set_ (Blk.set_ (Blk.set_ HM3.out.cells 0 (.map (some wr.heap.size))) 2 (.slice none 0 0)) 3 (.slice none 0 0)) 6 (.bool false)) 5 (.int .i64 (-1))
              have hkp : ∀ k, k ≠ mb → (((((w3.setCell ⟨mb, 0, none⟩ (.map (some wr.heap.size))).setCell ⟨mb, 2, none⟩ (.slice none 0 0)).setCell ⟨mb, 3, none⟩ (.slice none 0 0)).setCell ⟨mb, 6, none⟩ (.bool false)).setCell ⟨mb, 5, none⟩ (.int .i64 (-1))).heap[k]? = w3.heap[k]? := fun k hne => by
                rw [Below.heap_setCell _ _ _ _ hne, Below.heap_setCell _ _ _ _ hne, Below.heap_setCell _ _ _ _ hne, Below.heap_setCell _ _ _ _ hne, Below.heap_setCell _ _ _ _ hne]
              have hsz3 : wr.heap.size ≤ (((((w3.setCell ⟨mb, 0, none⟩ (.map (some wr.heap.size))).setCell ⟨mb, 2, none⟩ (.slice none 0 0)).setCell ⟨mb, 3, none⟩ (.slice none 0 0)).setCell ⟨mb, 6, none⟩ (.bool false)).setCell ⟨mb, 5, none⟩ (.int .i64 (-1))).heap.size := by have := HMP.out.2.2; simp [World.setCell]; omega
              obtain ⟨L2, hM', hdom⟩ := HD4.out.remade hsz3 (fun k hk hne => by rw [hkp k hne, HMP.out.2.1.block k hk]) wr.heap.size kb D D (-1) false hB3
                (HMP.out.1.block (hkp _ hmbn)) (HM3.out.kept.block (hkp _ hkbm))
                (fun e => by have := HD4.out.dom kb (by rw [HD4.out.lkept]; simp); omega) (.inr (Nat.le_refl _)) (.inl rfl) HHELD.out HHELD.out
              rw [HRES.out]
              refine ⟨rfl, L2, _, _, _, _, φ, _, _, hM', (HT2.out.trans HTK.out).trans ⟨HMP.out.2.1.os, HMP.out.2.1.tape, HMP.out.2.1.output, hsz3, fun k hk hl => ?_, hdom⟩⟩
              have hne : k ≠ mb := fun e => by rw [e, HD4.out.lmodel] at hl; cases hl
              rw [hkp k hne, HMP.out.2.1.block k hk]
            · intro x ca kl y1 y2 w3 cnt1 hkx hlx hy hat hrg1 hlt hg1 hs1 hen
              obtain ⟨s, e1, rfl⟩ := key_string hkx
              obtain ⟨i, fb, hi, hfb, rfl⟩ := entry_file HHELD.out (World.ownsMap.isMap HOWN.out) (y := (y1, y2)) hy hat
              have hLi : L w2.heap.size = none := HFR.out _ (by have := HS2.out; omega)
              have hLd : L w1.heap.size = none := HFR.out _ (Nat.le_refl _)
              have hD2 := HDK.out.keep (w' := w3) hg1.size (fun k hk => hg1.block k (HDK.out.dom k hk) (fun e => by cases e; exact hk hLi))
              have hT3 : MTurned L L w1 w3 := ⟨hg1.os.trans HTK.out.os, hg1.tape.trans HTK.out.tape, hg1.output.trans HTK.out.output, Nat.le_trans HTK.out.size hg1.size, fun k hk hl => (hg1.block k (Nat.lt_of_lt_of_le hk HTK.out.size) (fun e => by cases e; have := HS2.out; omega)).trans (HTK.out.block k hk hl), HTK.out.dom⟩
              have hdne : w1.heap.size ≠ w2.heap.size := by have := HS2.out; omega
              have hdlt : w1.heap.size < wr.heap.size := by
                obtain ⟨_, _, h9, _⟩ := HDO.out
                rcases Nat.lt_or_ge w1.heap.size wr.heap.size with h8 | h8
                · exact h8
                · rw [Array.getElem?_eq_none h8] at h9; cases h9
              have hDo := HDO.out.keep (hg1.block w1.heap.size hdlt (by simpa using hdne))
              have hisb : ∀ (V : World), (∀ k, L k ≠ none → V.heap[k]? = w3.heap[k]?) → ∀ j fj : Nat, φ[j]? = some fj → IsBlk V fj := fun V hV j fj hj => by
                obtain ⟨f, _, hF⟩ := hD2.file_at hj
                exact ⟨_, _, (hV fj (by rw [hF.lab]; simp)).trans hF.cells⟩
              have hlook := hDo.look H.out.nodup (hisb w3 (fun _ _ => rfl)) hfb
              obtain ⟨f, hf, hF⟩ := hD2.file_at hfb
              obtain ⟨hl1, hl2⟩ := trimBut_lens HLENS.out f (List.mem_of_getElem? hf)
              have HD2 := Lib.hid hD2
              have HT3 := Lib.hid hT3
              have HDO2 := Lib.hid hDo
              have HISB := Lib.hid hisb
              have HR1 := Lib.hid hrg1
              have HI1 := Lib.hid (And.intro hi (And.intro hf (And.intro hLd hdne)))
              have HLT := Lib.hid hlt
              have HLI := Lib.hid hLi
              clear hat hy hkx hlx hD2 hT3 hDo hisb hrg1 hlt hg1 hi hf hLi hLd hdne hdlt hs1
              cases hdn : holdsBut left D i with
              | true =>
                rw [hdn] at hlook
                clear hF hl1 hl2
                go_wp2
                go_roundw
                case rel =>
                  refine ⟨_, cnt1, HR1.out, ?_, HT3.out, ?_⟩
                  · rw [trimBut_same bytes (World.ownsMap.tidy HOWN.out keyed) HI1.out.1 hdn]
                    exact HD2.out
                  · have e9 : holdsBut (fun z => left z && !z.sameKey (.string x.data.toList)) D = holdsBut left D := by
                      funext j
                      rw [holdsBut_step (World.ownsMap.tidy HOWN.out keyed) HI1.out.1]
                      by_cases e : j = i
                      · rw [e, hdn]; simp
                      · have : (j == i) = false := by simpa using e
                        rw [this]; simp
                    rw [e9]; exact HDO2.out
                case measure =>
                  rw [HR1.out.left_eq, HRG.out.left_eq]
                  exact HLT.out
              | false =>
                rw [hdn] at hlook
                obtain ⟨S1, hS1⟩ : ∃ S1 : ByteArray, S1 = ⟨f.b.toArray⟩ := ⟨_, rfl⟩
                have hs1 : S1.size = f.b.length := by rw [hS1]; simp [ByteArray.size]
                obtain ⟨mb', hmb⟩ : ∃ mb', min bytes (S1.size : Int) = mb' := ⟨_, rfl⟩
                obtain ⟨mx, hmx⟩ : ∃ mx : Nat, max 0 mb' = (mx : Int) := ⟨(max 0 mb').toNat, by omega⟩
                obtain ⟨n, hn⟩ : ∃ n : Nat, min (S1.size : Int) ((f.safe : Int) + (mx : Int)) = (n : Int) := ⟨min S1.size (f.safe + mx), by omega⟩
                have q1 := run_min2 bytes S1.size mb' hmb
                have q2 := run_max2 0 mb' mx hmx
                have q3 := run_min2 S1.size ((f.safe : Int) + (mx : Int)) n hn
                have hnl : n ≤ f.b.length := by omega
                obtain ⟨S3, hS3⟩ : ∃ S3 : ByteArray, S3 = ⟨(f.b.take n).toArray⟩ := ⟨_, rfl⟩
                have hs3 : S3.size = n := by rw [hS3]; simp [ByteArray.size]; omega
                have q4 : ∀ V : World, (Instr.slice 9 (.string S1) none (some (.int .i64 n)) none).run Try.prog V = .ok (.string S3) V := fun V => by
                  rw [hS1, hS3]; exact run_cut_string f.b n hnl V
                have hwr : IntKind.i64.wrap ((f.safe : Int) + (mx : Int)) = (f.safe : Int) + (mx : Int) := IntWalk.i64_in _ (by omega)
                have hnm2 : n = min f.b.length (f.safe + (max 0 (min bytes f.b.length)).toNat) := by rw [← hs1, hmb, hmx]; omega
                have b0 : w3.cell? ⟨fb, 0, none⟩ = some (.string S1) := by rw [hS1]; exact (Blk.cell hF.cells 0).trans rfl
                have b1 : w3.cell? ⟨fb, 1, none⟩ = some (.int .i64 f.safe) := (Blk.cell hF.cells 1).trans rfl
                have f0 : w3.frozen? ⟨fb, 0, none⟩ = false := Blk.frozen hF.cells 0
                have f1 : w3.frozen? ⟨fb, 1, none⟩ = false := Blk.frozen hF.cells 1
                have HNM := Lib.hid (And.intro hnm2 (And.intro hnl (And.intro hS3 hs3)))
                have HF := Lib.hid hF
                clear hF hl1 hl2 hmb hmx hn hnl hS3 hs3 hnm2 hS1
                have hs1' : S1.size ≤ 4294967296 := by have := HLENS.out; have := trimBut_lens HLENS.out f (List.mem_of_getElem? HI1.out.2.1); omega
                clear hs1
                go_wp2_with fail
                go_region
                all_goals
                  have hfbl : L fb = some (.file i) := HF.out.lab
                  have hwf : w1.heap.size ≠ fb := fun e => by rw [← e, HI1.out.2.2.1] at hfbl; cases hfbl
                  have hif : w2.heap.size ≠ fb := fun e => by rw [← e, HLI.out] at hfbl; cases hfbl
                  have hgv : w3.grownBy ((w3.setCell ⟨fb, 0, none⟩ (.string S3)).setCell ⟨fb, 1, none⟩ (.int .i64 S3.size)).drew (some fb) := grown_drew (grown_set (grown_set (World.grownBy.refl _ _) _ _) _ _)
                  have hbv : Blk ((w3.setCell ⟨fb, 0, none⟩ (.string S3)).setCell ⟨fb, 1, none⟩ (.int .i64 S3.size)).drew fb 48 #[.string S3, .int .i64 S3.size] := Blk.set_ (Blk.set_ HF.out.cells 0 (.string S3)) 1 (.int .i64 S3.size)
                  have hdv := HDO2.out.keep (hgv.block w1.heap.size (by have := HDO2.out; obtain ⟨_, _, h9, _⟩ := this; rcases Nat.lt_or_ge w1.heap.size w3.heap.size with h8 | h8; exact h8; rw [Array.getElem?_eq_none h8] at h9; cases h9) (by simpa using hwf))
                  have hisv : ∀ j fj : Nat, φ[j]? = some fj → IsBlk ((w3.setCell ⟨fb, 0, none⟩ (.string S3)).setCell ⟨fb, 1, none⟩ (.int .i64 S3.size)).drew fj := fun j fj hj => by
                    by_cases e : fj = fb
                    · rw [e]; exact ⟨_, _, hbv⟩
                    · obtain ⟨f', _, hF'⟩ := HD2.out.file_at hj
                      exact ⟨_, _, (hgv.block fj (Blk.lt hF'.cells) (by simpa using e)).trans hF'.cells⟩
                  obtain ⟨w4, hrun, hD4, hg4⟩ := hdv.store H.out.nodup hisv hfb hdn
                  have HGV := Lib.hid (And.intro hgv hbv)
                  have HD4 := Lib.hid (And.intro hD4 hg4)
                  have HIF := Lib.hid (And.intro hwf hif)
                  clear hgv hbv hdv hisv hD4 hg4 hwf hif q1 q2 q3 q4 hwr hlook hfbl
                  go_wp2
                  go_roundw
                  case rel =>
                    obtain ⟨hM9, hT9⟩ := HD2.out.upd hfb HI1.out.2.1 (trim bytes) HGV.out.1 (by
                      have h9 := HGV.out.2
                      have h8 := HNM.out
                      have e8 : (trim bytes f) = { b := f.b.take n, safe := n } := by
                        simp only [trim, ← h8.1]
                        rw [List.length_take, Nat.min_eq_left h8.2.1]
                      rw [e8]
                      have e7 : (#[.string S3, .int .i64 S3.size] : Array Value) = #[.string ⟨(f.b.take n).toArray⟩, .int .i64 n] := by rw [h8.2.2.2, h8.2.2.1]
                      rw [e7] at h9
                      exact h9)
                    have hM10 := hM9.keep HD4.out.2.size (fun k hk => HD4.out.2.block k (hM9.dom k hk) (fun e => by cases e; exact hk HI1.out.2.2.1))
                    have hT10 : MTurned L L w1 w4 := by
                      have h7 := HT3.out.trans hT9
                      refine ⟨HD4.out.2.os.trans h7.os, HD4.out.2.tape.trans h7.tape, HD4.out.2.output.trans h7.output, Nat.le_trans h7.size HD4.out.2.size, fun k hk hl => (HD4.out.2.block k (Nat.lt_of_lt_of_le hk h7.size) (fun e => by cases e; omega)).trans (h7.block k hk hl), h7.dom⟩
                    have hR10 := (HR1.out.kept HGV.out.1 (fun e => by have := HD2.out.lkept; cases e; rw [HF.out.lab] at this; cases this) (by simpa using HIF.out.2)).kept HD4.out.2 (fun e => by have := HD2.out.lkept; cases e; rw [HI1.out.2.2.1] at this; cases this) (by simpa using HI1.out.2.2.2.symm)
                    refine ⟨_, cnt1, hR10, ?_, hT10, ?_⟩
                    · rw [trimBut_step bytes (World.ownsMap.tidy HOWN.out keyed) HI1.out.1]
                      exact hM10
                    · have e9 : holdsBut (fun z => left z && !z.sameKey (.string x.data.toList)) D = fun j => holdsBut left D j || j == i := by
                        funext j
                        exact holdsBut_step (World.ownsMap.tidy HOWN.out keyed) HI1.out.1 j
                      rw [e9]; exact HD4.out.1
                  case measure =>
                    have hR10 := (HR1.out.kept HGV.out.1 (fun e => by have := HD2.out.lkept; cases e; rw [HF.out.lab] at this; cases this) (by simpa using HIF.out.2)).kept HD4.out.2 (fun e => by have := HD2.out.lkept; cases e; rw [HI1.out.2.2.1] at this; cases this) (by simpa using HI1.out.2.2.2.symm)
                    rw [hR10.left_eq, HRG.out.left_eq]
                    exact HLT.out
end Go.Proofs.Ytombehaaaojhdaa
