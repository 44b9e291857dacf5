/- (*Model).change: the walk -/
import Derived.Test.YtombehaaaojhdaaMh
set_option linter.unusedVariables false
namespace Go.Proofs.Ytombehaaaojhdaa
open Go.Maps Go.RowKit
attribute [local go_sem ↓] Go.wp_at_zero Go.wp_at_succ

set_option maxHeartbeats 16000000 in
theorem mchange_model (w : World) (L : MLab) (mb nb kb : Nat) (wv xv : Value) (φ : List Nat) (nv xs : List Value) (d : DV) (h : ModelAt w L mb nb kb wv xv φ nv xs d) (g hf : Nat) (cs : List Ch)
    (hg : Blk w g 9 (cs.map fun c => Value.string ⟨c.1.toArray⟩).toArray) (hh : Blk w hf 44 (cs.map fun c => ptrOf φ c.2).toArray) (hLg : L g = none) (hLh : L hf = none) (hne : g ≠ hf)
    (hcs : ∀ c ∈ cs, c.ok φ.length ∧ c.1.length ≤ maxLen) (hsz : Maps.size d.now + cs.length < 1000000) (hnw : d.wait.length ≤ 1099511627776) :
    Calls Try.prog 31 #[.pointer (some ⟨mb, 0, none⟩), .slice (some ⟨g, 0, none⟩) cs.length cs.length, .slice (some ⟨hf, 0, none⟩) cs.length cs.length] w fun e w' => e = .returned (.tuple #[]) ∧
      ∃ L' wv' xv' nv' xs', ModelAt w' L' mb nb kb wv' xv' φ nv' xs' (d.set cs) ∧ w'.os = w.os ∧ w'.tape = w.tape ∧ w'.output = w.output ∧ w.heap.size ≤ w'.heap.size ∧
        (∀ k, k < w.heap.size → L k = none → w'.heap[k]? = w.heap[k]?) ∧ (∀ k, k < w.heap.size → L' k ≠ none → L k ≠ none ∨ k = g ∨ k = hf) := by
  have hgn : g ≠ nb := fun e => by rw [e, h.lnow] at hLg; cases hLg
  have hhn : hf ≠ nb := fun e => by rw [e, h.lnow] at hLh; cases hLh
  have hmn : mb ≠ nb := fun e => by have := h.lmodel; rw [e, h.lnow] at this; cases this
  have c0 : w.cell? ⟨mb, 0, none⟩ = some (.map (some nb)) := (Blk.cell h.cells 0).trans rfl
  have hcl : cs.length ≤ 9223372036854775807 := by omega
  have H := Lib.hid h
  have HG := Lib.hid hg
  have HH := Lib.hid hh
  have HCS := Lib.hid hcs
  have HSZ := Lib.hid hsz
  have HNW := Lib.hid hnw
  have HNE := Lib.hid (And.intro hgn (And.intro hhn hmn))
  clear h hg hh hcs hsz hnw hgn hhn hmn
  go_enter Try.func31, Try.ntmps31
  go_wp2
  go_loopw [10] (fun k wr => ∃ j : Nat, j ≤ cs.length ∧ k = .int .i64 j ∧ MapAt Try.prog 9 wr φ nb (putAll d.now (cs.take j)) ∧ w.grownBy wr (some nb)) (fun k _ => cs.length - (intOf k).toNat)
  case atStart => exact ⟨0, Nat.zero_le _, rfl, H.out.now, World.grownBy.refl _ _⟩
  case round =>
    obtain ⟨j, hj, rfl, hm, hgr⟩ := hrel
    have HM := Lib.hid hm
    have HGR := Lib.hid hgr
    clear hm hgr c0
    by_cases hlt : j < cs.length
    · obtain ⟨ch, hch⟩ : ∃ ch, cs[j]? = some ch := ⟨_, List.getElem?_eq_getElem hlt⟩
      have hcm := HCS.out ch (List.mem_of_getElem? hch)
      have hgw : Blk wr g 9 _ := (HGR.out.block g (Blk.lt HG.out) (by simpa using HNE.out.1)).trans HG.out
      have hhw : Blk wr hf 44 _ := (HGR.out.block hf (Blk.lt HH.out) (by simpa using HNE.out.2.1)).trans HH.out
      have hdw := (HGR.out.block mb (Blk.lt H.out.cells) (by simpa using HNE.out.2.2)).trans H.out.cells
      have g0 : wr.cell? ⟨g, j, none⟩ = some (.string ⟨ch.1.toArray⟩) := by rw [Blk.cell hgw]; simp [hch]
      have g1 : wr.cell? ⟨hf, j, none⟩ = some (ptrOf φ ch.2) := by rw [Blk.cell hhw]; simp [hch]
      have d0 : wr.cell? ⟨mb, 0, none⟩ = some (.map (some nb)) := by rw [Blk.cell hdw]; rfl
      have hstep : putAll d.now (cs.take (j + 1)) = put1 (putAll d.now (cs.take j)) ch := by
        rw [List.take_add_one, hch, ← putAll_snoc]; rfl
      have hsz' : Maps.size (putAll d.now (cs.take j)) < maxLen := by
        have := (size_putAll (cs.take j) d.now (World.ownsMap.tidy H.out.now keyed)).2
        have h2 : (cs.take j).length ≤ cs.length := by simp; omega
        have := HSZ.out
        unfold maxLen; omega
      have HCM := Lib.hid hcm
      have HST := Lib.hid hstep
      have HSZ2 := Lib.hid hsz'
      clear hcm hgw hhw hdw hstep hsz' hch
      obtain ⟨s, o⟩ := ch
      simp only at g0 g1
      obtain ⟨po, hp⟩ := ptrOf_shape φ o
      rw [hp] at g1
      have hput : ∀ w0 : World, w0.heap[nb]? = wr.heap[nb]? → Calls Try.prog 23 #[.map (some nb), .string ⟨s.toArray⟩, .pointer po] w0 fun e w' => e = .returned (.tuple #[]) ∧ MapAt Try.prog 9 w' φ nb (put1 (putAll d.now (cs.take j)) (s, o)) ∧ w0.grownBy w' (some nb) := fun w0 e => by
        have := mset_any w0 φ H.out.nodup nb (putAll d.now (cs.take j)) (s, o) (HM.out.block e) HCM.out.1 HCM.out.2 HSZ2.out
        rwa [hp] at this
      have HPUT := Lib.hid hput
      clear hp hput
      go_wp2_with fail
      go_region_held3 (fun w' => w'.cell? ⟨mb, 0, none⟩ = some (.map (some nb)) ∧ w'.cell? ⟨hf, j, none⟩ = some (.pointer po))
        (first | exact ⟨d0, g1⟩ | exact ⟨hg2.cell d0 (by simpa using HNE.out.2.2), hg2.cell g1 (by simpa using HNE.out.2.1)⟩)
        (first | (go_at_call 23; refine (HPUT.out _ ?_).mono ?_; (exact rfl); rintro e w2 ⟨rfl, hm2, hg2⟩))
      go_wp2
      go_roundw
      case rel =>
        exact ⟨j + 1, by omega, by go_num, by rw [HST.out]; exact hm2, HGR.out.trans ⟨hg2.os, hg2.tape, hg2.output, hg2.size, hg2.block⟩⟩
      case measure => simp [intOf]; omega
    · obtain rfl : j = cs.length := by omega
      have hm := HM.out
      rw [List.take_length] at hm
      have HM1 := Lib.hid hm
      clear hm HM
      have hdw := (HGR.out.block mb (Blk.lt H.out.cells) (by simpa using HNE.out.2.2)).trans H.out.cells
      obtain ⟨ao1, l1, c1, hwv⟩ := ownsRow_shape H.out.wait
      obtain ⟨ao2, l2, c2, hxv⟩ := ownsRow_shape H.out.fwait
      subst hwv
      subst hxv
      have d2 : wr.cell? ⟨mb, 2, none⟩ = some (.slice ao1 l1 c1) := by rw [Blk.cell hdw]; rfl
      have d3 : wr.cell? ⟨mb, 3, none⟩ = some (.slice ao2 l2 c2) := by rw [Blk.cell hdw]; rfl
      have f2 : wr.frozen? ⟨mb, 2, none⟩ = false := Blk.frozen hdw 2
      have f3 : wr.frozen? ⟨mb, 3, none⟩ = false := Blk.frozen hdw 3
      have hnb1 : ∀ k, (Value.slice ao1 l1 c1).ownBlock = some k → k ≠ nb ∧ k ≠ mb ∧ (Value.slice ao2 l2 c2).ownBlock ≠ some k := fun k e => by
        have h1 := H.out.lwait k e
        exact ⟨(fun e2 => by rw [e2, H.out.lnow] at h1; cases h1), (fun e2 => by rw [e2, H.out.lmodel] at h1; cases h1), (fun e2 => by have h2 := H.out.lfwait k e2; rw [h1] at h2; cases h2)⟩
      have hnb2 : ∀ k, (Value.slice ao2 l2 c2).ownBlock = some k → k ≠ nb ∧ k ≠ mb ∧ (Value.slice ao1 l1 c1).ownBlock ≠ some k := fun k e => by
        have h1 := H.out.lfwait k e
        exact ⟨(fun e2 => by rw [e2, H.out.lnow] at h1; cases h1), (fun e2 => by rw [e2, H.out.lmodel] at h1; cases h1), (fun e2 => by have h2 := H.out.lwait k e2; rw [h1] at h2; cases h2)⟩
      have hk1 : ∀ W : World, Below wr.heap.size wr W → ∀ g, (Value.slice ao1 l1 c1).ownBlock = some g → W.heap[g]? = w.heap[g]? := fun W hb g e =>
        (hb.block g (Nat.lt_of_lt_of_le (H.out.wait.lt g e).2 HGR.out.size)).trans (HGR.out.block g (H.out.wait.lt g e).2 (by simpa using (hnb1 g e).1))
      have hk2 : ∀ w1 W : World, Below w1.heap.size w1 W → ∀ v1 n l, Aft wr w1 (.slice ao1 l1 c1) v1 42 n l → ∀ g, (Value.slice ao2 l2 c2).ownBlock = some g → W.heap[g]? = w.heap[g]? := fun w1 W hb v1 n l hA g e => by
        have hlt := Nat.lt_of_lt_of_le (H.out.fwait.lt g e).2 HGR.out.size
        exact (hb.block g (Nat.lt_of_lt_of_le hlt hA.size)).trans ((hA.keep g hlt (hnb2 g e).2.2).trans (HGR.out.block g (H.out.fwait.lt g e).2 (by simpa using (hnb2 g e).1)))
      have bA : ∀ (w : World) o, Below w.heap.size w (w.drew.alloc o) := fun w o => below_of_drew ((Below.refl _ w.drew).alloc (Nat.le_refl _) o)
      have bA2 : ∀ (w : World) o, Below w.heap.size w (w.alloc o) := fun w o => (Below.refl _ w).alloc (Nat.le_refl _) o
      have bAA : ∀ (w : World) o o', Below w.heap.size w ((w.drew.alloc o).alloc o') := fun w o o' => below_of_drew (((Below.refl _ w.drew).alloc (Nat.le_refl _) o).alloc (by rw [size_alloc]; exact Nat.le_succ _) o')
      have HMB := Lib.hid (show Blk wr mb 31 _ from hdw)
      have HK1 := Lib.hid hk1
      have HK2 := Lib.hid hk2
      have HNB1 := Lib.hid hnb1
      have HNB2 := Lib.hid hnb2
      have HBA := Lib.hid (And.intro bA (And.intro bA2 bAA))
      have hmne1 : (Value.slice ao1 l1 c1).ownBlock ≠ some mb := fun e => (hnb1 mb e).2.1 rfl
      have hmne2 : (Value.slice ao2 l2 c2).ownBlock ≠ some mb := fun e => (hnb2 mb e).2.1 rfl
      have HMN := Lib.hid (And.intro hmne1 hmne2)
      have hfar : ∀ k, wr.heap.size ≤ k → some k ≠ (Value.slice ao1 l1 c1).ownBlock := fun k hk e => by
        have := (H.out.wait.lt k e.symm).2
        have := HGR.out.size
        omega
      have HFAR := Lib.hid hfar
      clear hfar
      have d2' := fun o => cellA d2 o
      have d3' := fun o => cellA d3 o
      have d2'' := fun o o' => cellA (cellA d2 o) o'
      have d3'' := fun o o' => cellA (cellA d3 o) o'
      clear hdw hk1 hk2 bA bA2 bAA hnb1 hnb2 hmne1 hmne2
      go_wp2_with fail
      go_region_law (first
        | (refine step_more w _ 28 42 (by kernel_rfl) info_names (by rfl) _ _ (by rfl) (.slice ao1 l1 c1) d.wait.length nv HNW.out (by rfl) H.out.wait (HK1.out _ (by first | exact HBA.out.1 _ _ | exact HBA.out.2.2 _ _ _)) g cs.length cs.length _ (by rfl) (by first | exact cell_new1 _ _ _ | exact cellA (cell_new1 _ _ _) _ | exact cell_new1' _ _ _ _) ?_; intro ao1' l1' c1' w1 hown1 hg1 hat1; have A1 := Lib.hid (Aft.mk' (by first | exact HBA.out.1 wr _ | exact HBA.out.2.2 wr _ _) hown1 hg1 hat1); have e1 := Blk.cell (A1.out.cell HMB.out HMN.out.1) 3; have q2 := Blk.frozen (A1.out.cell HMB.out HMN.out.1) 2; have q3 := Blk.frozen (A1.out.cell HMB.out HMN.out.1) 3; simp at e1; have e1' := fun o => cellA e1 o; clear hown1 hat1)
        | (refine step_more w _ 29 67 (by kernel_rfl) info_files (by rfl) _ _ (by rfl) (.slice ao2 l2 c2) d.wait.length xs HNW.out (by rfl) H.out.fwait (HK2.out w1 _ (by first | exact Below.refl _ _ | exact HBA.out.2.1 _ _) _ _ _ A1.out) hf cs.length cs.length _ (by rfl) (by first | exact cell_new1 _ _ _ | exact hg1.cell (by first | exact cell_new1 _ _ _ | exact cellA (cell_new1 _ _ _) _ | exact cell_new1' _ _ _ _) (by first | exact HFAR.out _ (Nat.le_refl _) | exact HFAR.out _ (Nat.le_succ _))) ?_; intro ao2' l2' c2' w2 hown2 hg2 hat2; have A2 := Lib.hid (Aft.mk' (wr := w1) (by first | exact Below.refl _ _ | exact HBA.out.2.1 _ _) hown2 hg2 hat2); have e2 := Blk.cell (A2.out.cell (A1.out.cell HMB.out HMN.out.1) HMN.out.2) 2; have e3 := Blk.cell (A2.out.cell (A1.out.cell HMB.out HMN.out.1) HMN.out.2) 3; have r2 := Blk.frozen (A2.out.cell (A1.out.cell HMB.out HMN.out.1) HMN.out.2) 2; have r3 := Blk.frozen (A2.out.cell (A1.out.cell HMB.out HMN.out.1) HMN.out.2) 3; simp at e2 e3; clear hown2 hat2 hg2))
      all_goals go_wp2
      all_goals go_end0
      all_goals exact ⟨rfl, mchange_close H.out HG.out HH.out hLg hLh hne (fun c hc => (HCS.out c hc).1) HGR.out HM1.out A1.out A2.out⟩
end Go.Proofs.Ytombehaaaojhdaa
