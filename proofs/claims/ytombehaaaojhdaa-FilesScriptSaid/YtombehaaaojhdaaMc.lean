/- copied: a map of its own -/
import Derived.Test.YtombehaaaojhdaaMa
set_option linter.unusedVariables false
namespace Go.Proofs.Ytombehaaaojhdaa
open Go.Maps Go.RowKit

set_option maxHeartbeats 4000000 in
theorem copied_any (w : World) (φ : List Nat) (b : Nat) (D : NMap) (h : MapAt Try.prog 9 w φ b D) (hsz : Maps.size D ≤ 64) :
    Calls Try.prog 24 #[.map (some b)] w fun e w' => e = .returned (.map (some w.heap.size)) ∧ MapAt Try.prog 9 w' φ w.heap.size D ∧ Below w.heap.size w w' ∧ w.heap.size < w'.heap.size := by
  obtain ⟨w1, hw1⟩ : ∃ w1, w1 = w.alloc (.map #[] 0) := ⟨_, rfl⟩
  have hmm : (Instr.makeMap 27 none).run Try.prog w = .ok (.map (some w.heap.size)) w1 := by rw [hw1]; rfl
  have hb : b < w.heap.size := World.ownsMap.lt h
  have hown := World.ownsMap.alloc h (.map #[] 0)
  have hout : MapAt Try.prog 9 (w.alloc (.map #[] 0)) φ w.heap.size (.map []) := mapAt_of (World.ownsMap_made w Try.prog 9 (fread φ))
  have hsz1 : (w.alloc (.map #[] 0)).heap.size = w.heap.size + 1 := by show (w.heap.push _).size = _; rw [Array.size_push]
  have hbw := (Below.refl w.heap.size w).alloc (Nat.le_refl _) (.map #[] 0)
  rw [← hw1] at hown hout hsz1 hbw
  have HBL := Lib.hid hbw
  clear hbw hw1
  have HB := Lib.hid hb
  have HOWN := Lib.hid hown
  have HOUT := Lib.hid hout
  have HS1 := Lib.hid hsz1
  have HT := Lib.hid (World.ownsMap.tidy h keyed)
  have HC := Lib.hid (World.ownsMap.canon h keyed)
  have HSZ := Lib.hid hsz
  clear hb hown hout hsz1 h hsz
  go_enter Try.func24, Try.ntmps24
  go_wp2_with (first | (at_range; refine wpList_range_own _ rfl _ 27 rfl 9 44 keyed Try.underlying27 (fread φ) b _ D rfl HOWN.out ?_; intro w0 hrg0 hg0 hs0) | go_in)
  go_frame
  go_loopw [4] (fun _ wr => ∃ left cnt O, wr.ranges Try.prog 9 (fread φ) b w1.heap.size (Maps.size D) D left cnt ∧ MapAt Try.prog 9 wr φ w.heap.size O ∧ Agree O D left ∧ Maps.size O + cnt ≤ Maps.size D ∧ Below w.heap.size w wr ∧ w.heap.size + 1 < wr.heap.size) (fun _ wr => wr.rangeLeft b w1.heap.size)
  case atStart =>
    rw [HS1.out] at hs0
    have hne : w.heap.size < w1.heap.size := by rw [HS1.out]; omega
    refine ⟨_, _, .map [], hrg0, HOUT.out.block (hg0.block _ hne (by simp)), agree_start _, by simp [Maps.size], ?_, by have := HS1.out; omega⟩
    exact HBL.out.grown hg0 (by rw [HS1.out]; omega) (by simp)
  case round =>
    obtain ⟨left, cnt, O, hrg, hO, hA, hcnt, hB, hlt0⟩ := hrel
    have HRG := Lib.hid hrg
    have HO := Lib.hid hO
    have HA := Lib.hid hA
    have HCNT := Lib.hid hcnt
    have HBW := Lib.hid hB
    have HL0 := Lib.hid hlt0
    clear hrg hO hA hcnt hB hlt0 hrg0 hg0 hs0
    go_wp2_with (first | (at_next; refine wpList_next_ranges _ rfl _ rfl 9 keyed (fread φ) Value.string Value.pointer (fun key kl hk => by obtain ⟨s, e, _⟩ := key_string hk; exact ⟨s, e⟩) fread_shape b w1.heap.size _ _ _ _ rfl HRG.out ?_ ?_) | go_in)
    · intro hc0 hl0
      have hfin : O = D := agree_end HA.out hl0 (World.ownsMap.canon HO.out keyed) HC.out
      have HF := Lib.hid hfin
      clear hfin hl0 hc0
      go_wp2
      go_ret
      exact ⟨rfl, HF.out ▸ HO.out, HBW.out, by have := HL0.out; omega⟩
    · intro x ca kl y1 y2 w2 cnt1 hkx hlx hy hat hrg1 hlt hg1 hs1 hen
      obtain ⟨s, e1, rfl⟩ := key_string hkx
      have hO2 : MapAt Try.prog 9 w2 φ w.heap.size O := HO.out.block (hg1.block _ (World.ownsMap.lt HO.out) (by rw [HS1.out]; simp))
      have hsO : Maps.size O < maxLen := by have := HCNT.out; have := HSZ.out; unfold maxLen; omega
      have hstep := agree_step (d := y1) HA.out (World.ownsMap.isMap HO.out) (show WideAt.IsKeyLit (.string s.data.toList) from isKey _) (fun zd => hat zd)
      have hsz2 : Maps.size (O.put (.string s.data.toList) y1) ≤ Maps.size O + 1 := by
        rw [size_put (World.ownsMap.tidy HO.out keyed)]; split <;> omega
      have hy2 : y2 = [] := by
        rcases fread_inv (d := y1) (ps := y2) hy with ⟨e, _⟩ | ⟨fb, j, e, _, _⟩
        · cases e; simp [fread] at hy; exact hy.2
        · cases e
          simp only [fread, Option.map_eq_some_iff, Prod.mk.injEq] at hy
          obtain ⟨_, _, _, h⟩ := hy
          exact h.symm
      subst hy2
      have hb2 : Below w.heap.size w w2 := HBW.out.grown hg1 HBW.out.size (fun k e => by cases e; rw [HS1.out]; omega)
      have HO2 := Lib.hid hO2
      have HSO := Lib.hid hsO
      have HST := Lib.hid hstep
      have HS2 := Lib.hid (And.intro hsz2 hlt)
      have HKX := Lib.hid hkx
      have HY := Lib.hid hy
      have HR1 := Lib.hid hrg1
      have HB2 := Lib.hid hb2
      have HSZ2 := Lib.hid hs1
      clear hO2 hsO hstep hsz2 hkx hy hrg1 hb2 hs1 hat hlx hg1 hlt
      go_wp2_with (at_mapUpdate; refine wpList_mapUpdate_in _ rfl _ _ _ 27 rfl 9 44 keyed Try.underlying27 (fread φ) w.heap.size _ O rfl HO2.out HSO.out _ _ _ rfl rfl HKX.out _ [] HY.out ?_; intro w3 hown3 hturn3; have HO3 := Lib.hid hown3; have HG3 := Lib.hid hturn3.grown; clear hown3 hturn3)
      go_frame
      go_roundw
      case rel =>
        have hR3 := HR1.out.kept HG3.out (by have := HB.out; simp; omega) (by rw [HS1.out]; simp)
        refine ⟨_, cnt1, _, hR3, mapAt_of HO3.out, HST.out, by have := HS2.out; have := HCNT.out; omega, HB2.out.grown HG3.out HB2.out.size (fun k e => by cases e; exact Nat.le_refl _), by have := HG3.out.size; have := HSZ2.out; have := HL0.out; omega⟩
      case measure =>
        have hR3 := HR1.out.kept HG3.out (by have := HB.out; simp; omega) (by rw [HS1.out]; simp)
        rw [hR3.left_eq, HRG.out.left_eq]
        exact HS2.out.2
end Go.Proofs.Ytombehaaaojhdaa
