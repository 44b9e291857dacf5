/- the names of a disk, in their order; the disk and the model without a box -/
import Derived.Test.YtombehaaaojhdaaFb
import Derived.WalkLawsBesides
set_option linter.unusedVariables false
namespace Go.Proofs.Ytombehaaaojhdaa
open Go.Maps Go.RowKit Go.Sort

def TwoN (w0 w : World) (db mb : Nat) (d1 d2 : DV) : Prop :=
  ∃ L nb sb wv φ fv cv ML mnb mkb mwv mxv mφ mnv mxs, DiskAt w L db nb sb wv φ fv cv d1 ∧ ModelAt w ML mb mnb mkb mwv mxv mφ mnv mxs d2 ∧ (∀ k, L k ≠ none → ML k = none) ∧ (∀ k, k < w0.heap.size → L k = none ∧ ML k = none) ∧ Below w0.heap.size w0 w

theorem Two.noBox {w0 w : World} {db mb ab : Nat} {cs : Array Value} {d1 d2 : DV} (h : Two w0 w db mb ab cs d1 d2) : TwoN w0 w db mb d1 d2 := by
  obtain ⟨L, nb, sb, wv, φ, fv, cv, ML, mnb, mkb, mwv, mxv, mφ, mnv, mxs, hD, hM, hdis, hfree, hb0, hLa, hMa, hB⟩ := h
  exact ⟨L, nb, sb, wv, φ, fv, cv, ML, mnb, mkb, mwv, mxv, mφ, mnv, mxs, hD, hM, hdis, hfree, hb0⟩
theorem TwoN.base {w0 w : World} {db mb : Nat} {d1 d2 : DV} (h : TwoN w0 w db mb d1 d2) : Below w0.heap.size w0 w := by
  obtain ⟨L, nb, sb, wv, φ, fv, cv, ML, mnb, mkb, mwv, mxv, mφ, mnv, mxs, hD, hM, hdis, hfree, hb0⟩ := h
  exact hb0
theorem TwoN.newBox {w0 w : World} {db mb : Nat} {d1 d2 : DV} (h : TwoN w0 w db mb d1 d2) (cs : Array Value) : Two w0 (w.alloc (.cells cs 35)) db mb w.heap.size cs d1 d2 := by
  obtain ⟨L, nb, sb, wv, φ, fv, cv, ML, mnb, mkb, mwv, mxv, mφ, mnv, mxs, hD, hM, hdis, hfree, hb0⟩ := h
  have hb : Below w.heap.size w (w.alloc (.cells cs 35)) := (Below.refl _ w).alloc (Nat.le_refl _) _
  refine ⟨L, nb, sb, wv, φ, fv, cv, ML, mnb, mkb, mwv, mxv, mφ, mnv, mxs, hD.below hb, hM.below hb, hdis, hfree, hb0.trans (hb.mono hb0.size), ?_, hM.free (Nat.le_refl _), Blk.new w _ _⟩
  cases e : L w.heap.size with
  | none => rfl
  | some x => have := hD.dom w.heap.size (by rw [e]; simp); omega

/-! names -/
def leqB (s t : Nm) : Bool := Op.bytesLess s t || s == t

theorem names6_leq : ∀ s ∈ names6, ∀ t ∈ names6, s ≠ t → decide (s ≤ t) = true → leqB t s = false := by decide
theorem names6_pos : ∀ s ∈ names6, leqB s [] = false := by decide

theorem strKeys_names {N : List Nm} {D : NMap} (h : Names N D) (ht : Tidy D) : (strKeys D).length = Maps.size D ∧ (strKeys D).Nodup ∧ ∀ s ∈ strKeys D, s ∈ N := by
  obtain ⟨es, rfl, hp⟩ := ht
  refine ⟨by simp [strKeys, Maps.size], ?_, fun s hs => ?_⟩
  · unfold List.Nodup
    simp only [strKeys]
    rw [List.pairwise_map]
    refine hp.imp_of_mem fun {p q} hpm hqm hne e => ?_
    obtain ⟨s, _, e1⟩ := h p hpm
    obtain ⟨t, _, e2⟩ := h q hqm
    rw [e1, e2] at e hne
    simp only [strOf] at e
    exact hne (by rw [e])
  · simp only [strKeys, List.mem_map] at hs
    obtain ⟨p, hpm, rfl⟩ := hs
    obtain ⟨s, hs, e1⟩ := h p hpm
    rw [e1]; exact hs

theorem strKeys_look {n : Nat} {N : List Nm} {D : NMap} (h : Names N D) (ht : Tidy D) (hh : Held n D) {s : Nm} (hs : s ∈ strKeys D) : ∃ i, look D s = some i := by
  have hm := ht.isMap
  have h1 := has_look hm hh s
  have h2 : has D (.string s) = true := by
    obtain ⟨es, rfl, _⟩ := ht
    simp only [strKeys, List.mem_map] at hs
    obtain ⟨p, hpm, rfl⟩ := hs
    obtain ⟨t, _, e1⟩ := h p hpm
    rw [has_eq, List.any_eq_true]
    refine ⟨p, hpm, ?_⟩
    rw [e1]; simp [strOf, Lit.sameKey]
  rw [h2] at h1
  exact Option.isSome_iff_exists.1 h1.symm

theorem names_facts {k : Nat} {d : DV} (hI : d.Inv names6 k) {ns : List Nm} (hp : ns.Perm (strKeys d.now)) (hs : ns.Pairwise (fun x y => decide (x ≤ y) = true)) :
    ns.length = Maps.size d.now ∧ (∀ s ∈ ns, s ∈ names6 ∧ ∃ i, look d.now s = some i) ∧ (∀ i s t, ns[i]? = some s → ns[i + 1]? = some t → leqB t s = false) ∧ ns.length ≤ 6 := by
  obtain ⟨h1, h2, h3⟩ := strKeys_names hI.nnow hI.tnow
  have hn : ns.Nodup := hp.symm.nodup h2
  have hl : ns.length = Maps.size d.now := by rw [hp.length_eq, h1]
  have hmem : ∀ s ∈ ns, s ∈ names6 := fun s hs => h3 s (hp.mem_iff.1 hs)
  refine ⟨hl, fun s hs => ⟨hmem s hs, strKeys_look hI.nnow hI.tnow hI.hnow (hp.mem_iff.1 hs)⟩, fun i s t hi ht => ?_, by rw [hl]; exact hI.size⟩
  obtain ⟨hil, e1⟩ := List.getElem?_eq_some_iff.1 hi
  obtain ⟨htl, e2⟩ := List.getElem?_eq_some_iff.1 ht
  have hle := List.pairwise_iff_getElem.1 hs i (i + 1) hil htl (by omega)
  rw [e1, e2] at hle
  refine names6_leq s (hmem s (List.mem_of_getElem? hi)) t (hmem t (List.mem_of_getElem? ht)) (fun e => ?_) hle
  have := (List.getElem_inj (h₀ := hil) (h₁ := htl) hn).1 (by rw [e1, e2, e])
  omega

theorem bs_mk_toList (s : Nm) : (⟨s.toArray⟩ : ByteArray).toList = s := by rw [bs_toList]
theorem run_leq_str (s t : Nm) (h : leqB s t = false) (W : World) : (binOp .leq 9 (.string ⟨s.toArray⟩) (.string ⟨t.toArray⟩)).run Try.prog W = .ok (.bool false) W := by
  rw [binOp_string_leq, bs_mk_toList, bs_mk_toList]
  unfold leqB at h
  rw [h]; rfl
end Go.Proofs.Ytombehaaaojhdaa
