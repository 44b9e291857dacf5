/- one file of a disk turns -/
import Derived.Test.YtombehaaaojhdaaDa
set_option linter.unusedVariables false
namespace Go.Proofs.Ytombehaaaojhdaa
open Go.Maps Go.RowKit

theorem DiskAt.upd {w w' : World} {L : Lab} {db nb sb : Nat} {wv : Value} {φ : List Nat} {fv cv : List Value} {d : DV} (h : DiskAt w L db nb sb wv φ fv cv d) {i fb : Nat} {f : FileV} (hfb : φ[i]? = some fb) (hf : d.files[i]? = some f)
    (F : FileV → FileV) (v' : Value) (hs : w.heap.size ≤ w'.heap.size) (hk : ∀ k, L k ≠ none → k ≠ fb → L k ≠ some (.row i) → w'.heap[k]? = w.heap[k]?)
    (hb : Blk w' fb 64 #[v', .int .i64 (F f).safe]) (hby : BytesAt w' v' (F f).b) (hrow : ∀ g, v'.ownBlock = some g → L g = some (.row i) ∨ (w.heap.size ≤ g ∧ g < w'.heap.size)) :
    DiskAt w' (fun k => if v'.ownBlock = some k then some (.row i) else L k) db nb sb wv φ (fv.set i v') cv (d.file i F) := by
  have hfl : ∀ k l, L k = some l → (if v'.ownBlock = some k then some (Lbl.row i) else L k) = some l := fun k l hl => by
    split
    · rename_i e
      rcases hrow k e with h1 | ⟨h1, _⟩
      · rw [h1] at hl; exact hl
      · have := h.dom k (by rw [hl]; simp)
        omega
    · exact hl
  have hfbl : L fb = some (.file i) := by
    obtain ⟨fb', v, h1, _, h3⟩ := h.files i f hf
    rw [hfb] at h1; cases h1; exact h3.lab
  have hkeep : ∀ k l, L k = some l → l ≠ .file i → l ≠ .row i → w'.heap[k]? = w.heap[k]? := fun k l hl h1 h2 =>
    hk k (by rw [hl]; simp) (fun e => by rw [e, hfbl] at hl; cases hl; exact h1 rfl) (fun e => by rw [hl] at e; cases e; exact h2 rfl)
  exact {
    dom := fun k hl => by
      have hl' : (if v'.ownBlock = some k then some (Lbl.row i) else L k) ≠ none := hl
      by_cases e : v'.ownBlock = some k
      · rcases hrow k e with h1 | ⟨_, h1⟩
        · exact Nat.lt_of_lt_of_le (h.dom k (by rw [h1]; simp)) hs
        · exact h1
      · rw [if_neg e] at hl'
        exact Nat.lt_of_lt_of_le (h.dom k hl') hs
    ldisk := hfl _ _ h.ldisk
    cells := (hkeep db _ h.ldisk (by simp) (by simp)).trans h.cells
    lnow := hfl _ _ h.lnow
    lsafe := hfl _ _ h.lsafe
    now := h.now.block (hkeep nb _ h.lnow (by simp) (by simp))
    safe := h.safe.block (hkeep sb _ h.lsafe (by simp) (by simp))
    hnow := h.hnow
    hsafe := h.hsafe
    nfiles := by rw [h.nfiles]; simp [DV.file]
    nvals := by simp [DV.file, h.nvals]
    files := fun j g hg => by
      have hg' : (d.files.modify i F)[j]? = some g := hg
      rw [List.getElem?_modify] at hg'
      by_cases e : i = j
      · subst e
        rw [hf] at hg'
        simp at hg'
        subst hg'
        have hi : i < fv.length := by have := h.nvals; have := (List.getElem?_eq_some_iff.1 hf).1; omega
        exact ⟨fb, v', hfb, by rw [List.getElem?_set_self hi], hfl _ _ hfbl, hb, hby, fun k hk' => by simp [hk']⟩
      · have hg2 : d.files[j]? = some g := by simpa [e] using hg'
        obtain ⟨fb', v, h1, h2, h3⟩ := h.files j g hg2
        refine ⟨fb', v, h1, by rw [List.getElem?_set_ne e]; exact h2, hfl _ _ h3.lab, (hkeep fb' _ h3.lab (by simpa using fun e' => e e'.symm) (by simp)).trans h3.cells,
          h3.bytes.keep (fun k hk' => hkeep k _ (h3.row k hk') (by simp) (by simpa using fun e' => e e'.symm)), fun k hk' => hfl _ _ (h3.row k hk')⟩
    wait := by
      obtain ⟨hl, hw⟩ := h.wait
      refine ⟨hl, ?_⟩
      rcases hw with hw | ⟨g, cap, cur, rfl, h0, hg, rest⟩
      · exact .inl hw
      · exact .inr ⟨g, cap, cur, rfl, h0, (hkeep g _ (h.lwait g rfl) (by simp) (by simp)).trans hg, rest⟩
    lwait := fun k hk' => hfl _ _ (h.lwait k hk')
    chs := fun j cs hc => by
      obtain ⟨v, h1, ⟨g, cur, rfl, hg, hcur, hl⟩⟩ := h.chs j cs hc
      exact ⟨_, h1, ⟨g, cur, rfl, (hkeep g _ hl (by simp) (by simp)).trans hg, hcur, hfl _ _ hl⟩⟩
    hchs := h.hchs }
end Go.Proofs.Ytombehaaaojhdaa
