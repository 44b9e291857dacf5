/- (*Disk).set, at a disk -/
import Derived.Test.YtombehaaaojhdaaDset
set_option linter.unusedVariables false
namespace Go.Proofs.Ytombehaaaojhdaa
open Go.Maps Go.RowKit

set_option maxHeartbeats 1000000 in
theorem set_disk (w : World) (L : Lab) (db nb sb : Nat) (wv : Value) (φ : List Nat) (fv cv : List Value) (d : DV) (h : DiskAt w L db nb sb wv φ fv cv d) (g : Nat) (cs : List Ch)
    (hg : Blk w g 60 (chCells φ cs).toArray) (hLg : L g = none) (hcs : ∀ c ∈ cs, c.ok φ.length ∧ c.1.length ≤ maxLen) (hsz : size d.now + cs.length < 1000000) (hn1 : 1 ≤ cs.length) (hnw : d.wait.length ≤ 1099511627776) :
    Calls Try.prog 36 #[.pointer (some ⟨db, 0, none⟩), .slice (some ⟨g, 0, none⟩) cs.length cs.length] w fun e w' => e = .returned (.tuple #[]) ∧
      ∃ L' wv' cv', DiskAt w' L' db nb sb wv' φ fv cv' (d.set cs) ∧ w'.os = w.os ∧ w'.tape = w.tape ∧ w'.output = w.output ∧ w.heap.size ≤ w'.heap.size ∧
        (∀ k, k < w.heap.size → L k = none → w'.heap[k]? = w.heap[k]?) ∧ (∀ k, k < w.heap.size → L' k ≠ none → L k ≠ none ∨ k = g) := by
  have hdn : db ≠ nb := fun e => by have := h.ldisk; rw [e, h.lnow] at this; cases this
  have hgn : g ≠ nb := fun e => by rw [e, h.lnow] at hLg; cases hLg
  have hgd : g ≠ db := fun e => by rw [e, h.ldisk] at hLg; cases hLg
  have hwg : wv.ownBlock ≠ some g := fun e => by have := h.lwait g e; rw [hLg] at this; cases this
  have hwn : wv.ownBlock ≠ some nb := fun e => by have := h.lwait nb e; rw [h.lnow] at this; cases this
  have hwd : wv.ownBlock ≠ some db := fun e => by have := h.lwait db e; rw [h.ldisk] at this; cases this
  refine (set_any w φ h.nodup db nb g d.now cs _ wv d.room d.left d.down d.calls _ cv h.cells hdn hgn h.now hg hcs hsz hn1 h.wait hwn hwd hnw).mono ?_
  rintro e w' ⟨rfl, wv', hb, hm, hw, hloc, hos, htape, hout, hsize, hk⟩
  let L' : Lab := fun k => if k = g then some (.cs d.wait.length) else if wv'.ownBlock = some k then some .wait else L k
  have hL : ∀ k l, L k = some l → L' k = some l := fun k l hl => by
    show (if k = g then _ else if wv'.ownBlock = some k then _ else _) = _
    rw [if_neg (fun e => by rw [e, hLg] at hl; cases hl)]
    split
    · rename_i e
      rcases hloc with e' | ⟨k', e', hk'⟩
      · rw [e'] at e
        rw [h.lwait k e] at hl
        exact hl
      · rw [e'] at e
        cases e
        have := h.dom k (by rw [hl]; simp)
        omega
    · exact hl
  have hkeep : ∀ k l, L k = some l → l ≠ .disk → l ≠ .now → l ≠ .wait → w'.heap[k]? = w.heap[k]? := fun k l hl h1 h2 h3 =>
    hk k (h.dom k (by rw [hl]; simp)) (fun e => by rw [e, h.ldisk] at hl; cases hl; exact h1 rfl) (fun e => by rw [e, h.lnow] at hl; cases hl; exact h2 rfl) (fun e => by rw [h.lwait k e] at hl; cases hl; exact h3 rfl)
  refine ⟨rfl, L', wv', cv ++ [.slice (some ⟨g, 0, none⟩) cs.length cs.length], ?_, hos, htape, hout, hsize, ?_, ?_⟩
  · exact {
      dom := fun k hl => by
        by_cases e : k = g
        · rw [e]; exact Nat.lt_of_lt_of_le hg.lt hsize
        · by_cases e2 : wv'.ownBlock = some k
          · exact (hw.lt k e2).2
          · have : L k ≠ none := by
              have hl' : (if k = g then some (Lbl.cs d.wait.length) else if wv'.ownBlock = some k then some .wait else L k) ≠ none := hl
              rw [if_neg e, if_neg e2] at hl'
              exact hl'
            exact Nat.lt_of_lt_of_le (h.dom k this) hsize
      ldisk := hL _ _ h.ldisk
      cells := hb
      lnow := hL _ _ h.lnow
      lsafe := hL _ _ h.lsafe
      now := hm
      safe := h.safe.block (hkeep sb _ h.lsafe (by simp) (by simp) (by simp))
      hnow := h.hnow.putAll (fun c hc => (hcs c hc).1)
      hsafe := h.hsafe
      nfiles := h.nfiles
      nvals := h.nvals
      files := fun i f hf => by
        obtain ⟨fb, v, h1, h2, h3⟩ := h.files i f hf
        exact ⟨fb, v, h1, h2, hL _ _ h3.lab, (hkeep fb _ h3.lab (by simp) (by simp) (by simp)).trans h3.cells,
          h3.bytes.keep (fun g hg => hkeep g _ (h3.row g hg) (by simp) (by simp) (by simp)), fun g hg => hL _ _ (h3.row g hg)⟩
      wait := by
        have e : (d.set cs).wait.length = d.wait.length + 1 := by simp [DV.set]
        rw [e]; exact hw
      lwait := fun k hk' => by
        show (if k = g then _ else if wv'.ownBlock = some k then _ else _) = _
        have hne : k ≠ g := fun e => by
          rcases hloc with e' | ⟨k', e', hk''⟩
          · rw [e', e] at hk'; exact hwg hk'
          · rw [e', e] at hk'
            cases hk'
            have := hg.lt
            omega
        rw [if_neg hne, if_pos hk']
      chs := fun i c hc => by
        have hcl : cv.length = d.wait.length := by have := h.wait.1; omega
        have hc' : (d.wait ++ [cs])[i]? = some c := hc
        rcases Nat.lt_or_ge i d.wait.length with hi | hi
        · rw [List.getElem?_append_left hi] at hc'
          obtain ⟨v, h1, ⟨g', cur, rfl, hg', hcur, hl⟩⟩ := h.chs i c hc'
          exact ⟨_, by rw [List.getElem?_append_left (by omega)]; exact h1, ⟨g', cur, rfl, (hkeep g' _ hl (by simp) (by simp) (by simp)).trans hg', hcur, hL _ _ hl⟩⟩
        · rw [List.getElem?_append_right hi] at hc'
          have hi0 : i = d.wait.length := by
            rcases Nat.eq_zero_or_pos (i - d.wait.length) with h0 | h0
            · omega
            · rw [List.getElem?_eq_none (by simp; omega)] at hc'; cases hc'
          subst hi0
          simp at hc'
          subst hc'
          refine ⟨.slice (some ⟨g, 0, none⟩) cs.length cs.length, by rw [List.getElem?_append_right (by omega)]; simp [hcl], ⟨g, _, rfl, (hk g hg.lt hgd hgn hwg).trans hg, rfl, ?_⟩⟩
          show (if g = g then _ else _) = _
          rw [if_pos rfl]
      hchs := fun c hc x hx => by
        have hc' : c ∈ d.wait ++ [cs] := hc
        rw [List.mem_append, List.mem_singleton] at hc'
        rcases hc' with hc' | rfl
        · exact h.hchs c hc' x hx
        · exact (hcs x hx).1 }
  · intro k hk' hl
    exact hk k hk' (fun e => by rw [e, h.ldisk] at hl; cases hl) (fun e => by rw [e, h.lnow] at hl; cases hl) (fun e => by rw [h.lwait k e] at hl; cases hl)
  · intro k hk' hl
    have hl' : (if k = g then some (Lbl.cs d.wait.length) else if wv'.ownBlock = some k then some .wait else L k) ≠ none := hl
    by_cases e : k = g
    · exact .inr e
    · rw [if_neg e] at hl'
      by_cases e2 : wv'.ownBlock = some k
      · rcases hloc with e' | ⟨k', e', hk''⟩
        · rw [e'] at e2
          exact .inl (by rw [h.lwait k e2]; simp)
        · rw [e'] at e2; cases e2; omega
      · rw [if_neg e2] at hl'; exact .inl hl'
end Go.Proofs.Ytombehaaaojhdaa
