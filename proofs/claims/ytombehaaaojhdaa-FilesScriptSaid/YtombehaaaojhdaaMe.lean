/- the model turns: a file, a new file, the kept names; a name's file -/
import Derived.Test.YtombehaaaojhdaaMh
import Derived.Test.YtombehaaaojhdaaMd
set_option linter.unusedVariables false
namespace Go.Proofs.Ytombehaaaojhdaa
open Go.Maps Go.RowKit

/-- 'm[s]' -/
theorem MapAt.look_at {P : Program} {K T E : TypeId} {w : World} {φ : List Nat} {b : Nat} {D : NMap} (h : MapAt P K w φ b D) (kk : Keyed P K) (ht : P.underlying T = some (.map K E)) (hz : (zeroValue E).run P w = .ok (.pointer none) w) (hh : Held φ.length D) {s : Nm} (hkey : keyOf P K (.string ⟨s.toArray⟩) = some (.string s)) :
    (Instr.lookup T (.map (some b)) (.string ⟨s.toArray⟩) false).run P w = .ok (ptrOf φ (look D s)) w := by
  have hm : IsMap D := World.ownsMap.isMap h
  obtain ⟨v, ps, hrun, hv⟩ := World.ownsMap.lookup h kk ht hz (zd := .nil) (zp := []) rfl hkey
  rw [hrun]
  cases e : look D s with
  | none =>
    have : D.atKey (.string s) .nil = .nil := by
      have := has_look hm hh s
      rw [e] at this
      rw [atKey_of_not_has this]
    rw [this] at hv
    rcases fread_inv hv with ⟨rfl, _⟩ | ⟨_, i, _, h2, _⟩
    · rfl
    · cases h2
  | some i =>
    have hat : D.atKey (.string s) .nil = .held i := by
      unfold look at e
      split at e
      · rename_i j hj
        cases e; exact hj
      · cases e
    rw [hat] at hv
    rcases fread_inv hv with ⟨_, h2⟩ | ⟨fb, j, rfl, h2, h3⟩
    · cases h2
    · cases h2
      simp [ptrOf, h3]

section
variable {w w' : World} {L : MLab} {mb nb kb : Nat} {wv xv : Value} {φ : List Nat} {nv xs : List Value} {d : DV}
theorem mlook_run (w : World) (h : ModelAt w L mb nb kb wv xv φ nv xs d) {s : Nm} (hs : s.length ≤ maxLen) :
    (Instr.lookup 27 (.map (some nb)) (.string ⟨s.toArray⟩) false).run Try.prog w = .ok (ptrOf φ (look d.now s)) w :=
  h.now.look_at keyed Try.underlying27 (by kernel_rfl) h.hnow (hkey hs)

/-- one file turns -/
theorem ModelAt.upd (h : ModelAt w L mb nb kb wv xv φ nv xs d) {i fb : Nat} {f : FileV} (hfb : φ[i]? = some fb) (hf : d.files[i]? = some f) (F : FileV → FileV) (hg : w.grownBy w' (some fb))
    (hb : Blk w' fb 48 #[.string ⟨(F f).b.toArray⟩, .int .i64 (F f).safe]) : ModelAt w' L mb nb kb wv xv φ nv xs (d.file i F) ∧ MTurned L L w w' := by
  have hfbl : L fb = some (.file i) := by
    obtain ⟨fb', h1, h3⟩ := h.files i f hf
    rw [hfb] at h1; cases h1; exact h3.lab
  have hkeep : ∀ k l, L k = some l → l ≠ .file i → w'.heap[k]? = w.heap[k]? := fun k l hl h1 =>
    hg.block k (h.dom k (by rw [hl]; simp)) (fun e => by cases e; rw [hfbl] at hl; cases hl; exact h1 rfl)
  refine ⟨{
    dom := fun k hk => Nat.lt_of_lt_of_le (h.dom k hk) hg.size
    lmodel := h.lmodel
    cells := (hkeep mb _ h.lmodel (by simp)).trans h.cells
    lnow := h.lnow
    lkept := h.lkept
    now := h.now.block (hkeep nb _ h.lnow (by simp))
    kept := h.kept.block (hkeep kb _ h.lkept (by simp))
    hnow := h.hnow
    hkept := h.hkept
    nfiles := by rw [h.nfiles]; simp [DV.file]
    files := fun j g hg' => by
      have hg' : (d.files.modify i F)[j]? = some g := hg'
      rw [List.getElem?_modify] at hg'
      by_cases e : i = j
      · subst e
        rw [hf] at hg'
        simp at hg'
        subst hg'
        exact ⟨fb, hfb, hfbl, hb⟩
      · have hg2 : d.files[j]? = some g := by simpa [e] using hg'
        obtain ⟨fb', h1, h3⟩ := h.files j g hg2
        exact ⟨fb', h1, h3.lab, (hkeep fb' _ h3.lab (by simpa using fun e' => e e'.symm)).trans h3.cells⟩
    wait := ownsRow_block h.wait (fun g hg => hkeep g _ (h.lwait g hg) (by simp))
    lwait := h.lwait
    fwait := ownsRow_block h.fwait (fun g hg => hkeep g _ (h.lfwait g hg) (by simp))
    lfwait := h.lfwait
    chs := fun i cs hc => by
      obtain ⟨v, u, h1, h2, hm⟩ := h.chs i cs hc
      exact ⟨v, u, h1, h2, hm.keep fun k hl => by
        rcases hl with hl | hl <;> exact ⟨hkeep k _ hl (by simp), rfl⟩⟩
    hchs := h.hchs }, hg.os, hg.tape, hg.output, hg.size, fun k hk hl => hg.block k hk (fun e => by cases e; rw [hfbl] at hl; cases hl), fun _ _ h => h⟩

theorem MCsAt.grow {i : Nat} {v u : Value} {cs : List Ch} (h : MCsAt w L φ i v u cs) (hc : ∀ c ∈ cs, c.ok φ.length) (φ' : List Nat) : MCsAt w L (φ ++ φ') i v u cs := by
  obtain ⟨g, h', e1, hg, lg, e2, hh, lh⟩ := h
  refine ⟨g, h', e1, hg, lg, e2, ?_, lh⟩
  have : (cs.map fun c => ptrOf φ c.2) = (cs.map fun c => ptrOf (φ ++ φ') c.2) := by
    refine List.map_congr_left fun c hm => ?_
    cases e : c.2 with
    | none => rfl
    | some j =>
      have := hc c hm j e
      simp only [ptrOf]
      rw [List.getElem?_append_left this]
  rw [← this]
  exact hh

/-- a new, empty file -/
theorem ModelAt.newFile (h : ModelAt w L mb nb kb wv xv φ nv xs d) :
    ModelAt (w.alloc (.cells #[.string ⟨#[]⟩, .int .i64 0] 48)) (fun k => if k = w.heap.size then some (.file d.files.length) else L k) mb nb kb wv xv (φ ++ [w.heap.size]) nv xs
      { d with files := d.files ++ [⟨[], 0⟩] } ∧ MTurned L (fun k => if k = w.heap.size then some (.file d.files.length) else L k) w (w.alloc (.cells #[.string ⟨#[]⟩, .int .i64 0] 48)) := by
  have hfl : ∀ k l, L k = some l → (if k = w.heap.size then some (MLbl.file d.files.length) else L k) = some l := fun k l hl => by
    rw [if_neg (fun e => by have := h.dom k (by rw [hl]; simp); omega)]; exact hl
  have hk : ∀ k l, L k = some l → (w.alloc (.cells #[.string ⟨#[]⟩, .int .i64 0] 48)).heap[k]? = w.heap[k]? := fun k l hl => Below.heap_alloc _ _ _ (h.dom k (by rw [hl]; simp))
  refine ⟨{
    dom := fun k hl => by
      have hl' : (if k = w.heap.size then some (MLbl.file d.files.length) else L k) ≠ none := hl
      rw [size_alloc]
      by_cases e : k = w.heap.size
      · omega
      · rw [if_neg e] at hl'; have := h.dom k hl'; omega
    lmodel := hfl _ _ h.lmodel
    cells := (hk mb _ h.lmodel).trans h.cells
    lnow := hfl _ _ h.lnow
    lkept := hfl _ _ h.lkept
    now := (h.now.block (hk nb _ h.lnow)).grow _
    kept := (h.kept.block (hk kb _ h.lkept)).grow _
    hnow := h.hnow.mono (by simp)
    hkept := h.hkept.mono (by simp)
    nfiles := by simp [h.nfiles]
    files := fun i f hf => by
      have hf' : (d.files ++ [⟨[], 0⟩])[i]? = some f := hf
      rcases Nat.lt_or_ge i d.files.length with hi | hi
      · rw [List.getElem?_append_left hi] at hf'
        obtain ⟨fb, h1, h3⟩ := h.files i f hf'
        exact ⟨fb, by rw [List.getElem?_append_left (by have := h.nfiles; omega)]; exact h1, hfl _ _ h3.lab, (hk fb _ h3.lab).trans h3.cells⟩
      · rw [List.getElem?_append_right hi] at hf'
        have hi0 : i = d.files.length := by
          rcases Nat.eq_zero_or_pos (i - d.files.length) with h0 | h0
          · omega
          · rw [List.getElem?_eq_none (by simp; omega)] at hf'; cases hf'
        subst hi0
        simp at hf'
        subst hf'
        refine ⟨w.heap.size, ?_, ?_, Blk.new w _ _⟩
        · rw [List.getElem?_append_right (by have := h.nfiles; omega)]; simp [h.nfiles]
        · show (if w.heap.size = w.heap.size then _ else _) = _
          rw [if_pos rfl]
    wait := ownsRow_block h.wait (fun g hg => hk g _ (h.lwait g hg))
    lwait := fun g hg => hfl _ _ (h.lwait g hg)
    fwait := ownsRow_block h.fwait (fun g hg => hk g _ (h.lfwait g hg))
    lfwait := fun g hg => hfl _ _ (h.lfwait g hg)
    chs := fun i cs hc => by
      obtain ⟨v, u, h1, h2, hm⟩ := h.chs i cs hc
      exact ⟨v, u, h1, h2, (hm.keep fun k hl => by
        rcases hl with hl | hl <;> exact ⟨hk k _ hl, (hfl k _ hl).trans hl.symm⟩).grow (fun c hcm => h.hchs cs (List.mem_of_getElem? hc) c hcm) _⟩
    hchs := fun cs hcs c hc i hi => by have := h.hchs cs hcs c hc i hi; simp; omega }, rfl, rfl, rfl, by rw [size_alloc]; omega, fun k hk' _ => Below.heap_alloc _ _ _ hk', fun k hk' hl => by
    have hl' : (if k = w.heap.size then some (MLbl.file d.files.length) else L k) ≠ none := hl
    rw [if_neg (by omega)] at hl'; exact hl'⟩

/-- a map of the model is another one: the kept names, or the names; nothing waits -/
theorem ModelAt.remade (h : ModelAt w L mb nb kb wv xv φ nv xs d) (hs : w.heap.size ≤ w'.heap.size) (hk : ∀ k, k < w.heap.size → k ≠ mb → w'.heap[k]? = w.heap[k]?) (nb' kb' : Nat) (dn ds : NMap) (left : Int) (down : Bool)
    (hb : Blk w' mb 31 #[.map (some nb'), .map (some kb'), .slice none 0 0, .slice none 0 0, .int .i64 d.room, .int .i64 left, .bool down, .int .i64 d.calls])
    (hmn : MapAt Try.prog 9 w' φ nb' dn) (hms : MapAt Try.prog 9 w' φ kb' ds) (hne : nb' ≠ kb') (hn : (nb' = nb ∨ w.heap.size ≤ nb')) (hkk : (kb' = kb ∨ w.heap.size ≤ kb')) (hdn : Held φ.length dn) (hds : Held φ.length ds) :
    ∃ L', ModelAt w' L' mb nb' kb' (.slice none 0 0) (.slice none 0 0) φ [] [] { d with now := dn, safe := ds, wait := [], left := left, down := down } ∧ (∀ k, k < w.heap.size → L' k ≠ none → L k ≠ none) := by
  have hln : nb' ≠ mb := fun e => by
    rcases hn with h1 | h1
    · have := h.lnow; rw [← h1, e, h.lmodel] at this; cases this
    · have := h.dom mb (by rw [h.lmodel]; simp); omega
  have hlk : kb' ≠ mb := fun e => by
    rcases hkk with h1 | h1
    · have := h.lkept; rw [← h1, e, h.lmodel] at this; cases this
    · have := h.dom mb (by rw [h.lmodel]; simp); omega
  have hfn : ∀ k i, L k = some (.file i) → k ≠ nb' ∧ k ≠ kb' ∧ k ≠ mb := fun k i hl => by
    have hd := h.dom k (by rw [hl]; simp)
    refine ⟨fun e => ?_, fun e => ?_, fun e => by rw [e, h.lmodel] at hl; cases hl⟩
    · rcases hn with h1 | h1
      · rw [e, h1, h.lnow] at hl; cases hl
      · omega
    · rcases hkk with h1 | h1
      · rw [e, h1, h.lkept] at hl; cases hl
      · omega
  refine ⟨fun k => if k = nb' then some .now else if k = kb' then some .kept else L k, {
    dom := fun k hl => by
      have hl' : (if k = nb' then some MLbl.now else if k = kb' then some .kept else L k) ≠ none := hl
      by_cases e : k = nb'
      · rw [e]; exact World.ownsMap.lt hmn
      by_cases e2 : k = kb'
      · rw [e2]; exact World.ownsMap.lt hms
      rw [if_neg e, if_neg e2] at hl'
      exact Nat.lt_of_lt_of_le (h.dom k hl') hs
    lmodel := by
      show (if mb = nb' then _ else if mb = kb' then _ else L mb) = _
      rw [if_neg (Ne.symm hln), if_neg (Ne.symm hlk)]; exact h.lmodel
    cells := hb
    lnow := by simp
    lkept := by
      show (if kb' = nb' then _ else if kb' = kb' then _ else L kb') = _
      rw [if_neg (Ne.symm hne), if_pos rfl]
    now := hmn
    kept := hms
    hnow := hdn
    hkept := hds
    nfiles := h.nfiles
    files := fun i f hf => by
      obtain ⟨fb, h1, h3⟩ := h.files i f hf
      obtain ⟨a, b, c⟩ := hfn fb i h3.lab
      refine ⟨fb, h1, ?_, (hk fb (h.dom fb (by rw [h3.lab]; simp)) c).trans h3.cells⟩
      show (if fb = nb' then _ else if fb = kb' then _ else L fb) = _
      rw [if_neg a, if_neg b]; exact h3.lab
    wait := World.ownsRow_nil _ _ _ _
    lwait := fun g hg => by cases hg
    fwait := World.ownsRow_nil _ _ _ _
    lfwait := fun g hg => by cases hg
    chs := fun i cs hc => by cases hc
    hchs := fun cs hc => by cases hc }, fun k hk' hl => ?_⟩
  have hl' : (if k = nb' then some MLbl.now else if k = kb' then some .kept else L k) ≠ none := hl
  by_cases e : k = nb'
  · rcases hn with h1 | h1
    · rw [e, h1, h.lnow]; simp
    · omega
  by_cases e2 : k = kb'
  · rcases hkk with h1 | h1
    · rw [e2, h1, h.lkept]; simp
    · omega
  rw [if_neg e, if_neg e2] at hl'
  exact hl'
end
end Go.Proofs.Ytombehaaaojhdaa
