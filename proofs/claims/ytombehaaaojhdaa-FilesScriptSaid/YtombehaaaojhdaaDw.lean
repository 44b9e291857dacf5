/- how a disk lies in the world -/
import Derived.Test.YtombehaaaojhdaaDm
import Derived.Test.YtombehaaaojhdaaProg
import Derived.Below
import Derived.Maps.OwnOps
import Derived.Laws.AppendOwn
set_option linter.unusedVariables false
namespace Go.Proofs.Ytombehaaaojhdaa
open Go.Maps Go.RowKit

/-- how an element reads: a pointer to the i-th file's block -/
def fread (φ : List Nat) : Value → Option (NMap × List MemPlace)
  | .pointer none => some (.nil, [])
  | .pointer (some ⟨b, 0, none⟩) => (φ.idxOf? b).map fun i => (.held i, [])
  | _ => none

def ptrOf (φ : List Nat) : Option Nat → Value
  | none => .pointer none
  | some i => match φ[i]? with
    | some b => .pointer (some ⟨b, 0, none⟩)
    | none => .pointer none

theorem idxOf_inj {φ : List Nat} {b i : Nat} (h : φ.idxOf? b = some i) : φ[i]? = some b := by
  rw [List.idxOf?_eq_some_iff] at h
  obtain ⟨hi, h1, _⟩ := h
  rw [List.getElem?_eq_getElem hi]
  simpa using h1

theorem fread_inv {φ : List Nat} {v : Value} {d : NMap} {ps : List MemPlace} (h : fread φ v = some (d, ps)) :
    (v = .pointer none ∧ d = .nil) ∨ ∃ b i, v = .pointer (some ⟨b, 0, none⟩) ∧ d = .held i ∧ φ[i]? = some b := by
  unfold fread at h
  split at h
  · cases h; exact .inl ⟨rfl, rfl⟩
  · simp only [Option.map_eq_some_iff, Prod.mk.injEq] at h
    obtain ⟨i, hi, rfl, rfl⟩ := h
    exact .inr ⟨_, i, rfl, rfl, idxOf_inj hi⟩
  · cases h

theorem fread_grow {φ : List Nat} (φ' : List Nat) {v : Value} {z : NMap × List MemPlace} (h : fread φ v = some z) : fread (φ ++ φ') v = some z := by
  unfold fread at h ⊢
  split at h
  · exact h
  · rename_i b
    simp only [Option.map_eq_some_iff] at h ⊢
    obtain ⟨i, hi, e⟩ := h
    refine ⟨i, ?_, e⟩
    rw [List.idxOf?_eq_some_iff] at hi ⊢
    obtain ⟨hl, h1, h2⟩ := hi
    refine ⟨by simp; omega, by rw [List.getElem_append_left hl]; exact h1, fun j hj => ?_⟩
    rw [List.getElem_append_left (by omega)]
    exact h2 j hj
  · cases h

theorem fread_mk {φ : List Nat} (hn : φ.Nodup) {i b : Nat} (h : φ[i]? = some b) : fread φ (.pointer (some ⟨b, 0, none⟩)) = some (.held i, []) := by
  obtain ⟨hi, e⟩ := List.getElem?_eq_some_iff.1 h
  simp only [fread, Option.map_eq_some_iff]
  refine ⟨i, ?_, rfl⟩
  rw [List.idxOf?_eq_some_iff]
  refine ⟨hi, by simpa using e, fun j hj hq => ?_⟩
  have hq : φ[j]'(by omega) = b := by simpa using hq
  have := (List.getElem_inj (h₀ := by omega) (h₁ := hi) hn).1 (hq.trans e.symm)
  omega

/-- block b is a map of names that reads as D -/
def MapAt (P : Program) (K : TypeId) (w : World) (φ : List Nat) (b : Nat) (D : NMap) : Prop := w.ownsMap P K (fread φ) b (size D) D

section
variable {P : Program} {K : TypeId} {w : World} {φ : List Nat} {b : Nat} {D : NMap}
theorem mapAt_of {n : Nat} (h : w.ownsMap P K (fread φ) b n D) : MapAt P K w φ b D := by
  obtain ⟨es, clock, hb, F, _, rfl⟩ := h
  exact ⟨es, clock, hb, F, by simp [size, length_sorted], rfl⟩
theorem MapAt.grow (h : MapAt P K w φ b D) (φ' : List Nat) : MapAt P K w (φ ++ φ') b D := by
  obtain ⟨es, clock, hb, F, hs, hD⟩ := h
  obtain ⟨F1, hm, _⟩ := F.stay (R' := fread (φ ++ φ')) (fun x _ z hz => fread_grow φ' hz)
  exact ⟨es, clock, hb, F1, hs, by rw [hm]; exact hD⟩
theorem MapAt.block {w' : World} (h : MapAt P K w φ b D) (e : w'.heap[b]? = w.heap[b]?) : MapAt P K w' φ b D := by
  obtain ⟨es, clock, hb, F, hs, hD⟩ := h
  exact ⟨es, clock, e.trans hb, F, hs, hD⟩
theorem has_true_of_look {s : Nm} {i : Nat} (e : look D s = some i) : has D (.string s) = true := by
  cases hh : has D (.string s) with
  | true => rfl
  | false =>
    unfold look at e
    rw [atKey_of_not_has hh] at e
    cases e

/-- 'f, ok := m[s]' -/
theorem MapAt.look_ok {T E : TypeId} (h : MapAt P K w φ b D) (kk : Keyed P K) (ht : P.underlying T = some (.map K E)) (hz : (zeroValue E).run P w = .ok (.pointer none) w) (hh : Held φ.length D) {s : Nm} (hkey : keyOf P K (.string ⟨s.toArray⟩) = some (.string s)) :
    (Instr.lookup T (.map (some b)) (.string ⟨s.toArray⟩) true).run P w = .ok (.tuple #[ptrOf φ (look D s), .bool (look D s).isSome]) w := by
  have hm : IsMap D := World.ownsMap.isMap h
  obtain ⟨v, ps, hrun, hv⟩ := World.ownsMap.look_ok h kk ht hz (zd := .nil) (zp := []) rfl hkey
  rw [hrun, has_look hm hh s]
  cases e : look D s with
  | none =>
    have : D.atKey (.string s) .nil = .nil := by
      have := has_look hm hh s
      rw [e] at this
      rw [atKey_of_not_has this]
    rw [this] at hv
    rcases fread_inv hv with ⟨rfl, _⟩ | ⟨_, i, _, h2, _⟩
    · rfl
    · cases h2
  | some i =>
    have hat : D.atKey (.string s) .nil = .held i := by
      unfold look at e
      split at e
      · rename_i j hj
        cases e; exact hj
      · cases e
    rw [hat] at hv
    rcases fread_inv hv with ⟨_, h2⟩ | ⟨fb, j, rfl, h2, h3⟩
    · cases h2
    · cases h2
      simp [ptrOf, h3]
end
end Go.Proofs.Ytombehaaaojhdaa
