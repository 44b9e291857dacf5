/- for (*Model).do -/
import Derived.Test.YtombehaaaojhdaaMe
import Derived.Deep.QuietTactic
import Derived.BigQuiet
import Derived.BigRegion
import Derived.Lib.BufferRead
import Derived.Laws.IdiomStrings
set_option linter.unusedVariables false
namespace Go.Proofs.Ytombehaaaojhdaa
open Go.Maps Go.RowKit

/-- what (*Model).change does (proved in Mi) -/
def MChange : Prop := ∀ (w : World) (L : MLab) (mb nb kb : Nat) (wv xv : Value) (φ : List Nat) (nv xs : List Value) (d : DV) (h : ModelAt w L mb nb kb wv xv φ nv xs d) (g hf : Nat) (cs : List Ch)
    (hg : Blk w g 9 (cs.map fun c => Value.string ⟨c.1.toArray⟩).toArray) (hh : Blk w hf 44 (cs.map fun c => ptrOf φ c.2).toArray) (hLg : L g = none) (hLh : L hf = none) (hne : g ≠ hf)
    (hcs : ∀ c ∈ cs, c.ok φ.length ∧ c.1.length ≤ maxLen) (hsz : Maps.size d.now + cs.length < 1000000) (hnw : d.wait.length ≤ 1099511627776),
    Calls Try.prog 31 #[.pointer (some ⟨mb, 0, none⟩), .slice (some ⟨g, 0, none⟩) cs.length cs.length, .slice (some ⟨hf, 0, none⟩) cs.length cs.length] w fun e w' => e = .returned (.tuple #[]) ∧
      ∃ L' wv' xv' nv' xs', ModelAt w' L' mb nb kb wv' xv' φ nv' xs' (d.set cs) ∧ w'.os = w.os ∧ w'.tape = w.tape ∧ w'.output = w.output ∧ w.heap.size ≤ w'.heap.size ∧
        (∀ k, k < w.heap.size → L k = none → w'.heap[k]? = w.heap[k]?) ∧ (∀ k, k < w.heap.size → L' k ≠ none → L k ≠ none ∨ k = g ∨ k = hf)

theorem name_same (w : World) (n : Nat) (hn : n < 256) :
    Calls Try.prog 25 #[.int .u8 n] w fun e w' => e = .returned (.string ⟨(nm (n % 6)).toArray⟩) ∧ w' = w :=
  (name_any w n hn).mono fun _ _ ⟨h1, h2⟩ => ⟨h1, h2.symm⟩

theorem change_to (hch : MChange) {w W : World} {L L' : MLab} {mb nb kb : Nat} {wv xv : Value} {φ : List Nat} {nv xs : List Value} {d : DV} (h : ModelAt W L' mb nb kb wv xv φ nv xs d) (ht : MTurned L L' w W) (g hf : Nat) (cs : List Ch) (a1 a2 : Array Value)
    (hg : Blk W g 9 a1) (hh : Blk W hf 44 a2) (e1 : a1 = (cs.map fun c => Value.string ⟨c.1.toArray⟩).toArray) (e2 : a2 = (cs.map fun c => ptrOf φ c.2).toArray)
    (hLg : L' g = none) (hLh : L' hf = none) (hne : g ≠ hf) (hcs : ∀ c ∈ cs, c.ok φ.length ∧ c.1.length ≤ maxLen) (hsz : Maps.size d.now + cs.length < 1000000) (hnw : d.wait.length ≤ 1099511627776) (h1 : w.heap.size ≤ g) (h2 : w.heap.size ≤ hf) :
    Calls Try.prog 31 #[.pointer (some ⟨mb, 0, none⟩), .slice (some ⟨g, 0, none⟩) cs.length cs.length, .slice (some ⟨hf, 0, none⟩) cs.length cs.length] W fun e w' => e = .returned (.tuple #[]) ∧ ModelTo w L mb (d.set cs) w' := by
  subst e1 e2
  refine (hch W L' mb nb kb wv xv φ nv xs d h g hf cs hg hh hLg hLh hne hcs hsz hnw).mono ?_
  rintro e w' ⟨rfl, L2, wv', xv', nv', xs', hM, ho, hta, hou, hs, hb, hd⟩
  refine ⟨rfl, L2, nb, kb, wv', xv', φ, nv', xs', hM, ho.trans ht.os, hta.trans ht.tape, hou.trans ht.output, Nat.le_trans ht.size hs, fun k hk hl => ?_, fun k hk hl => ?_⟩
  · have hl' : L' k = none := by
      cases e : L' k with
      | none => rfl
      | some x => exact absurd hl (ht.dom k hk (by rw [e]; simp))
    rw [hb k (Nat.lt_of_lt_of_le hk ht.size) hl', ht.block k hk hl]
  · rcases hd k (Nat.lt_of_lt_of_le hk ht.size) hl with h3 | h3 | h3
    · exact ht.dom k hk h3
    · omega
    · omega

theorem MTurned.alloc {L : MLab} (w : World) (o : Obj) : MTurned L L w (w.alloc o) :=
  MTurned.below ((Below.refl _ w).alloc (Nat.le_refl _) o)
theorem ModelAt.alloc {w : World} {L : MLab} {mb nb kb : Nat} {wv xv : Value} {φ : List Nat} {nv xs : List Value} {d : DV} (h : ModelAt w L mb nb kb wv xv φ nv xs d) (o : Obj) : ModelAt (w.alloc o) L mb nb kb wv xv φ nv xs d :=
  h.below ((Below.refl _ w).alloc (Nat.le_refl _) o)
theorem ModelAt.free {w : World} {L : MLab} {mb nb kb : Nat} {wv xv : Value} {φ : List Nat} {nv xs : List Value} {d : DV} (h : ModelAt w L mb nb kb wv xv φ nv xs d) {k : Nat} (hk : w.heap.size ≤ k) : L k = none := by
  cases e : L k with
  | none => rfl
  | some x => have := h.dom k (by rw [e]; simp); omega

theorem grown_drew {w w' : World} {r : Option Nat} (h : w.grownBy w' r) : w.grownBy w'.drew r := ⟨h.os, h.tape, h.output, h.size, h.block⟩

theorem run_cut_string (f : List UInt8) (k : Nat) (hk : k ≤ f.length) (W : World) : (Instr.slice 9 (.string ⟨f.toArray⟩) none (some (.int .i64 k)) none).run Try.prog W = .ok (.string ⟨(f.take k).toArray⟩) W := by
  have := run_slice_string_h (P := Try.prog) W 9 ⟨f.toArray⟩ Try.underlying9 .i64 (k : Int) (by omega) (by simp [ByteArray.size]; omega)
  have e : (⟨f.toArray⟩ : ByteArray).extract 0 (k : Int).toNat = ⟨(f.take k).toArray⟩ := by
    apply ByteArray.ext
    simp [ByteArray.data_extract]
  rw [this, e]

theorem run_convert_reads (w : World) (B : Nat) (A : Option Addr) (cc : Nat) (bs : List UInt8) (h : Reads w B 1 A bs.length (bcells bs)) :
    (convert 32 9 (.slice A bs.length cc)).run Try.prog w = .ok (.string ⟨bs.toArray⟩) w := by
  have hs : Try.prog.underlying 32 = some (.slice 5) := Try.underlying32
  have he : Try.prog.underlying 5 = some (.int .u8) := Try.underlying5
  have hd : Try.prog.underlying 9 = some .string := Try.underlying9
  cases A with
  | none =>
    have hb0 : bs = [] := by
      cases bs with
      | nil => rfl
      | cons x r => obtain ⟨ad, e, _⟩ := h.2 (by simp); cases e
    subst hb0
    exact Go.Lib.run_convert_nil_bytes w _ _ _ cc hs he hd
  | some ad =>
    refine run_convert_bytes_back w _ _ _ ad cc bs hs he hd fun j hj => ?_
    obtain ⟨ad', e, _, hc⟩ := h.2 (by omega)
    cases e
    exact hc j _ (by simp [bcells, hj])
end Go.Proofs.Ytombehaaaojhdaa
