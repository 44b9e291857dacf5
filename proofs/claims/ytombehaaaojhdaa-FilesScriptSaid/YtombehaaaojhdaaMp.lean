/- a map of files that are done, keyed by pointers -/
import Derived.Test.YtombehaaaojhdaaMf
import Derived.LaidEqlPtr
set_option linter.unusedVariables false
namespace Go.Proofs.Ytombehaaaojhdaa
open Go.Maps Go.RowKit

/-- block b is a map whose keys are the pointers to those files of which pd says so; each element is true -/
def DoneAt (w : World) (φ : List Nat) (b : Nat) (pd : Nat → Bool) : Prop :=
  ∃ es clock, w.heap[b]? = some (.map es clock) ∧ (∀ e ∈ es.toList, ∃ i fb, φ[i]? = some fb ∧ pd i = true ∧ e.key = .pointer (some ⟨fb, 0, none⟩) ∧ e.val = .bool true) ∧
    ∀ i fb, φ[i]? = some fb → pd i = true → ∃ e ∈ es.toList, e.key = .pointer (some ⟨fb, 0, none⟩)

def IsBlk (w : World) (b : Nat) : Prop := ∃ cs t, w.heap[b]? = some (.cells cs t (0, 0))

theorem info_mfile : (Try.prog.info? 48).map (fun i => i.size) = some 2 := by kernel_rfl

theorem run_equal_ptr (w : World) (p q : Addr) (hp : IsBlk w p.block) (hq : IsBlk w q.block) : (Op.equal 44 (.pointer (some p)) (.pointer (some q))).run Try.prog w = .ok (p == q) w := by
  obtain ⟨j, hj, hjs⟩ : ∃ j, Try.prog.info? 48 = some j ∧ j.size = 2 := by
    have := info_mfile
    cases e : Try.prog.info? 48 with
    | none => rw [e] at this; cases this
    | some j => rw [e] at this; simp at this; exact ⟨j, rfl, this⟩
  obtain ⟨c1, t1, h1⟩ := hp
  obtain ⟨c2, t2, h2⟩ := hq
  have hu : Try.prog.underlying 44 = some (.pointer 48) := Try.underlying44
  have key : ∀ d : Nat, (Op.equalIn (d + 1) 44 (.pointer (some p)) (.pointer (some q))).run Try.prog w = .ok (p == q) w := fun d => by
    by_cases e : p = q
    · subst e
      simp [Op.equalIn, run_underlying hu, sizeOf, typeInfo, hj, run_sameAddr_same]
    · have hf : (p == q) = false := by simpa using e
      rw [hf]
      simp [Op.equalIn, run_underlying hu, sizeOf, typeInfo, hj, hjs, run_sameAddr_other w e h1 h2]
  exact key 9999

theorem findAsking_spec (w : World) (p : Addr) (hp : IsBlk w p.block) : ∀ (es : List MapEntry) (i : Nat), (∀ e ∈ es, ∃ q, e.key = .pointer (some q) ∧ e.val = .bool true ∧ IsBlk w q.block) →
    ((∀ e ∈ es, e.key ≠ .pointer (some p)) ∧ (Instr.findAsking 44 (.pointer (some p)) es i).run Try.prog w = .ok none w) ∨
    ((∃ e ∈ es, e.key = .pointer (some p)) ∧ ∃ j, (Instr.findAsking 44 (.pointer (some p)) es i).run Try.prog w = .ok (some (j, .bool true)) w)
  | [], i, _ => .inl ⟨(fun _ h => nomatch h), rfl⟩
  | e :: es, i, h => by
    obtain ⟨q, hq, hv, hqb⟩ := h e (List.mem_cons_self ..)
    have heq := run_equal_ptr w p q hp hqb
    by_cases hpq : p = q
    · subst hpq
      refine .inr ⟨⟨e, List.mem_cons_self .., hq⟩, i, ?_⟩
      simp only [Instr.findAsking, hq, Sem.run_bind, heq, Result.andThen_ok]
      simp [hv]
    · have hf : (p == q) = false := by simpa using hpq
      rcases findAsking_spec w p hp es (i + 1) (fun x hx => h x (List.mem_cons_of_mem _ hx)) with ⟨h1, h2⟩ | ⟨⟨x, hx, h1⟩, j, h2⟩
      · refine .inl ⟨fun x hx => ?_, ?_⟩
        · rcases List.mem_cons.1 hx with rfl | hx
          · rw [hq]; intro e; cases e; exact hpq rfl
          · exact h1 x hx
        · simp only [Instr.findAsking, hq, Sem.run_bind, heq, Result.andThen_ok, hf]
          simpa using h2
      · refine .inr ⟨⟨x, List.mem_cons_of_mem _ hx, h1⟩, j, ?_⟩
        simp only [Instr.findAsking, hq, Sem.run_bind, heq, Result.andThen_ok, hf]
        simpa using h2

theorem findKey_spec (w : World) (p : Addr) (hp : IsBlk w p.block) (es : List MapEntry) (h : ∀ e ∈ es, ∃ q, e.key = .pointer (some q) ∧ e.val = .bool true ∧ IsBlk w q.block) :
    ((∀ e ∈ es, e.key ≠ .pointer (some p)) ∧ (Instr.findKey 44 (.pointer (some p)) es).run Try.prog w = .ok none w) ∨
    ((∃ e ∈ es, e.key = .pointer (some p)) ∧ ∃ j, (Instr.findKey 44 (.pointer (some p)) es).run Try.prog w = .ok (some (j, .bool true)) w) := by
  have hu : Try.prog.underlying 44 = some (.pointer 48) := Try.underlying44
  cases es with
  | nil =>
    refine .inl ⟨(fun _ h => nomatch h), ?_⟩
    simp [Instr.findKey, run_underlying hu, Instr.findNow, Result.andThen]
  | cons e es =>
    have hn : Instr.findNow (.pointer 48) (.pointer (some p)) (e :: es) 0 = none := by
      simp [Instr.findNow, Instr.sameNow]
    have hf : (Instr.findKey 44 (.pointer (some p)) (e :: es)).run Try.prog w = (Instr.findAsking 44 (.pointer (some p)) (e :: es) 0).run Try.prog w := by
      simp [Instr.findKey, run_underlying hu, hn, Result.andThen]
    rw [hf]
    exact findAsking_spec w p hp (e :: es) 0 h

theorem run_checkKey_ptr (w : World) (em : Bool) (p : Addr) : (Instr.checkKey em 10000 44 (.pointer (some p))).run Try.prog w = .ok () w := by
  have hu : Try.prog.underlying 44 = some (.pointer 48) := Try.underlying44
  show (Instr.checkKey em (9999 + 1) _ _).run _ _ = _
  unfold Instr.checkKey
  simp only [Sem.run_bind, run_underlying hu, Result.andThen]
  rfl

section
variable {w : World} {φ : List Nat} {b : Nat} {pd : Nat → Bool} (h : DoneAt w φ b pd) (hn : φ.Nodup) (hb : ∀ j fj : Nat, φ[j]? = some fj → IsBlk w fj) {i fb : Nat} (hfb : φ[i]? = some fb)
include h hn hb hfb

theorem DoneAt.look : (Instr.lookup 68 (.map (some b)) (.pointer (some ⟨fb, 0, none⟩)) false).run Try.prog w = .ok (.bool (pd i)) w := by
  obtain ⟨es, clock, he, h1, h2⟩ := h
  have hk : ∀ e ∈ es.toList, ∃ q, e.key = .pointer (some q) ∧ e.val = .bool true ∧ IsBlk w q.block := fun e hm => by
    obtain ⟨j, fj, hj, _, hk, hv⟩ := h1 e hm
    exact ⟨_, hk, hv, hb j fj hj⟩
  have hz : (zeroValue 4).run Try.prog w = .ok (.bool false) w := by kernel_rfl
  have hu : Try.prog.underlying 68 = some (.map 44 4) := Try.underlying68
  rcases findKey_spec w ⟨fb, 0, none⟩ (hb i fb hfb) es.toList hk with ⟨h3, h4⟩ | ⟨⟨e, hm, h3⟩, j, h4⟩
  · have hp : pd i = false := by
      cases e : pd i with
      | false => rfl
      | true =>
        obtain ⟨x, hx, hxk⟩ := h2 i fb hfb e
        exact absurd hxk (h3 x hx)
    rw [hp]
    simp [Instr.lookup, run_underlying hu, MapKept.run_getObj_map he, run_checkKey_ptr, h4, hz, Result.andThen]
  · have hp : pd i = true := by
      obtain ⟨j2, fj, hj, hpd, hk2, _⟩ := h1 e hm
      rw [hk2] at h3
      cases h3
      have := (List.getElem?_inj (List.getElem?_eq_some_iff.1 hj).1 hn).1 (hj.trans hfb.symm)
      rw [← this]; exact hpd
    rw [hp]
    simp [Instr.lookup, run_underlying hu, MapKept.run_getObj_map he, run_checkKey_ptr, h4, Result.andThen]

theorem DoneAt.store (hp : pd i = false) : ∃ w', (Instr.mapUpdate 68 (.map (some b)) (.pointer (some ⟨fb, 0, none⟩)) (.bool true)).run Try.prog w = .ok () w' ∧ DoneAt w' φ b (fun j => pd j || j == i) ∧ w.grownBy w' (some b) := by
  obtain ⟨es, clock, he, h1, h2⟩ := h
  have hk : ∀ e ∈ es.toList, ∃ q, e.key = .pointer (some q) ∧ e.val = .bool true ∧ IsBlk w q.block := fun e hm => by
    obtain ⟨j, fj, hj, _, hk, hv⟩ := h1 e hm
    exact ⟨_, hk, hv, hb j fj hj⟩
  have hu : Try.prog.underlying 68 = some (.map 44 4) := Try.underlying68
  have hset := MapKept.heap_set (o' := .map (es.push { key := .pointer (some ⟨fb, 0, none⟩), val := .bool true, born := clock }) (clock + 1)) he
  rcases findKey_spec w ⟨fb, 0, none⟩ (hb i fb hfb) es.toList hk with ⟨h3, h4⟩ | ⟨⟨e, hm, h3⟩, j, h4⟩
  · refine ⟨{ w with heap := w.heap.setIfInBounds b (.map (es.push { key := .pointer (some ⟨fb, 0, none⟩), val := .bool true, born := clock }) (clock + 1)) }, ?_, ⟨_, _, hset.1, ?_, ?_⟩, rfl, rfl, rfl, by simp, fun k _ hne => hset.2 k (by simpa using hne)⟩
    · simp [Instr.mapUpdate, run_underlying hu, MapKept.run_getObj_map he, run_checkKey_ptr, h4, MapKept.run_setObj_map _ he, Result.andThen]
    · intro e hm
      simp only [Array.toList_push, List.mem_append, List.mem_singleton] at hm
      rcases hm with hm | rfl
      · obtain ⟨j, fj, hj, hpd, hk2, hv⟩ := h1 e hm
        exact ⟨j, fj, hj, by simp [hpd], hk2, hv⟩
      · exact ⟨i, fb, hfb, by simp, rfl, rfl⟩
    · intro j fj hj hpd
      simp only [Bool.or_eq_true, beq_iff_eq] at hpd
      simp only [Array.toList_push, List.mem_append, List.mem_singleton]
      rcases hpd with hpd | rfl
      · obtain ⟨e, hm, hk2⟩ := h2 j fj hj hpd
        exact ⟨e, .inl hm, hk2⟩
      · rw [hfb] at hj; cases hj
        exact ⟨_, .inr rfl, rfl⟩
  · obtain ⟨j2, fj, hj, hpd, hk2, _⟩ := h1 e hm
    rw [hk2] at h3
    cases h3
    have := (List.getElem?_inj (List.getElem?_eq_some_iff.1 hj).1 hn).1 (hj.trans hfb.symm)
    rw [this, hp] at hpd
    cases hpd
end

theorem DoneAt.keep {w w' : World} {φ : List Nat} {b : Nat} {pd : Nat → Bool} (h : DoneAt w φ b pd) (hk : w'.heap[b]? = w.heap[b]?) : DoneAt w' φ b pd := by
  obtain ⟨es, clock, he, h1, h2⟩ := h
  exact ⟨es, clock, hk.trans he, h1, h2⟩
end Go.Proofs.Ytombehaaaojhdaa
