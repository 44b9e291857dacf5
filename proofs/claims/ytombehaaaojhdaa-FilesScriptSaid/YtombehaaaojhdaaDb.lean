/- bytes of files: append, slices.Clone, slices.Clip -/
import Derived.Test.YtombehaaaojhdaaDcr
import Derived.Test.YtombehaaaojhdaaDk
import Derived.Test.YtombehaaaojhdaaRd
set_option linter.unusedVariables false
namespace Go.Proofs.Ytombehaaaojhdaa
open Go.Maps Go.RowKit

theorem info_u8 : (Try.prog.info? 5).map (fun i => (i.zero, i.size, i.bytes)) = some (some (.int .u8 0), 1, 1) := by kernel_rfl

theorem bcells_one (b : List UInt8) : ∀ u ∈ bcells b, u.oneCell' = true := by
  intro u hu
  simp only [bcells, List.mem_map] at hu
  obtain ⟨x, _, rfl⟩ := hu
  rfl

theorem BytesAt.cells {w : World} {ao : Option Addr} {n c : Nat} {b : List UInt8} (h : BytesAt w (.slice ao n c) b) : Reads w w.heap.size 1 ao b.length (bcells b) := by
  refine ⟨by simp [bcells], fun hn => ?_⟩
  rcases h with ho | ⟨g, cur, fz, e, hg, hm, ht⟩
  · obtain ⟨g, cap, hv, _, hlt⟩ := ho.form hn
    have hA : ao = some ⟨g, 0, none⟩ := by injection hv
    subst hA
    exact ⟨_, rfl, hlt, ho.cells (g := g) rfl⟩
  · have hA : ao = some ⟨g, 0, none⟩ := by injection e
    subst hA
    refine ⟨_, rfl, ?_, fun j u hu => ?_⟩
    · rcases Nat.lt_or_ge g w.heap.size with h' | h'
      · exact h'
      · rw [Array.getElem?_eq_none h'] at hg; cases hg
    · have e2 : (⟨g, 0, none⟩ : Addr).add j = ⟨g, j, none⟩ := by unfold Addr.add; split <;> simp_all
      rw [e2, cell_of_row w g j cur _ fz hg]
      rw [← ht] at hu
      have hj : j < b.length := by
        rcases Nat.lt_or_ge j b.length with h' | h'
        · exact h'
        · rw [List.getElem?_eq_none (by simp; omega)] at hu; cases hu
      rw [List.getElem?_take_of_lt hj] at hu
      simpa using hu

theorem run_append_bytes (w : World) (ao : Option Addr) (c : Nat) (b : List UInt8) (h : BytesAt w (.slice ao b.length c) b) (B : Nat) (A : Option Addr) (c' : Nat) (bs : List UInt8) (hr : Reads w B 1 A bs.length (bcells bs)) (hlen : b.length + bs.length ≤ 140737488355328) (ty : TypeId) :
    ∃ v' w', (Builtin.append_ #[32, 32] ty #[.slice ao b.length c, .slice A bs.length c']).run Try.prog w = .ok v' w' ∧ BytesAt w' v' (b ++ bs) ∧ w.grownBy w' (Value.slice ao b.length c).ownBlock ∧
      (v'.ownBlock = (Value.slice ao b.length c).ownBlock ∨ v'.ownBlock = some w.heap.size) := by
  obtain ⟨i0, hi, hz0, hz1, hz2⟩ := info_parts info_u8
  rcases Nat.eq_zero_or_pos bs.length with h0 | h0
  · have e0 : bs = [] := List.eq_nil_of_length_eq_zero h0
    subst e0
    refine ⟨_, w, run_append_zero w 32 ty 5 i0 Try.underlying32 hi ao _ c ?_ ?_ A c', by simpa using h, World.grownBy.refl _ _, .inl rfl⟩
    · rcases h with ⟨_, ⟨e, h0⟩ | ⟨g, cap, cur, e, _, _, hc, _⟩⟩ | ⟨g, cur, fz, e, _⟩
      · omega
      · cases e; exact hc
      · cases e; exact Nat.le_refl _
    · rintro rfl
      rcases h with ⟨_, ⟨e, h0⟩ | ⟨g, cap, cur, e, _⟩⟩ | ⟨g, cur, fz, e, _⟩
      · injection e with _ e1 e2
        exact ⟨e1, e2⟩
      · cases e
      · cases e
  · obtain ⟨ad, rfl, hB, hc⟩ := hr.2 h0
    rcases h with ho | ⟨g, cur, fz, e, hg, hm, ht⟩
    · obtain ⟨v', w', h1, h2, h3, _, h5⟩ := run_append_own_at (P := Try.prog) w 0 32 ty 5 i0 (.int .u8 0) 1 1 Try.underlying32 hi hz0 hz1 hz2 rfl (by decide) _ _ _ ho ad bs.length c' (bcells bs) (by simp [bcells]) hc (bcells_one bs) (by unfold maxLen; omega) (by omega) (Nat.zero_le _)
      refine ⟨v', w', h1, .inl ?_, h3, h5⟩
      rw [bcells_append]
      simpa using h2
    · have hA : ao = some ⟨g, 0, none⟩ := by injection e
      subst hA
      injection e with _ _ ec
      subst ec
      have hcl : ∀ j u, (bcells b)[j]? = some u → w.cell? ((⟨g, 0, none⟩ : Addr).add j) = some u := by
        have := BytesAt.cells (w := w) (ao := some ⟨g, 0, none⟩) (n := b.length) (c := b.length) (b := b) (.inr ⟨g, cur, fz, rfl, hg, hm, ht⟩)
        rcases Nat.eq_zero_or_pos b.length with hb0 | hb0
        · intro j u hu
          have : bcells b = [] := List.eq_nil_of_length_eq_zero (by simpa [bcells] using hb0)
          rw [this] at hu; cases hu
        · obtain ⟨ad', e', _, h'⟩ := this.2 hb0
          cases e'
          exact h'
      have hr := run_append_grow (P := Try.prog) w 32 ty 5 i0 (.int .u8 0) Try.underlying32 hi hz0 ⟨g, 0, none⟩ b.length b.length (bcells b) (by simp [bcells, hz1]) hcl ad bs.length c' (bcells bs) (by simp [bcells, hz1]) hc (by omega) (by omega) (growslice_fits (by omega) (by rw [hz2]; omega))
      have hge := grownCap_ge w (b.length + bs.length) b.length 5
      have hcm : grownCap w (b.length + bs.length) b.length 5 ≤ maxLen := grownCap_le_maxLen w _ _ _ (by unfold maxLen; omega)
      refine ⟨_, _, hr, .inl ⟨by simp [bcells], .inr ⟨w.heap.size, _, _, by rw [List.length_append], Nat.zero_le _, heap_alloc_new w.drew _, by simpa using hge, hcm, ?_, ?_⟩⟩, ⟨rfl, rfl, rfl, by simp, fun k hk _ => heap_alloc_old w.drew _ hk⟩, .inr rfl⟩
      · have hzc : (Value.int .u8 0).cells.size = 1 := rfl
        simp only [Array.size_append, List.size_toArray, size_zeroCells, hzc, bcells_length, Nat.mul_one]
        omega
      · rw [bcells_append]
        simp only [Array.toList_append, List.append_assoc, List.length_append, Nat.mul_one]
        rw [← List.append_assoc]
        exact List.take_left' (by simp [bcells])

/-- at an operation -/
theorem wpList_append_bytes {ops : Array Oper} {rest : List Oper} {o : Oper} {a : Act} {Q : Exit → Act → World → Prop} (w : World) (hgd : o.guard = none) (s x : Operand)
    (ho : o.op = .call { callee := .builtin .append, args := #[s, x], argTypes := #[32, 32] })
    (ao : Option Addr) (c : Nat) (b : List UInt8) (hs : a.eval s = .slice ao b.length c) (h : BytesAt w (.slice ao b.length c) b) (B : Nat) (A : Option Addr) (c' : Nat) (bs : List UInt8) (hx : a.eval x = .slice A bs.length c') (hr : Reads w B 1 A bs.length (bcells bs)) (hlen : b.length + bs.length ≤ 140737488355328)
    (hK : ∀ ao' c2 w', BytesAt w' (.slice ao' (b ++ bs).length c2) (b ++ bs) → w.grownBy w' (Value.slice ao b.length c).ownBlock →
      ((Value.slice ao' (b ++ bs).length c2).ownBlock = (Value.slice ao b.length c).ownBlock ∨ (Value.slice ao' (b ++ bs).length c2).ownBlock = some w.heap.size) → wpList Try.prog ops Q rest (a.put o.dst (.slice ao' (b ++ bs).length c2)) w') :
    wpList Try.prog ops Q (o :: rest) a w := by
  refine wpList_plain hgd fun K hK' => ?_
  obtain ⟨v', w', hrun, h2, h3, h4⟩ := run_append_bytes w ao c b h B A c' bs hr hlen o.type
  obtain ⟨ao', c2, rfl⟩ := bytes_shape h2
  unfold Oper.wp execOp
  simp only [ho, resolve, invoke, builtin, Sem.run_bind, Sem.run_pure, Result.andThen_ok, List.map_toArray, List.map_cons, List.map_nil, hs, hx, hrun]
  exact hK' _ _ (hK _ _ _ h2 h3 h4)

theorem run_buildEmpty (w : World) : (Instr.buildSlice 32 0 #[]).run Try.prog w = .ok (.slice (some ⟨w.heap.size, 0, none⟩) 0 0) (w.alloc (.cells #[] 5)) := by kernel_rfl

set_option maxHeartbeats 1000000 in
theorem clone_any (w : World) (ao : Option Addr) (c : Nat) (b : List UInt8) (hr : Reads w w.heap.size 1 ao b.length (bcells b)) (hlen : b.length ≤ 140737488355328) :
    Calls Try.prog 34 #[.slice ao b.length c] w fun e w' => ∃ ao' c', e = .returned (.slice ao' b.length c') ∧ Reads w' w'.heap.size 1 ao' b.length (bcells b) ∧ Below w.heap.size w w' := by
  cases ao with
  | none =>
    have hb0 : b = [] := by
      cases b with
      | nil => rfl
      | cons x r => obtain ⟨ad, e, _⟩ := hr.2 (by simp); cases e
    subst hb0
    have he : ∀ (W : World), (binOp .eql 32 (.slice none 0 c) (.slice none 0 0)).run Try.prog W = .ok (.bool true) W := fun W => by kernel_rfl
    go_enter Try.func34, Try.ntmps34
    go_wp2
    go_ret
    exact ⟨none, 0, rfl, Reads.none_, Below.refl _ _⟩
  | some ad =>
    have he : ∀ (W : World), (binOp .eql 32 (.slice (some ad) b.length c) (.slice none 0 0)).run Try.prog W = .ok (.bool false) W := fun W => by kernel_rfl
    have hE : BytesAt (w.alloc (.cells #[] 5)) (.slice (some ⟨w.heap.size, 0, none⟩) 0 0) [] := .inr ⟨w.heap.size, #[], (0, 0), rfl, heap_alloc_new w _, by simp [maxLen], rfl⟩
    have hr1 : Reads (w.alloc (.cells #[] 5)) w.heap.size 1 (some ad) b.length (bcells b) := hr.alloc (Nat.le_refl _) _
    have HE := Lib.hid hE
    have HR := Lib.hid hr1
    have HL := Lib.hid hlen
    clear hE hr1 hr hlen
    go_enter Try.func34, Try.ntmps34
    go_wp2_with (at_builtin; refine wpList_append_bytes _ rfl _ _ rfl (some ⟨w.heap.size, 0, none⟩) 0 [] rfl HE.out _ (some ad) c b rfl HR.out ?_ ?_; (have := HL.out; simp; omega); intro ao' c2 w' hb hg hat)
    go_ret
    refine ⟨ao', c2, by simp, ?_, ?_⟩
    · have := hb.cells
      simpa using this
    · exact ((Below.refl _ _).alloc (Nat.le_refl _) _).grown hg (by simp) (fun k hk => by cases hk; exact Nat.le_refl _)

theorem clip_any (w : World) (ao : Option Addr) (n c : Nat) (hn : n ≤ c) (hc : c ≤ maxLen) :
    Calls Try.prog 21 #[.slice ao n c] w fun e w' => e = .returned (.slice ao n n) ∧ w = w' := by
  unfold maxLen at hc
  go_enter Try.func21, Try.ntmps21
  go_wp2
  go_ret
  exact ⟨rfl, rfl⟩
end Go.Proofs.Ytombehaaaojhdaa
