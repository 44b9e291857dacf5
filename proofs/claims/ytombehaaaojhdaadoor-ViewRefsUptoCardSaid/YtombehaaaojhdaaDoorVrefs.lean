/- the law ViewRefs, walked -/
import Derived.Test.YtombehaaaojhdaaDoorVa
set_option linter.unusedVariables false
namespace Go.Proofs.YtombehaaaojhdaaDoor
open Go.RowKit

theorem RefsAt.take {w : World} {b o : Nat} {rs : List RefV} (h : RefsAt w b o rs) (n : Nat) : RefsAt w b o (rs.take n) := fun k r hr => h k r (by
  rw [List.getElem?_take] at hr
  split at hr
  · exact hr
  · cases hr)

theorem decDigits_pos (n : Nat) : 1 ≤ (Lib.decDigits n).length := by
  unfold Lib.decDigits
  split <;> simp
theorem itoa_pos (n : Int) : 1 ≤ (Lib.itoa n).length := by
  unfold Lib.itoa
  split
  · simp
  · exact decDigits_pos _

set_option maxHeartbeats 4000000 in
theorem refs_walk (b o c : Nat) (rs : List RefV) (floor : Int) (hf0 : -9223372036854775808 ≤ floor) (hf1 : floor ≤ 9223372036854775807) (w : World) (hT : TabsW w) (hr : RefsAt w b o rs) (hn : rs.length ≤ c) (hc : c ≤ 9223372036854775807) :
    Calls Tryd.prog 3 #[.slice (some ⟨b, o, none⟩) rs.length c, .int .i64 floor] w fun e w' => e = .returned (.bool true) ∧ Below w.heap.size w w' := by
  obtain ⟨m, hm⟩ : ∃ m : Nat, m = min rs.length 30 := ⟨_, rfl⟩
  have hm1 : m ≤ 30 := by omega
  have hm2 : m ≤ rs.length := by omega
  have hmin : (min (rs.length : Int) 30).toNat = m := by omega
  have HM := Lib.hid hm
  clear hm
  have HT := Lib.hid hT
  have HR := Lib.hid hr
  clear hT hr
  go_enter Tryd.func3, Tryd.ntmps3
  go_wp2_with fail
  refine (awake_any w HT.out).mono ?_
  rintro e w1 ⟨rfl, hb1⟩
  go_wp2_with fail
  refine (set_none none 0 floor hf0 hf1 w1 (HT.out.below hb1).1).mono ?_
  rintro e w2 ⟨rfl, hb2⟩
  have hb2 := below_then hb1 hb2
  clear hb1
  go_wp2_with fail
  have hok : ∀ r ∈ rs, r.ok := fun r h => by
    obtain ⟨k, hk⟩ := List.getElem?_of_mem h
    exact (HR.out k r hk).1
  have hle : ∀ j, j ≤ m → (setText floor (rs.take j)).length ≤ 1000000000 := fun j hj => by
    have h1 := setText_le floor ⟨hf0, hf1⟩ (rs.take j) (fun r h => hok r (List.mem_of_mem_take h))
    have h2 : (rs.take j).length * 2000100 ≤ 64 * 2000100 := Nat.mul_le_mul_right _ (by simp; omega)
    omega
  have HLE := Lib.hid hle
  have HB := Lib.hid hb2
  have HOK := Lib.hid hok
  clear hle hok hb2
  go_loopw [5, 20] (fun out k wr => ∃ j : Nat, j ≤ m ∧ k = .int .i64 j ∧ out = .string ⟨(setText floor (rs.take j)).toArray⟩ ∧ Below w2.heap.size w2 wr) (fun _ k _ => m - (intOf k).toNat)
  case atStart => exact ⟨0, Nat.zero_le _, rfl, by simp, Below.refl _ _⟩
  case round =>
    obtain ⟨j, hj, rfl, rfl, hb⟩ := hrel
    by_cases hlt : j < m
    · obtain ⟨r, hrj⟩ : ∃ r, rs[j]? = some r := ⟨_, List.getElem?_eq_getElem (by omega)⟩
      have hRR := HR.out.keep (below_then HB.out hb)
      obtain ⟨⟨hn1, hn2, hn3⟩, c0, c1, c2, c3⟩ := hRR j r hrj
      have HRR := Lib.hid hRR
      have hT := Lib.hid ((HT.out.below HB.out).below hb)
      have hsn : setText floor (rs.take (j + 1)) = setText floor (rs.take j) ++ r.text := by
        rw [List.take_add_one, hrj, ← setText_snoc]; rfl
      have HSN := Lib.hid hsn
      have hl1 := HLE.out j (by omega)
      have hl2 : r.text.length ≤ 1000000000 := by
        have := refText_le r (HOK.out r (List.mem_of_getElem? hrj))
        omega
      simp only [RefV.text] at hl2
      clear hsn hRR hrj
      obtain ⟨n, kd, f, t⟩ := r
      simp only at c0 c1 c2 c3 hn1 hn2 hn3 hl2
      have HSN2 : Hid ((⟨(setText floor (rs.take j)).toArray⟩ : ByteArray) ++ ⟨(refText n kd f t).toArray⟩ = ⟨(setText floor (rs.take (j + 1))).toArray⟩) := by
        show _ = _
        rw [HSN.out, bs_app]; rfl
      go_wp2_with fail
      have hb4 : Below wr.heap.size wr (wr.alloc (.cells #[.string ⟨n.toArray⟩, .int .i64 kd, .int .i64 f, .int .i64 t] 29)) := (Below.refl _ _).alloc (Nat.le_refl _) _
      refine (ref_any _ _ _ _ _ (hT.out.below hb4).1 hn1 hn2.1 hn2.2 hn3.1 hn3.2).mono ?_
      rintro e w4 ⟨rfl, hb5⟩
      have hb5 := below_then hb4 hb5
      go_wp2_with fail
      have hset := set_some b o c (rs.take (j + 1)) floor hf0 hf1 w4 (hT.out.below hb5).1 ((HRR.out.keep hb5).take _) (by simp; omega)
      rw [List.length_take, Nat.min_eq_left (by omega)] at hset
      have HSET := Lib.hid hset
      clear hset
      refine HSET.out.mono ?_
      rintro e w6 ⟨rfl, hb6⟩
      have hb6 := below_then hb5 hb6
      clear HSET hb5 hb4
      rw [HSN2.out]
      go_wp2
      go_roundw
      case rel => exact ⟨j + 1, by omega, by go_num, rfl, below_then hb hb6⟩
      case measure => simp [intOf]; omega
    · obtain rfl : j = m := by omega
      have h7 : 7 < (setText floor (rs.take j)).length := by
        have h1 : 1 ≤ (Lib.itoa floor).length := itoa_pos floor
        have e : Lib.join [[102, 108, 111, 111, 114], Lib.itoa floor] [32] = [102, 108, 111, 111, 114] ++ [32] ++ Lib.itoa floor := by simp [Lib.join]
        simp only [setText, rowText, e, List.length_append, List.length_cons, List.length_nil]
        omega
      have H7 := Lib.hid h7
      clear h7
      go_wp2
      go_ret
      exact ⟨by have := H7.out; simp; omega, below_then HB.out hb⟩

set_option maxHeartbeats 4000000 in
theorem refs_walk_none (ao : Option Addr) (c : Nat) (floor : Int) (hf0 : -9223372036854775808 ≤ floor) (hf1 : floor ≤ 9223372036854775807) (w : World) (hT : TabsW w) :
    Calls Tryd.prog 3 #[.slice ao 0 c, .int .i64 floor] w fun e w' => e = .returned (.bool true) ∧ Below w.heap.size w w' := by
  have HT := Lib.hid hT
  clear hT
  go_enter Tryd.func3, Tryd.ntmps3
  go_wp2_with fail
  refine (awake_any w HT.out).mono ?_
  rintro e w1 ⟨rfl, hb1⟩
  go_wp2_with fail
  refine (set_none none 0 floor hf0 hf1 w1 (HT.out.below hb1).1).mono ?_
  rintro e w2 ⟨rfl, hb2⟩
  have hb2 := below_then hb1 hb2
  go_wp2_with fail
  refine wp_loop_rounds 1 ?_
  rw [rounds_succ]
  have h7 : 7 < (setText floor []).length := by
    have h1 : 1 ≤ (Lib.itoa floor).length := itoa_pos floor
    have e : Lib.join [[102, 108, 111, 111, 114], Lib.itoa floor] [32] = [102, 108, 111, 111, 114] ++ [32] ++ Lib.itoa floor := by simp [Lib.join]
    simp only [setText, rowText, e, List.length_append, List.length_cons, List.length_nil]
    omega
  have H7 := Lib.hid h7
  clear h7
  go_wp2
  go_ret
  exact ⟨by have := H7.out; simp; omega, hb2⟩
#print axioms refs_walk
#print axioms refs_walk_none
end Go.Proofs.YtombehaaaojhdaaDoor
