/- view.Set -/
import Derived.Test.YtombehaaaojhdaaDoorVr
namespace Go.Proofs.YtombehaaaojhdaaDoor
open Go.RowKit

structure RefV where
  name : List UInt8
  kind : Int
  fr : Int
  tt : Int

def i64 (n : Int) : Prop := -9223372036854775808 ≤ n ∧ n ≤ 9223372036854775807
def RefV.ok (r : RefV) : Prop := r.name.length ≤ 2000000 ∧ i64 r.fr ∧ i64 r.tt
def RefV.text (r : RefV) : List UInt8 := refText r.name r.kind r.fr r.tt
def setText (floor : Int) (rs : List RefV) : List UInt8 := rowText [[102, 108, 111, 111, 114], Lib.itoa floor] ++ rs.flatMap RefV.text

/-- the refs lie at ⟨b, o⟩, four cells each -/
def RefsAt (w : World) (b o : Nat) (rs : List RefV) : Prop := ∀ (k : Nat) r, rs[k]? = some r → r.ok ∧
  w.cell? ⟨b, o + k * 4, none⟩ = some (.string ⟨r.name.toArray⟩) ∧ w.cell? ⟨b, o + k * 4 + 1, none⟩ = some (.int .i64 r.kind) ∧
  w.cell? ⟨b, o + k * 4 + 2, none⟩ = some (.int .i64 r.fr) ∧ w.cell? ⟨b, o + k * 4 + 3, none⟩ = some (.int .i64 r.tt)

theorem RefsAt.keep {w w' : World} {b o : Nat} {rs : List RefV} (h : RefsAt w b o rs) (hb : Below w.heap.size w w') : RefsAt w' b o rs := fun k r hr =>
  let ⟨a, c0, c1, c2, c3⟩ := h k r hr
  ⟨a, cell_keep hb c0, cell_keep hb c1, cell_keep hb c2, cell_keep hb c3⟩

theorem refText_le (r : RefV) (h : r.ok) : r.text.length ≤ 2000100 := by
  obtain ⟨h1, h2, h3⟩ := h
  have l1 := Lib.itoa_length_le r.fr h2.1 h2.2
  have l2 := Lib.itoa_length_le r.tt h3.1 h3.2
  have l3 : (kindText r.kind).length ≤ 5 := by unfold kindText; (repeat' split) <;> simp
  simp only [RefV.text, refText, rowText, join4]
  simp
  omega

theorem setText_snoc (f : Int) (rs : List RefV) (r : RefV) : setText f (rs ++ [r]) = setText f rs ++ r.text := by simp [setText]

theorem cells2 (w : World) (t : TypeId) (a b : List UInt8) : ∀ (j : Nat) x, [a, b][j]? = some x → (w.alloc (.cells #[.string ⟨a.toArray⟩, .string ⟨b.toArray⟩] t)).cell? ⟨w.heap.size, 0 + j, none⟩ = some (.string ⟨x.toArray⟩) := by
  intro j x hx
  rw [Nat.zero_add, (Blk.new w t _).cell j]
  match j, hx with
  | 0, hx => simp at hx; subst hx; rfl
  | 1, hx => simp at hx; subst hx; rfl

theorem setText_le (f : Int) (hf : i64 f) (rs : List RefV) (h : ∀ r ∈ rs, r.ok) : (setText f rs).length ≤ 100 + rs.length * 2000100 := by
  have l1 := Lib.itoa_length_le f hf.1 hf.2
  have : (rs.flatMap RefV.text).length ≤ rs.length * 2000100 := by
    induction rs with
    | nil => simp
    | cons r rs ih =>
      have := refText_le r (h r (by simp))
      have := ih (fun x hx => h x (by simp [hx]))
      simp only [List.flatMap_cons, List.length_append, List.length_cons]
      omega
  have e : Lib.join [[102, 108, 111, 111, 114], Lib.itoa f] [32] = [102, 108, 111, 111, 114] ++ [32] ++ Lib.itoa f := by simp [Lib.join]
  simp only [setText, rowText, e, List.length_append, List.length_cons, List.length_nil]
  omega

set_option maxHeartbeats 1600000 in
theorem set_some (b o c : Nat) (rs : List RefV) (floor : Int) (hf0 : -9223372036854775808 ≤ floor) (hf1 : floor ≤ 9223372036854775807) (w : World) (ht : TabW w) (hr : RefsAt w b o rs) (hn : rs.length ≤ 64) :
    Calls Tryd.prog 7 #[.agg #[.slice (some ⟨b, o, none⟩) rs.length c, .int .i64 floor]] w fun e w' => e = .returned (.string ⟨(setText floor rs).toArray⟩) ∧ Below w.heap.size w w' := by
  go_enter Tryd.func7, Tryd.ntmps7
  have hlen0 : (Lib.join [[102, 108, 111, 111, 114], Lib.itoa floor] [32]).length ≤ 1000000000 := by
    have := Lib.itoa_length_le floor hf0 hf1
    simp [Lib.join]; omega
  have HL := Lib.hid hlen0
  clear hlen0
  have HT := Lib.hid ht
  go_wp2_with fail
  have hb1 : Below w.heap.size w (w.alloc (.cells #[.slice (some ⟨b, o, none⟩) rs.length c, .int .i64 floor] 26)) := (Below.refl _ _).alloc (Nat.le_refl _) _
  have hB := Blk.new w 26 #[.slice (some ⟨b, o, none⟩) rs.length c, .int .i64 floor]
  generalize (w.alloc (.cells #[.slice (some ⟨b, o, none⟩) rs.length c, .int .i64 floor] 26)) = w1 at *
  refine (itoa_any _ hf0 hf1 _ (HT.out.below hb1)).mono ?_
  rintro e w2 ⟨rfl, hb2⟩
  have hb1 := below_then hb1 hb2
  have hB := hB.keep hb2
  clear hb2
  go_wp2_with fail
  refine (row_any _ 0 2 [[102, 108, 111, 111, 114], Lib.itoa floor] _ (cells2 _ _ _ _) (by simp) (by simp) (by simp) HL.out).mono ?_
  rintro e w3 ⟨rfl, hb3⟩
  have hb3 : Below w2.heap.size w2 w3 := ((Below.refl _ _).alloc (Nat.le_refl _) _).trans (hb3.mono (by simp))
  have hb1 := below_then hb1 hb3
  have hB := hB.keep hb3
  clear hb3
  have c0 := hB.cell 0
  simp at c0
  have hr := hr.keep hb1
  have hlt := hB.lt
  go_wp2_with fail
  have hok : ∀ r ∈ rs, r.ok := fun r h => by
    obtain ⟨k, hk⟩ := List.getElem?_of_mem h
    exact (hr k r hk).1
  have hle := Lib.hid (fun k => setText_le floor ⟨hf0, hf1⟩ (rs.take k) (fun r h => hok r (List.mem_of_mem_take h)))
  have HT3 := HT.out.below hb1
  have HR := Lib.hid hr
  have HB := Lib.hid hb1
  have HOK := Lib.hid hok
  have hlen : rs.length ≤ 9223372036854775807 := by omega
  clear ht HT c0 hB hlt hr hb1 hok HL
  go_loopw [3, 14] (fun out k wr => ∃ j : Nat, j ≤ rs.length ∧ k = .int .i64 j ∧ out = .string ⟨(setText floor (rs.take j)).toArray⟩ ∧ Below w3.heap.size w3 wr) (fun _ k _ => rs.length - (intOf k).toNat)
  case atStart => exact ⟨0, Nat.zero_le _, rfl, by simp [setText], Below.refl _ _⟩
  case round =>
    obtain ⟨j, hj, rfl, rfl, hb⟩ := hrel
    by_cases hlt : j < rs.length
    · obtain ⟨r, hrj⟩ : ∃ r, rs[j]? = some r := ⟨_, List.getElem?_eq_getElem hlt⟩
      obtain ⟨⟨hn1, hn2, hn3⟩, c0, c1, c2, c3⟩ := HR.out.keep hb j r hrj
      have hT := Lib.hid (HT3.below hb)
      have hsn : setText floor (rs.take (j + 1)) = setText floor (rs.take j) ++ r.text := by
        rw [List.take_add_one, hrj, ← setText_snoc]; rfl
      have HSN := Lib.hid hsn
      have hl1 : (setText floor (rs.take j)).length ≤ 1000000000 := by
        have h1 := hle.out j
        have h2 : (rs.take j).length * 2000100 ≤ 64 * 2000100 := Nat.mul_le_mul_right _ (by simp; omega)
        omega
      have hl2 : r.text.length ≤ 1000000000 := by
        have := refText_le r (HOK.out r (List.mem_of_getElem? hrj))
        omega
      simp only [RefV.text] at hl2
      clear hsn
      obtain ⟨n, kd, f, t⟩ := r
      simp only at c0 c1 c2 c3 hn1 hn2 hn3 hl2
      go_wp2_with fail
      have hb4 : Below wr.heap.size wr (wr.alloc (.cells #[.string ⟨n.toArray⟩, .int .i64 kd, .int .i64 f, .int .i64 t] 29)) := (Below.refl _ _).alloc (Nat.le_refl _) _
      refine (ref_any _ _ _ _ _ (hT.out.below hb4) hn1 hn2.1 hn2.2 hn3.1 hn3.2).mono ?_
      rintro e w4 ⟨rfl, hb5⟩
      have hb5 := below_then hb4 hb5
      go_wp2
      go_roundw
      case rel => exact ⟨j + 1, by omega, by go_num, by rw [HSN.out]; simp [← bs_app, RefV.text], below_then hb hb5⟩
      case measure => simp [intOf]; omega
    · obtain rfl : j = rs.length := by omega
      go_wp2
      go_ret
      exact ⟨by simp, below_then HB.out hb⟩

/-- no refs: whatever the address -/
theorem set_none (ao : Option Addr) (c : Nat) (floor : Int) (hf0 : -9223372036854775808 ≤ floor) (hf1 : floor ≤ 9223372036854775807) (w : World) (ht : TabW w) :
    Calls Tryd.prog 7 #[.agg #[.slice ao 0 c, .int .i64 floor]] w fun e w' => e = .returned (.string ⟨(setText floor []).toArray⟩) ∧ Below w.heap.size w w' := by
  go_enter Tryd.func7, Tryd.ntmps7
  have hlen0 : (Lib.join [[102, 108, 111, 111, 114], Lib.itoa floor] [32]).length ≤ 1000000000 := by
    have := Lib.itoa_length_le floor hf0 hf1
    simp [Lib.join]; omega
  have HL := Lib.hid hlen0
  clear hlen0
  have HT := Lib.hid ht
  go_wp2_with fail
  have hb1 : Below w.heap.size w (w.alloc (.cells #[.slice ao 0 c, .int .i64 floor] 26)) := (Below.refl _ _).alloc (Nat.le_refl _) _
  have hB := Blk.new w 26 #[.slice ao 0 c, .int .i64 floor]
  generalize (w.alloc (.cells #[.slice ao 0 c, .int .i64 floor] 26)) = w1 at *
  refine (itoa_any _ hf0 hf1 _ (HT.out.below hb1)).mono ?_
  rintro e w2 ⟨rfl, hb2⟩
  have hb1 := below_then hb1 hb2
  have hB := hB.keep hb2
  clear hb2
  go_wp2_with fail
  refine (row_any _ 0 2 [[102, 108, 111, 111, 114], Lib.itoa floor] _ (cells2 _ _ _ _) (by simp) (by simp) (by simp) HL.out).mono ?_
  rintro e w3 ⟨rfl, hb3⟩
  have hb3 : Below w2.heap.size w2 w3 := ((Below.refl _ _).alloc (Nat.le_refl _) _).trans (hb3.mono (by simp))
  have hb1 := below_then hb1 hb3
  have hB := hB.keep hb3
  clear hb3
  have c0 := hB.cell 0
  simp at c0
  go_wp2_with fail
  refine wp_loop_rounds 1 ?_
  rw [rounds_succ]
  go_wp2
  go_ret
  exact ⟨by simp [setText], hb1⟩

#print axioms set_some
#print axioms set_none
end Go.Proofs.YtombehaaaojhdaaDoor
