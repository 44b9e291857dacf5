/- awake: the document's examples of layer 20 -/
import Derived.Test.YtombehaaaojhdaaDoorVn
set_option linter.unusedVariables false
namespace Go.Proofs.YtombehaaaojhdaaDoor
open Go.RowKit

theorem quote_k : quoteText [107] = [34, 107, 34] := by decide +kernel
theorem quote_v : quoteText [118] = [34, 118, 34] := by decide +kernel
def pvK : PV := ⟨⟨[107], [118], false⟩, by simp [PairV.ok]⟩
theorem awake_state : accText (headText 2 1) [pvK] = [115, 116, 97, 116, 101, 32, 50, 32, 49, 10, 34, 107, 34, 32, 61, 32, 34, 118, 34, 10] := by
  simp only [accText, headText, pvK, PairV.text, quote_k, quote_v, List.flatMap_cons, List.flatMap_nil]
  decide +kernel
theorem awake_ref : refText [112, 49] 2 0 3 = [112, 49, 32, 112, 97, 114, 116, 32, 48, 32, 51, 10] := by decide +kernel
theorem awake_node : nodeText 2 0 0 0 0 = [110, 111, 100, 101, 32, 50, 32, 102, 111, 108, 108, 111, 119, 101, 114, 32, 48, 32, 48, 32, 48, 10] := by decide +kernel

set_option maxHeartbeats 1000000 in
theorem awake_any (w : World) (hT : TabsW w) : Calls Tryd.prog 6 #[] w fun e w' => e = .returned (.bool true) ∧ Below w.heap.size w w' := by
  go_enter Tryd.func6, Tryd.ntmps6
  have h1 := Lib.hid awake_state
  have h2 := Lib.hid awake_ref
  have h3 := Lib.hid awake_node
  have HT := Lib.hid hT
  clear hT
  go_wp2_with fail
  have hb1 : Below w.heap.size w ((w.alloc (.cells #[.string ⟨#[107]⟩, .string ⟨#[118]⟩, .bool false] 38)).alloc (.cells #[.int .i64 2, .int .i64 1, .slice (some ⟨w.heap.size, 0, none⟩) 1 1, .slice none 0 0] 36)) := ((Below.refl _ _).alloc (Nat.le_refl _) _).alloc (by simp) _
  have hB := (Blk.new w 38 #[.string ⟨#[107]⟩, .string ⟨#[118]⟩, .bool false]).alloc (.cells #[.int .i64 2, .int .i64 1, .slice (some ⟨w.heap.size, 0, none⟩) 1 1, .slice none 0 0] 36)
  generalize ((w.alloc (.cells #[.string ⟨#[107]⟩, .string ⟨#[118]⟩, .bool false] 38)).alloc (.cells #[.int .i64 2, .int .i64 1, .slice (some ⟨w.heap.size, 0, none⟩) 1 1, .slice none 0 0] 36)) = w1 at *
  refine (state_any 2 1 (by decide) (by decide) (by decide) (by decide) _ _ [pvK] (by decide) w1 (HT.out.below hb1) (.inr ⟨w.heap.size, 0, 1, rfl, hB.lt, ?hp⟩)).mono ?_
  case hp =>
    intro k p hp
    match k, hp with
    | 0, hp => 
      simp at hp; subst hp
      exact ⟨by rw [hB.cell]; rfl, by rw [hB.cell]; rfl, by rw [hB.cell]; rfl⟩
  rintro e w2 ⟨rfl, hb2⟩
  rw [h1.out]
  have hb1 := below_then hb1 hb2
  go_wp2_with fail
  refine (ref_any [112, 49] 2 0 3 _ (HT.out.below hb1).1 (by decide) (by decide) (by decide) (by decide) (by decide)).mono ?_
  rintro e w3 ⟨rfl, hb3⟩
  rw [show refText [112, 49] 2 0 3 = [112, 49, 32, 112, 97, 114, 116, 32, 48, 32, 51, 10] from h2.out]
  have hb1 := below_then hb1 hb3
  go_wp2_with fail
  refine (nodeOf_any 2 _).mono ?_
  rintro e w4 ⟨rfl, hb4⟩
  have hb1 := below_then hb1 hb4
  go_wp2_with fail
  refine (node_any 2 0 (-1) 0 0 0 0 _ _ _ _ _ _ _ _ _ _ none 0 0 _ (HT.out.below hb1).1 (by simp [i64]) (by simp [i64]) (by simp [i64]) (by decide) (by decide) (by decide)).mono ?_
  rintro e w5 ⟨rfl, hb5⟩
  rw [show nodeText 2 0 0 (0 + ((0 : Nat) : Int)) 0 = [110, 111, 100, 101, 32, 50, 32, 102, 111, 108, 108, 111, 119, 101, 114, 32, 48, 32, 48, 32, 48, 10] from h3.out]
  have hb1 := below_then hb1 hb5
  go_wp2
  go_ret
  exact ⟨rfl, hb1⟩
#print axioms awake_any
end Go.Proofs.YtombehaaaojhdaaDoor
