/- view.Node, node.Of -/
import Derived.Test.YtombehaaaojhdaaDoorVt
set_option linter.unusedVariables false
namespace Go.Proofs.YtombehaaaojhdaaDoor
open Go.RowKit

theorem last_any (base lterm : Int) (ao : Option Addr) (n c : Nat) (w : World) (hb0 : 0 ≤ base) (hb1 : base ≤ 4000000000000000000) (hn : n ≤ 4000000000000000000) :
    Calls Tryd.prog 25 #[.agg #[.int .i64 base, .int .i64 lterm, .slice ao n c]] w fun e w' => e = .returned (.int .i64 (base + n)) ∧ Below w.heap.size w w' := by
  go_enter Tryd.func25, Tryd.ntmps25
  go_wp2
  go_ret
  exact ⟨rfl, (Below.refl _ _).alloc (Nat.le_refl _) _⟩

def roleText (k : Int) : List UInt8 := if k = 0 then [102, 111, 108, 108, 111, 119, 101, 114] else if k = 1 then [99, 97, 110, 100, 105, 100, 97, 116, 101] else if k = 2 then [108, 101, 97, 100, 101, 114] else [45]
def nodeText (id role term last commit : Int) : List UInt8 := rowText [[110, 111, 100, 101], Lib.itoa id, roleText role, Lib.itoa term, Lib.itoa last, Lib.itoa commit]
theorem join6 (a b c d e f : List UInt8) : Lib.join [a, b, c, d, e, f] [32] = a ++ [32] ++ b ++ [32] ++ c ++ [32] ++ d ++ [32] ++ e ++ [32] ++ f := by simp [Lib.join]

theorem cells6 (w : World) (t : TypeId) (a b c d e f : List UInt8) : ∀ (j : Nat) x, [a, b, c, d, e, f][j]? = some x → (w.alloc (.cells #[.string ⟨a.toArray⟩, .string ⟨b.toArray⟩, .string ⟨c.toArray⟩, .string ⟨d.toArray⟩, .string ⟨e.toArray⟩, .string ⟨f.toArray⟩] t)).cell? ⟨w.heap.size, 0 + j, none⟩ = some (.string ⟨x.toArray⟩) := by
  intro j x hx
  rw [Nat.zero_add, (Blk.new w t _).cell j]
  match j, hx with
  | 0, hx => simp at hx; subst hx; rfl
  | 1, hx => simp at hx; subst hx; rfl
  | 2, hx => simp at hx; subst hx; rfl
  | 3, hx => simp at hx; subst hx; rfl
  | 4, hx => simp at hx; subst hx; rfl
  | 5, hx => simp at hx; subst hx; rfl

def nodeCells (id term vote base lterm role commit : Int) (ev : Value) (rest : Array Value) : Array Value := #[.int .i64 id, .int .i64 term, .int .i64 vote, .int .i64 base, .int .i64 lterm, ev, .int .i64 role, .int .i64 commit] ++ rest

set_option maxHeartbeats 4000000 in
theorem node_any (id term vote base lterm role commit : Int) (x0 x1 x2 x3 x4 x5 x6 x7 x8 x9 : Value) (ao : Option Addr) (n c : Nat) (w : World) (ht : TabW w)
    (hi : i64 id) (htm : i64 term) (hcm : i64 commit) (hb0 : 0 ≤ base) (hb1 : base ≤ 4000000000000000000) (hn : n ≤ 4000000000000000000) :
    Calls Tryd.prog 14 #[.agg #[.int .i64 id, .int .i64 term, .int .i64 vote, .int .i64 base, .int .i64 lterm, .slice ao n c, .int .i64 role, .int .i64 commit, x0, x1, x2, x3, x4, x5, x6, x7, x8, x9]] w fun e w' => 
      e = .returned (.string ⟨(nodeText id role term (base + n) commit).toArray⟩) ∧ Below w.heap.size w w' := by
  go_enter Tryd.func14, Tryd.ntmps14
  go_upto_region 1 with fail
  iterate 8 go_step
  go_cut [3] (fun v3 wc => v3 = .string ⟨(roleText role).toArray⟩ ∧ Below w.heap.size w wc ∧ Blk wc w.heap.size 56 #[.int .i64 id, .int .i64 term, .int .i64 vote, .int .i64 base, .int .i64 lterm, .slice ao n c, .int .i64 role, .int .i64 commit, x0, x1, x2, x3, x4, x5, x6, x7, x8, x9])
  case first =>
    rcases (show role = 0 ∨ role = 1 ∨ role = 2 ∨ role < 0 ∨ 3 ≤ role by omega) with rfl|rfl|rfl|hk|hk
    all_goals go_wp2
    all_goals go_meet
    all_goals case rel => exact ⟨by first | rfl | (simp [roleText]; done) | (rw [roleText, if_neg (by omega), if_neg (by omega), if_neg (by omega)]), by repeat (first | exact Below.refl _ _ | refine Below.alloc ?_ (by simp; try omega) _), by first | exact Blk.new _ _ _ | exact (Blk.new _ _ _).alloc _⟩
  case rest => 
    obtain ⟨rfl, hb1', hB⟩ := hcut
    have ht' := ht.below hb1'
    have c0 := hB.cell 0
    have c1 := hB.cell 1
    have c3 := hB.cell 3
    have c4 := hB.cell 4
    have c5 := hB.cell 5
    have c7 := hB.cell 7
    simp at c0 c1 c3 c4 c5 c7
    have hS : ∀ w', Below wc.heap.size wc w' → (w'.cell? ⟨w.heap.size, 0, none⟩ = some (.int .i64 id) ∧ w'.cell? ⟨w.heap.size, 1, none⟩ = some (.int .i64 term) ∧ w'.cell? ⟨w.heap.size, 3, none⟩ = some (.int .i64 base) ∧ w'.cell? ⟨w.heap.size, 4, none⟩ = some (.int .i64 lterm) ∧ w'.cell? ⟨w.heap.size, 5, none⟩ = some (.slice ao n c) ∧ w'.cell? ⟨w.heap.size, 7, none⟩ = some (.int .i64 commit)) :=
      fun w' hb => ⟨cell_keep hb c0, cell_keep hb c1, cell_keep hb c3, cell_keep hb c4, cell_keep hb c5, cell_keep hb c7⟩
    have HS := Lib.hid hS
    clear hS
    have HT := Lib.hid ht'
    have hlast : i64 (base + n) := ⟨by omega, by omega⟩
    have l1 := Lib.itoa_length_le id hi.1 hi.2
    have l2 := Lib.itoa_length_le term htm.1 htm.2
    have l4 := Lib.itoa_length_le commit hcm.1 hcm.2
    have l5 := Lib.itoa_length_le (base + n) hlast.1 hlast.2
    have l3 : (roleText role).length ≤ 9 := by unfold roleText; (repeat' split) <;> simp
    have hlen : (Lib.join [[110, 111, 100, 101], Lib.itoa id, roleText role, Lib.itoa term, Lib.itoa (base + n), Lib.itoa commit] [32]).length ≤ 1000000000 := by rw [join6]; simp only [List.length_append, List.length_cons, List.length_nil]; omega
    have HL := Lib.hid hlen
    clear hlen l1 l2 l3 l4 l5
    have HI := Lib.hid (show i64 id ∧ i64 term ∧ i64 commit ∧ i64 (base + n) from ⟨hi, htm, hcm, hlast⟩)
    have hfin : (nodeText id role term (base + n) commit) = rowText [[110, 111, 100, 101], Lib.itoa id, roleText role, Lib.itoa term, Lib.itoa (base + n), Lib.itoa commit] := rfl
    have HF := Lib.hid hfin
    clear hfin hi htm hcm hlast
    generalize roleText role = kt at *
    go_wp2_with fail
    go_region_held3 (fun w' => w'.cell? ⟨w.heap.size, 0, none⟩ = some (.int .i64 id) ∧ w'.cell? ⟨w.heap.size, 1, none⟩ = some (.int .i64 term) ∧ w'.cell? ⟨w.heap.size, 3, none⟩ = some (.int .i64 base) ∧ w'.cell? ⟨w.heap.size, 4, none⟩ = some (.int .i64 lterm) ∧ w'.cell? ⟨w.heap.size, 5, none⟩ = some (.slice ao n c) ∧ w'.cell? ⟨w.heap.size, 7, none⟩ = some (.int .i64 commit))
      (first | exact ⟨c0, c1, c3, c4, c5, c7⟩ | exact HS.out _ hB2 | exact HS.out _ (hB2.alloc hB2.size _) | exact HS.out _ (Below.refl _ _).drew) 
      (first 
        | (go_at_call 17; refine (itoa_any _ (by first | exact HI.out.1.1 | exact HI.out.2.1.1 | exact HI.out.2.2.1.1 | exact HI.out.2.2.2.1) (by first | exact HI.out.1.2 | exact HI.out.2.1.2 | exact HI.out.2.2.1.2 | exact HI.out.2.2.2.2) _ ?_).mono ?_; (first | exact HT.out.below hB2 | exact HT.out.below (Below.refl _ _).drew); rintro e w2 ⟨rfl, hb2⟩; have hB2 : Below wc.heap.size wc w2 := by first | exact below_then hB2 hb2 | exact below_of_drew hb2)
        | (go_at_call 25; refine (last_any _ _ _ _ _ _ hb0 hb1 hn).mono ?_; rintro e w2 ⟨rfl, hb2⟩; have hB2 : Below wc.heap.size wc w2 := by first | exact below_then hB2 hb2 | exact below_of_drew hb2)
        | (go_at_call 16; refine (row_any _ 0 6 [[110, 111, 100, 101], Lib.itoa id, kt, Lib.itoa term, Lib.itoa (base + n), Lib.itoa commit] _ (cells6 _ _ _ _ _ _ _ _) (by simp) (by simp) (by simp) HL.out).mono ?_; rintro e w2 ⟨rfl, hb2⟩; have hB2 : Below wc.heap.size wc w2 := below_then (hB2.alloc hB2.size _) hb2))
    go_wp2
    go_ret
    exact ⟨by rw [HF.out]; rfl, hb1'.trans (hB2.mono hb1'.size)⟩

theorem nodeOf_any (id : Int) (w : World) : Calls Tryd.prog 15 #[.int .i64 id] w fun e w' => e = .returned (.agg #[.int .i64 id, .int .i64 0, .int .i64 (-1), .int .i64 0, .int .i64 0, .slice none 0 0, .int .i64 0, .int .i64 0, .bool false, .bool false, .bool false, .int .i64 0, .int .i64 0, .int .i64 0, .int .i64 0, .int .i64 0, .int .i64 0, .int .i64 0]) ∧ Below w.heap.size w w' := by
  go_enter Tryd.func15, Tryd.ntmps15
  go_wp2
  exact bodyPost_ret (results_cell_row rfl _ _ w.heap.size 56 _ (0, 0) _ rfl (Blk.new _ _ _) Tryd.underlying56 rfl (by kernel_rfl)) rfl ⟨rfl, (Below.refl _ _).alloc (Nat.le_refl _) _⟩
#print axioms node_any
#print axioms nodeOf_any
end Go.Proofs.YtombehaaaojhdaaDoor
