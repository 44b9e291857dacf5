/- view.row and view.Ref -/
import Derived.WalkKit
import Derived.Deep.QuietTactic
import Derived.BigQuiet
import Derived.Deep.RegionHeld3
import Derived.Deep.DeepCutAuto
import Derived.Lib.ItoaLen
import Derived.Test.YtombehaaaojhdaaDoorShelf
import Derived.Test.YtombehaaaojhdaaDoorK
namespace Go.Proofs.YtombehaaaojhdaaDoor
open Go.RowKit

def rowText (xs : List (List UInt8)) : List UInt8 := Lib.join xs [32] ++ [10]

set_option maxHeartbeats 400000 in
theorem row_any (bk o c : Nat) (xs : List (List UInt8)) (w : World) (hcells : ∀ (j : Nat) x, xs[j]? = some x → w.cell? ⟨bk, o + j, none⟩ = some (.string ⟨x.toArray⟩))
    (hbk : bk < w.heap.size) (hN : xs.length ≤ 1000) (hcap : xs.length ≤ c) (hlen : (Lib.join xs [32]).length ≤ 1000000000) :
    Calls Tryd.prog 16 #[.slice (some ⟨bk, o, none⟩) xs.length c] w fun e w' => e = .returned (.string ⟨(rowText xs).toArray⟩) ∧ Below w.heap.size w w' := by
  have hj := Tryd.strings_Join bk o c (xs.map fun x => ⟨x.toArray⟩) ⟨#[32]⟩ w
    (fun j x hx => by
      rw [List.getElem?_map] at hx
      cases h : xs[j]? with
      | none => rw [h] at hx; simp at hx
      | some y => rw [h] at hx; simp at hx; rw [hcells j y h, ← hx])
    hbk (by simp; omega) (by simpa using hcap) (by simp [Function.comp_def]; omega)
  simp only [List.length_map, List.map_map, Function.comp_def, List.map_id'] at hj
  have HJ := Lib.hid hj
  clear hj
  go_enter Tryd.func16, Tryd.ntmps16
  go_wp2_with fail
  refine HJ.out.mono ?_
  rintro e w' ⟨rfl, hb⟩
  go_wp2
  go_ret
  exact ⟨by simp [rowText, ← bs_app], hb⟩

def TabW (w : World) : Prop := Lib.TabIs Tryd.prog w "internal/strconv.uint64pow10" .u64 Lib.pow10Tab
theorem TabW.below {w w' : World} (h : TabW w) (hb : Below w.heap.size w w') : TabW w' := tabIs_below (g := 0) (by kernel_rfl) h hb

theorem itoa_any (n : Int) (h0 : -9223372036854775808 ≤ n) (h1 : n ≤ 9223372036854775807) (w : World) (ht : TabW w) :
    Calls Tryd.prog 17 #[.int .i64 n] w fun e w' => e = .returned (.string ⟨(Lib.itoa n).toArray⟩) ∧ Below w.heap.size w w' :=
  (Tryd.strconv_Itoa n h0 h1 w ht).mono fun e w' ⟨he, k, os, hw⟩ => ⟨he, by subst hw; exact below_grow (below_drewN (Below.refl _ _) _) (Nat.le_refl _) _⟩

def kindText (k : Int) : List UInt8 := if k = 0 then [102, 117, 108, 108] else if k = 1 then [100, 101, 108, 116, 97] else if k = 2 then [112, 97, 114, 116] else [45]
def refText (name : List UInt8) (kind fr tt : Int) : List UInt8 := rowText [name, kindText kind, Lib.itoa fr, Lib.itoa tt]

theorem cells4 (w : World) (t : TypeId) (a b c d : List UInt8) : ∀ (j : Nat) x, [a, b, c, d][j]? = some x → (w.alloc (.cells #[.string ⟨a.toArray⟩, .string ⟨b.toArray⟩, .string ⟨c.toArray⟩, .string ⟨d.toArray⟩] t)).cell? ⟨w.heap.size, 0 + j, none⟩ = some (.string ⟨x.toArray⟩) := by
  intro j x hx
  rw [Nat.zero_add, (Blk.new w t _).cell j]
  match j, hx with
  | 0, hx => simp at hx; subst hx; rfl
  | 1, hx => simp at hx; subst hx; rfl
  | 2, hx => simp at hx; subst hx; rfl
  | 3, hx => simp at hx; subst hx; rfl

theorem join4 (a b c d : List UInt8) : Lib.join [a, b, c, d] [32] = a ++ [32] ++ b ++ [32] ++ c ++ [32] ++ d := by simp [Lib.join]

set_option maxHeartbeats 1600000 in
theorem ref_any (name : List UInt8) (kind fr tt : Int) (w : World) (ht : TabW w) (hn : name.length ≤ 2000000) 
   (hf0 : -9223372036854775808 ≤ fr) (hf1 : fr ≤ 9223372036854775807) (hu0 : -9223372036854775808 ≤ tt) (hu1 : tt ≤ 9223372036854775807) :
    Calls Tryd.prog 8 #[.agg #[.string ⟨name.toArray⟩, .int .i64 kind, .int .i64 fr, .int .i64 tt]] w fun e w' => e = .returned (.string ⟨(refText name kind fr tt).toArray⟩) ∧ Below w.heap.size w w' := by
  go_enter Tryd.func8, Tryd.ntmps8
  go_upto_region 1 with fail
  iterate 8 go_step
  go_cut [3] (fun v3 wc => v3 = .string ⟨(kindText kind).toArray⟩ ∧ Below w.heap.size w wc ∧ Blk wc w.heap.size 29 #[.string ⟨name.toArray⟩, .int .i64 kind, .int .i64 fr, .int .i64 tt])
  case first =>
    rcases (show kind = 0 ∨ kind = 1 ∨ kind = 2 ∨ kind < 0 ∨ 3 ≤ kind by omega) with rfl|rfl|rfl|hk|hk
    all_goals go_wp2
    all_goals go_meet
    all_goals case rel => exact ⟨by first | rfl | (simp [kindText]; done) | (rw [kindText, if_neg (by omega), if_neg (by omega), if_neg (by omega)]), by repeat (first | exact Below.refl _ _ | refine Below.alloc ?_ (by simp; try omega) _), by first | exact Blk.new _ _ _ | exact (Blk.new _ _ _).alloc _⟩
  case rest => 
    obtain ⟨rfl, hb1, hB⟩ := hcut
    have ht' := ht.below hb1
    have c0 := hB.cell 0
    have c2 := hB.cell 2
    have c3 := hB.cell 3
    simp at c0 c2 c3
    have hS : ∀ w', Below wc.heap.size wc w' → (w'.cell? ⟨w.heap.size, 0, none⟩ = some (.string ⟨name.toArray⟩) ∧ w'.cell? ⟨w.heap.size, 2, none⟩ = some (.int .i64 fr) ∧ w'.cell? ⟨w.heap.size, 3, none⟩ = some (.int .i64 tt)) :=
      fun w' hb => ⟨cell_keep hb c0, cell_keep hb c2, cell_keep hb c3⟩
    have HS := Lib.hid hS
    clear hS
    have HT := Lib.hid ht'
    have l1 := Lib.itoa_length_le fr hf0 hf1
    have l2 := Lib.itoa_length_le tt hu0 hu1
    have l3 : (kindText kind).length ≤ 5 := by unfold kindText; (repeat' split) <;> simp
    have hlen : (Lib.join [name, kindText kind, Lib.itoa fr, Lib.itoa tt] [32]).length ≤ 1000000000 := by rw [join4]; simp; omega
    have HL := Lib.hid hlen
    clear hlen
    have hfin : (refText name kind fr tt) = rowText [name, kindText kind, Lib.itoa fr, Lib.itoa tt] := rfl
    have HF := Lib.hid hfin
    clear hfin
    generalize kindText kind = kt at *
    go_wp2_with fail
    go_region_held3 (fun w' => w'.cell? ⟨w.heap.size, 0, none⟩ = some (.string ⟨name.toArray⟩) ∧ w'.cell? ⟨w.heap.size, 2, none⟩ = some (.int .i64 fr) ∧ w'.cell? ⟨w.heap.size, 3, none⟩ = some (.int .i64 tt))
      (first | exact ⟨c0, c2, c3⟩ | exact HS.out _ hB2 | exact HS.out _ (hB2.alloc hB2.size _) | exact HS.out _ (Below.refl _ _).drew) 
      (first 
        | (go_at_call 17; refine (itoa_any _ (by assumption) (by assumption) _ ?_).mono ?_; (first | exact HT.out.below hB2 | exact HT.out.below (Below.refl _ _).drew); rintro e w2 ⟨rfl, hb2⟩; have hB2 : Below wc.heap.size wc w2 := by first | exact below_then hB2 hb2 | exact below_of_drew hb2)
        | (go_at_call 16; refine (row_any _ 0 4 [name, kt, Lib.itoa fr, Lib.itoa tt] _ (cells4 _ _ _ _ _ _) (by simp) (by simp) (by simp) HL.out).mono ?_; rintro e w2 ⟨rfl, hb2⟩; have hB2 : Below wc.heap.size wc w2 := below_then (hB2.alloc hB2.size _) hb2))
    go_wp2
    go_ret
    exact ⟨by rw [HF.out]; rfl, hb1.trans (hB2.mono hb1.size)⟩

end Go.Proofs.YtombehaaaojhdaaDoor
