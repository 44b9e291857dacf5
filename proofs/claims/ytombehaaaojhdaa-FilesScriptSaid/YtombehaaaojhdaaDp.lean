/- put, Arm, Down, Calls: small walks of the disk -/
import Derived.Test.YtombehaaaojhdaaDc
import Derived.Maps.StringElems
set_option linter.unusedVariables false
namespace Go.Proofs.Ytombehaaaojhdaa
open Go.Maps Go.RowKit

theorem keyed : Keyed Try.prog 9 := string_keyed Try.underlying9

theorem hkey {s : Nm} (hs : s.length ≤ maxLen) : keyOf Try.prog 9 (.string ⟨s.toArray⟩) = some (.string s) := by
  have := Go.WideMaps.keyOf_string_mk (P := Try.prog) (k := 9) Try.underlying9 (s := ⟨s.toArray⟩) (by simpa [ByteArray.size] using hs)
  simpa using this

theorem put_any (w : World) (φ : List Nat) (hn : φ.Nodup) (b : Nat) (D : NMap) (c : Ch) (h : MapAt Try.prog 9 w φ b D) (hc : c.ok φ.length) (hs : c.1.length ≤ maxLen) (hsz : size D < maxLen) :
    Calls Try.prog 20 #[.map (some b), .agg #[.string ⟨c.1.toArray⟩, ptrOf φ c.2]] w fun e w' => e = .returned (.tuple #[]) ∧ MapAt Try.prog 9 w' φ b (put1 D c) ∧ w.grownBy w' (some b) := by
  obtain ⟨s, o⟩ := c
  cases o with
  | none =>
    have hg : w.grownBy (w.alloc (.cells #[.string ⟨s.toArray⟩, .pointer none] 60)) (some b) := World.grownBy_alloc _ _ _
    have hown := World.ownsMap.alloc h (.cells #[.string ⟨s.toArray⟩, .pointer none] 60)
    simp only [ptrOf]
    go_enter Try.func20, Try.ntmps20
    go_wp2_with (at_delete; refine wpList_delete_own _ rfl _ _ 53 9 rfl 58 keyed Try.underlying53 (fread φ) b _ D rfl hown _ _ rfl (hkey hs) ?_; intro w1 hown1 hturn1)
    refine bodyPost_ret (results_none rfl _ _ _) rfl ?_
    exact ⟨rfl, mapAt_of hown1, hg.trans hturn1.grown⟩
  | some i =>
    have hi : i < φ.length := hc i rfl
    obtain ⟨fb, hfb⟩ : ∃ fb, φ[i]? = some fb := ⟨_, List.getElem?_eq_getElem hi⟩
    have hp : ptrOf φ (some i) = .pointer (some ⟨fb, 0, none⟩) := by simp [ptrOf, hfb]
    have hr : fread φ (.pointer (some ⟨fb, 0, none⟩)) = some (.held i, []) := fread_mk hn hfb
    have hg : w.grownBy (w.alloc (.cells #[.string ⟨s.toArray⟩, .pointer (some ⟨fb, 0, none⟩)] 60)) (some b) := World.grownBy_alloc _ _ _
    have hown := World.ownsMap.alloc h (.cells #[.string ⟨s.toArray⟩, .pointer (some ⟨fb, 0, none⟩)] 60)
    simp only [hp]
    go_enter Try.func20, Try.ntmps20
    go_wp2_with (at_mapUpdate; refine wpList_mapUpdate_in _ rfl _ _ _ 53 rfl 9 58 keyed Try.underlying53 (fread φ) b _ D rfl hown hsz _ _ _ rfl rfl (hkey hs) _ [] hr ?_; intro w1 hown1 hturn1)
    go_end0
    exact ⟨rfl, mapAt_of hown1, hg.trans hturn1.grown⟩
end Go.Proofs.Ytombehaaaojhdaa
