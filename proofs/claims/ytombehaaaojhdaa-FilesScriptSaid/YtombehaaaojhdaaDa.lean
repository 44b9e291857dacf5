/- Arm, Down, Calls -/
import Derived.Test.YtombehaaaojhdaaDu
set_option linter.unusedVariables false
namespace Go.Proofs.Ytombehaaaojhdaa
open Go.Maps Go.RowKit

theorem down_disk (w : World) (L : Lab) (db nb sb : Nat) (wv : Value) (φ : List Nat) (fv cv : List Value) (d : DV) (h : DiskAt w L db nb sb wv φ fv cv d) :
    Calls Try.prog 11 #[.pointer (some ⟨db, 0, none⟩)] w fun e w' => e = .returned (.bool d.down) ∧ w' = w := by
  have c5 : w.cell? ⟨db, 5, none⟩ = some (.bool d.down) := (Blk.cell h.cells 5).trans rfl
  go_enter Try.func11, Try.ntmps11
  go_wp2
  go_ret
  exact ⟨rfl, rfl⟩

theorem calls_disk (w : World) (L : Lab) (db nb sb : Nat) (wv : Value) (φ : List Nat) (fv cv : List Value) (d : DV) (h : DiskAt w L db nb sb wv φ fv cv d) :
    Calls Try.prog 12 #[.pointer (some ⟨db, 0, none⟩)] w fun e w' => e = .returned (.int .i64 d.calls) ∧ w' = w := by
  have c6 : w.cell? ⟨db, 6, none⟩ = some (.int .i64 d.calls) := (Blk.cell h.cells 6).trans rfl
  go_enter Try.func12, Try.ntmps12
  go_wp2
  go_ret
  exact ⟨rfl, rfl⟩

theorem arm_disk (w : World) (L : Lab) (db nb sb : Nat) (wv : Value) (φ : List Nat) (fv cv : List Value) (d : DV) (hD : DiskAt w L db nb sb wv φ fv cv d) (n : Int) :
    Calls Try.prog 6 #[.pointer (some ⟨db, 0, none⟩), .int .i64 n] w fun e w' => e = .returned (.tuple #[]) ∧ DiskAt w' L db nb sb wv φ fv cv (d.arm n) ∧ Turned L L w w' := by
  have c4 : w.cell? ⟨db, 4, none⟩ = some (.int .i64 d.left) := (Blk.cell hD.cells 4).trans rfl
  have f4 : w.frozen? ⟨db, 4, none⟩ = false := Blk.frozen hD.cells 4
  go_enter Try.func6, Try.ntmps6
  go_wp2
  all_goals go_end0
  all_goals have hg : ∀ v, w.grownBy (w.setCell ⟨db, 4, none⟩ v) (some db) := fun v => grown_set (World.grownBy.refl _ _) _ _
  all_goals refine ⟨rfl, ?_, (hg _).os, (hg _).tape, (hg _).output, (hg _).size, fun k hk hl => (hg _).block k hk (fun e => by cases e; rw [hD.ldisk] at hl; cases hl), fun k _ hl => hl⟩
  all_goals refine hD.nums (hg _).size (fun k hk hne => (hg _).block k (hD.dom k hk) (by simpa using hne)) d.room (max (-1) n) d.down d.calls ?_
  · have e : max (-1) n = n := by omega
    rw [e]
    exact Blk.set_ hD.cells 4 _
  · have e : max (-1) n = -1 := by omega
    rw [e]
    exact Blk.set_ hD.cells 4 _
end Go.Proofs.Ytombehaaaojhdaa
