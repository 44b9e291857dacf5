/- files.Of -/
import Derived.Test.YtombehaaaojhdaaDrs
set_option linter.unusedVariables false
namespace Go.Proofs.Ytombehaaaojhdaa
open Go.Maps Go.RowKit

set_option maxHeartbeats 2000000 in
theorem of_disk (w : World) (room : Int) :
    Calls Try.prog 5 #[.int .i64 room] w fun e w' => ∃ L nb sb, e = .returned (.pointer (some ⟨w.heap.size + 2, 0, none⟩)) ∧ DiskAt w' L (w.heap.size + 2) nb sb (.slice none 0 0) [] [] [] (DV.of room) ∧ (∀ k, k < w.heap.size → L k = none) ∧ Below w.heap.size w w' := by
  have hmm := @run_makeMap Try.prog
  have hmx := run_max2 0 room (max 0 room) rfl
  go_enter Try.func5, Try.ntmps5
  go_wp2
  go_ret
  have hs1 : ∀ (v : World) (o : Obj), (v.alloc o).heap.size = v.heap.size + 1 := fun v o => by show (v.heap.push _).size = _; rw [Array.size_push]
  have hb : ∀ o : Obj, Below w.heap.size w (((w.alloc (.map #[] 0)).alloc (.map #[] 0)).alloc o) := fun o =>
    (((Below.refl _ _).alloc (Nat.le_refl _) _).alloc (by rw [hs1]; omega) _).alloc (by rw [hs1, hs1]; omega) _
  have hdk := Blk.new ((w.alloc (.map #[] 0)).alloc (.map #[] 0)) 56 #[.map (some w.heap.size), .map (some (w.heap.size + 1)), .slice none 0 0, .int .i64 (max 0 room), .int .i64 (-1), .bool false, .int .i64 0]
  rw [hs1, hs1] at hdk
  have hm1 : MapAt Try.prog 9 (((w.alloc (.map #[] 0)).alloc (.map #[] 0)).alloc (.cells #[.map (some w.heap.size), .map (some (w.heap.size + 1)), .slice none 0 0, .int .i64 (max 0 room), .int .i64 (-1), .bool false, .int .i64 0] 56)) [] w.heap.size (.map []) :=
    mapAt_of (((World.ownsMap_made w Try.prog 9 (fread [])).alloc _).alloc _)
  have hm2 : MapAt Try.prog 9 (((w.alloc (.map #[] 0)).alloc (.map #[] 0)).alloc (.cells #[.map (some w.heap.size), .map (some (w.heap.size + 1)), .slice none 0 0, .int .i64 (max 0 room), .int .i64 (-1), .bool false, .int .i64 0] 56)) [] (w.heap.size + 1) (.map []) := by
    have := World.ownsMap_made (w.alloc (.map #[] 0)) Try.prog 9 (fread [])
    rw [hs1] at this
    exact mapAt_of (this.alloc _)
  refine ⟨fun k => if k = w.heap.size then some .now else if k = w.heap.size + 1 then some .safe else if k = w.heap.size + 2 then some .disk else none, w.heap.size, w.heap.size + 1, rfl, ?_, fun k hk => ?_, hb _⟩
  · exact {
      dom := fun k hl => by
        rw [hs1, hs1, hs1]
        have hl' : (if k = w.heap.size then some Lbl.now else if k = w.heap.size + 1 then some .safe else if k = w.heap.size + 2 then some .disk else none) ≠ none := hl
        by_cases h1 : k = w.heap.size
        · omega
        · by_cases h2 : k = w.heap.size + 1
          · omega
          · by_cases h3 : k = w.heap.size + 2
            · omega
            · simp [h1, h2, h3] at hl'
      ldisk := by simp
      cells := hdk
      lnow := by simp
      lsafe := by simp
      now := hm1
      safe := hm2
      hnow := Held.empty _
      hsafe := Held.empty _
      nfiles := rfl
      nvals := rfl
      files := fun i f hf => by cases hf
      wait := World.ownsRow_nil _ _ _ _
      lwait := fun g hg => by cases hg
      chs := fun i cs hc => by cases hc
      hchs := fun cs hc => by cases hc }
  · show (if k = w.heap.size then some Lbl.now else if k = w.heap.size + 1 then some .safe else if k = w.heap.size + 2 then some .disk else none) = none
    rw [if_neg (by omega), if_neg (by omega), if_neg (by omega)]
end Go.Proofs.Ytombehaaaojhdaa
