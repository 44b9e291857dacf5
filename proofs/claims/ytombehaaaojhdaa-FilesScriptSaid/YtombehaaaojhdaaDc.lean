/- (*Disk).call, Arm, Down, Calls, Of -/
import Derived.Test.YtombehaaaojhdaaDs
import Derived.Test.YtombehaaaojhdaaK
import Derived.Deep.DeepCutAuto
import Derived.BigQuiet
import Derived.Deep.RegionHeld3
set_option linter.unusedVariables false
namespace Go.Proofs.Ytombehaaaojhdaa
open Go.Maps Go.RowKit

/-- the disk's numbers turn, nothing else -/
theorem DiskAt.nums {w w' : World} {L : Lab} {db nb sb : Nat} {wv : Value} {φ : List Nat} {fv cv : List Value} {d : DV} (h : DiskAt w L db nb sb wv φ fv cv d)
    (hs : w.heap.size ≤ w'.heap.size) (hk : ∀ k, L k ≠ none → k ≠ db → w'.heap[k]? = w.heap[k]?) (room left : Int) (down : Bool) (calls : Nat)
    (hd : Blk w' db 56 #[.map (some nb), .map (some sb), wv, .int .i64 room, .int .i64 left, .bool down, .int .i64 calls]) :
    DiskAt w' L db nb sb wv φ fv cv { d with room := room, left := left, down := down, calls := calls } where
  dom := fun k hk => Nat.lt_of_lt_of_le (h.dom k hk) hs
  ldisk := h.ldisk
  cells := hd
  lnow := h.lnow
  lsafe := h.lsafe
  now := h.now.block (hk nb (by simp [h.lnow]) (fun e => by have := h.lnow; rw [e, h.ldisk] at this; cases this))
  safe := h.safe.block (hk sb (by simp [h.lsafe]) (fun e => by have := h.lsafe; rw [e, h.ldisk] at this; cases this))
  hnow := h.hnow
  hsafe := h.hsafe
  nfiles := h.nfiles
  nvals := h.nvals
  files := fun i f hf => by
    obtain ⟨fb, v, h1, h2, h3⟩ := h.files i f hf
    exact ⟨fb, v, h1, h2, h3.lab, (hk fb (by simp [h3.lab]) (fun e => by have := h3.lab; rw [e, h.ldisk] at this; cases this)).trans h3.cells,
      h3.bytes.keep (fun g hg => hk g (by simp [h3.row g hg]) (fun e => by have := h3.row g hg; rw [e, h.ldisk] at this; cases this)), h3.row⟩
  wait := by
    obtain ⟨hl, hw⟩ := h.wait
    refine ⟨hl, ?_⟩
    rcases hw with hw | ⟨g, cap, cur, rfl, h0, hg, rest⟩
    · exact .inl hw
    · exact .inr ⟨g, cap, cur, rfl, h0, (hk g (by simp [h.lwait g rfl]) (fun e => by have := h.lwait g rfl; rw [e, h.ldisk] at this; cases this)).trans hg, rest⟩
  lwait := h.lwait
  chs := fun i cs hc => by
    obtain ⟨v, h1, ⟨g, cur, rfl, hg, hcur, hl⟩⟩ := h.chs i cs hc
    exact ⟨_, h1, ⟨g, cur, rfl, (hk g (by simp [hl]) (fun e => by have := hl; rw [e, h.ldisk] at this; cases this)).trans hg, hcur, hl⟩⟩
  hchs := h.hchs

/-- the disk as a call takes it -/
structure Dsk (w : World) (L : Lab) (db : Nat) (d : DV) : Prop where
  ex : ∃ nb sb wv φ fv cv, DiskAt w L db nb sb wv φ fv cv d

theorem grown_set {w w' : World} {g : Nat} (h : w.grownBy w' (some g)) (i : Nat) (u : Value) : w.grownBy (w'.setCell ⟨g, i, none⟩ u) (some g) :=
  ⟨h.os, h.tape, h.output, by simpa [World.setCell] using h.size, fun k hk hne => (Below.heap_setCell w' ⟨g, i, none⟩ u k (fun e => hne (by rw [e]))).trans (h.block k hk hne)⟩

theorem call_any (w : World) (db : Nat) (m : Value) (m2 : Value) (wv : Value) (room left : Int) (down : Bool) (calls : Nat) (h0 : -1 ≤ left) (h1 : left ≤ 9223372036854775807) (hc : calls ≤ 1099511627776)
    (hd : Blk w db 56 #[m, m2, wv, .int .i64 room, .int .i64 left, .bool down, .int .i64 calls]) :
    Calls Try.prog 35 #[.pointer (some ⟨db, 0, none⟩)] w fun e w' => e = .returned (.bool (decide (left ≠ 0))) ∧
      Blk w' db 56 #[m, m2, wv, .int .i64 room, .int .i64 (max (-1) (left - 1)), .bool (decide (left = 0)), .int .i64 (calls + 1 : Nat)] ∧
      w.grownBy w' (some db) := by
  have c0 := hd.cell 0
  have c4 := hd.cell 4
  have c6 := hd.cell 6
  have c5 := hd.cell 5
  have f4 := hd.frozen 4
  have f5 := hd.frozen 5
  have f6 := hd.frozen 6
  simp at c0 c4 c5 c6
  go_enter Try.func35, Try.ntmps35
  go_wp2
  all_goals go_ret
  all_goals have hbeq : (left == 0) = decide (left = 0) := by rfl
  all_goals refine ⟨by simp [hbeq], ?_, (grown_set (grown_set (grown_set (World.grownBy.refl _ _) _ _) _ _) _ _)⟩
  · have := ((hd.set_ 6 (.int .i64 (calls + 1 : Nat))).set_ 5 (.bool (left == 0))).set_ 4 (.int .i64 (left - 1))
    have e : max (-1) (left - 1) = left - 1 := by omega
    rw [e]
    simpa [hbeq] using this
  · have := ((hd.set_ 6 (.int .i64 (calls + 1 : Nat))).set_ 5 (.bool (left == 0))).set_ 4 (.int .i64 (-1))
    have e : max (-1) (left - 1) = -1 := by omega
    rw [e]
    simpa [hbeq] using this

/-- with the disk -/
theorem call_disk (w : World) (L : Lab) (db nb sb : Nat) (wv : Value) (φ : List Nat) (fv cv : List Value) (d : DV) (h : DiskAt w L db nb sb wv φ fv cv d) (hok : d.ok) (hc : d.calls ≤ 1099511627776) :
    Calls Try.prog 35 #[.pointer (some ⟨db, 0, none⟩)] w fun e w' => e = .returned (.bool d.on) ∧ DiskAt w' L db nb sb wv φ fv cv d.tick ∧ Turned L L w w' := by
  refine (call_any w db _ _ wv d.room d.left d.down d.calls hok.left0 hok.left1 hc h.cells).mono ?_
  rintro e w' ⟨rfl, hb, hg⟩
  refine ⟨rfl, ?_, hg.os, hg.tape, hg.output, hg.size, fun k hk hl => hg.block k hk (fun e => by cases e; rw [h.ldisk] at hl; cases hl), fun k _ hl => hl⟩
  exact h.nums hg.size (fun k hk hne => hg.block k (h.dom k hk) (by simpa using hne)) d.room _ _ _ hb
end Go.Proofs.Ytombehaaaojhdaa
