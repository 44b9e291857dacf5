/- (*Disk).Sync -/
import Derived.Test.YtombehaaaojhdaaDf
set_option linter.unusedVariables false
namespace Go.Proofs.Ytombehaaaojhdaa
open Go.Maps Go.RowKit

/-- what a call on a disk hands over -/
def DiskTo (w : World) (L : Lab) (db : Nat) (d : DV) (w' : World) : Prop :=
  ∃ L' nb sb wv φ fv cv, DiskAt w' L' db nb sb wv φ fv cv d ∧ Turned L L' w w'

theorem look_run (w : World) {L : Lab} {db nb sb : Nat} {wv : Value} {φ : List Nat} {fv cv : List Value} {d : DV} (h : DiskAt w L db nb sb wv φ fv cv d) {s : Nm} (hs : s.length ≤ maxLen) :
    (Instr.lookup 53 (.map (some nb)) (.string ⟨s.toArray⟩) true).run Try.prog w = .ok (.tuple #[ptrOf φ (look d.now s), .bool (look d.now s).isSome]) w :=
  h.now.look_ok keyed Try.underlying53 (by kernel_rfl) h.hnow (hkey hs)

theorem turned_set {w : World} {L : Lab} {fb i : Nat} {o : Nat} {v u : Value} (hL : L fb = none → False) (hrow : ∀ g, v.ownBlock = some g → L g ≠ none) :
    Turned L (fun k => if v.ownBlock = some k then some (.row i) else L k) w (w.setCell ⟨fb, o, none⟩ u) where
  os := rfl
  tape := rfl
  output := rfl
  size := by simp [World.setCell]
  block := fun k _ hl => Below.heap_setCell _ _ _ _ fun e => hL (by have e : k = fb := e; rw [← e]; exact hl)
  dom := fun k _ hl => by
    by_cases e : v.ownBlock = some k
    · exact hrow k e
    · have hl' : (if v.ownBlock = some k then some (Lbl.row i) else L k) ≠ none := hl
      rw [if_neg e] at hl'; exact hl'

set_option maxHeartbeats 4000000 in
theorem sync_disk (w : World) (L : Lab) (db nb sb : Nat) (wv : Value) (φ : List Nat) (fv cv : List Value) (d : DV) (h : DiskAt w L db nb sb wv φ fv cv d) (hok : d.ok) (hc : d.calls ≤ 1099511627776) (s : Nm) (hs : s.length ≤ maxLen) :
    Calls Try.prog 27 #[.pointer (some ⟨db, 0, none⟩), .string ⟨s.toArray⟩] w fun e w' => e = .returned (.int .i64 (d.sync s).2) ∧ DiskTo w L db (d.sync s).1 w' := by
  have c0 : w.cell? ⟨db, 0, none⟩ = some (.map (some nb)) := (Blk.cell h.cells 0).trans rfl
  have c5 : w.cell? ⟨db, 5, none⟩ = some (.bool d.down) := (Blk.cell h.cells 5).trans rfl
  have hlk := look_run w h hs
  have H := Lib.hid h
  have HOK := Lib.hid hok
  have HC := Lib.hid hc
  clear h hok hc
  have hself : DiskTo w L db d w := ⟨L, nb, sb, wv, φ, fv, cv, H.out, Turned.refl _ _⟩
  have HS := Lib.hid hself
  clear hself
  cases hd : d.down with
  | true =>
    rw [hd] at c5
    have hr : d.sync s = (d, eCrash) := by simp [DV.sync, hd]
    rw [hr]
    obtain ⟨pv, hpv⟩ := ptrOf_shape φ (look d.now s)
    rw [hpv] at hlk
    go_enter Try.func27, Try.ntmps27
    go_wp2
    go_ret
    exact ⟨rfl, HS.out⟩
  | false =>
    rw [hd] at c5
    cases hl : look d.now s with
    | none =>
      rw [hl] at hlk
      simp only [ptrOf, Option.isSome_none] at hlk
      have hr : d.sync s = (d, eUnknown) := by simp [DV.sync, hd, hl]
      rw [hr]
      go_enter Try.func27, Try.ntmps27
      go_wp2
      go_ret
      exact ⟨rfl, HS.out⟩
    | some i =>
      have hi := look_lt H.out.hnow hl
      obtain ⟨fb, hfb⟩ : ∃ fb, φ[i]? = some fb := ⟨_, List.getElem?_eq_getElem hi⟩
      rw [hl] at hlk
      simp only [ptrOf, hfb, Option.isSome_some] at hlk
      cases ho : d.on with
      | false =>
        have hr : d.sync s = (d.tick, eCrash) := by simp [DV.sync, hd, hl, ho]
        rw [hr]
        go_enter Try.func27, Try.ntmps27
        go_wp2_with fail
        refine (call_disk w L db nb sb wv φ fv cv d H.out HOK.out HC.out).mono ?_
        rintro e w1 ⟨rfl, h1, ht1⟩
        rw [ho]
        go_wp2
        go_ret
        exact ⟨rfl, L, nb, sb, wv, φ, fv, cv, h1, ht1⟩
      | true =>
        have hr : d.sync s = (d.tick.file i (fun f => { f with safe := f.b.length }), 0) := by simp [DV.sync, hd, hl, ho]
        rw [hr]
        go_enter Try.func27, Try.ntmps27
        go_wp2_with fail
        refine (call_disk w L db nb sb wv φ fv cv d H.out HOK.out HC.out).mono ?_
        rintro e w1 ⟨rfl, h1, ht1⟩
        rw [ho]
        obtain ⟨f, ao, cp, hf, hfv, hF⟩ := h1.file_at hfb
        have b0 : w1.cell? ⟨fb, 0, none⟩ = some (.slice ao f.b.length cp) := (Blk.cell hF.cells 0).trans rfl
        have b1 : w1.cell? ⟨fb, 1, none⟩ = some (.int .i64 f.safe) := (Blk.cell hF.cells 1).trans rfl
        have f1 : w1.frozen? ⟨fb, 1, none⟩ = false := Blk.frozen hF.cells 1
        have H1 := Lib.hid h1
        have HF := Lib.hid hF
        have HT := Lib.hid ht1
        clear h1 hF ht1
        go_wp2
        go_ret
        refine ⟨rfl, _, nb, sb, wv, φ, _, cv, H1.out.upd hfb hf (fun f => { f with safe := f.b.length }) (.slice ao f.b.length cp) (by simp [World.setCell]) ?_ (Blk.set_ HF.out.cells 1 _) ?_ ?_, ?_⟩
        · intro k _ hne _
          exact Below.heap_setCell _ _ _ _ hne
        · refine HF.out.bytes.keep fun g hg => Below.heap_setCell _ _ _ _ fun e => ?_
          have h1 := HF.out.row g hg
          have e : g = fb := e
          rw [e, HF.out.lab] at h1
          cases h1
        · exact fun g hg => .inl (HF.out.row g hg)
        · refine HT.out.trans (turned_set (fun hn => by rw [HF.out.lab] at hn; cases hn) (fun g hg => ?_))
          rw [HF.out.row g hg]; simp
end Go.Proofs.Ytombehaaaojhdaa
