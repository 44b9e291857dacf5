/- set with a new list of changes; (*Disk).Remove -/
import Derived.Test.YtombehaaaojhdaaDsy
set_option linter.unusedVariables false
namespace Go.Proofs.Ytombehaaaojhdaa
open Go.Maps Go.RowKit

theorem set_new (w : World) (L : Lab) (db nb sb : Nat) (wv : Value) (φ : List Nat) (fv cv : List Value) (d : DV) (h : DiskAt w L db nb sb wv φ fv cv d) (cs : List Ch) (cells : Array Value) (hce : cells = (chCells φ cs).toArray)
    (hcs : ∀ c ∈ cs, c.ok φ.length ∧ c.1.length ≤ maxLen) (hsz : size d.now + cs.length < 1000000) (hn1 : 1 ≤ cs.length) (hnw : d.wait.length ≤ 1099511627776) :
    Calls Try.prog 36 #[.pointer (some ⟨db, 0, none⟩), .slice (some ⟨w.heap.size, 0, none⟩) cs.length cs.length] (w.alloc (.cells cells 60)) fun e w' => e = .returned (.tuple #[]) ∧ DiskTo w L db (d.set cs) w' := by
  have hLg : L w.heap.size = none := by
    cases e : L w.heap.size with
    | none => rfl
    | some x => have := h.dom w.heap.size (by rw [e]; simp); omega
  have hsl : (w.alloc (.cells cells 60)).heap.size = w.heap.size + 1 := by show (w.heap.push _).size = _; rw [Array.size_push]
  have h1 := h.keep (w' := w.alloc (.cells cells 60)) (by omega) (fun k hk => Below.heap_alloc _ _ _ (h.dom k hk))
  refine (set_disk _ L db nb sb wv φ fv cv d h1 w.heap.size cs (hce ▸ Blk.new w _ _) hLg hcs hsz hn1 hnw).mono ?_
  rintro e w' ⟨rfl, L', wv', cv', hD, hos, htape, hout, hsize, hbl, hdom⟩
  refine ⟨rfl, L', nb, sb, wv', φ, fv, cv', hD, hos, htape, hout, by omega, fun k hk hl => ?_, fun k hk hl => ?_⟩
  · rw [hbl k (by omega) hl]; exact Below.heap_alloc _ _ _ hk
  · rcases hdom k (by omega) hl with h2 | h2
    · exact h2
    · omega

theorem DiskTo.trans {w w1 w' : World} {L : Lab} {db : Nat} {d : DV} (ht : Turned L L w w1) (h : DiskTo w1 L db d w') : DiskTo w L db d w' := by
  obtain ⟨L', nb, sb, wv, φ, fv, cv, hD, hT⟩ := h
  exact ⟨L', nb, sb, wv, φ, fv, cv, hD, ht.trans hT⟩

set_option maxHeartbeats 4000000 in
theorem remove_disk (w : World) (L : Lab) (db nb sb : Nat) (wv : Value) (φ : List Nat) (fv cv : List Value) (d : DV) (h : DiskAt w L db nb sb wv φ fv cv d) (hok : d.ok) (hsz : size d.now ≤ 64) (hc : d.calls ≤ 1099511627776) (s : Nm) (hs : s.length ≤ maxLen) :
    Calls Try.prog 29 #[.pointer (some ⟨db, 0, none⟩), .string ⟨s.toArray⟩] w fun e w' => e = .returned (.int .i64 (d.remove s).2) ∧ DiskTo w L db (d.remove s).1 w' := by
  have c0 : w.cell? ⟨db, 0, none⟩ = some (.map (some nb)) := (Blk.cell h.cells 0).trans rfl
  have c5 : w.cell? ⟨db, 5, none⟩ = some (.bool d.down) := (Blk.cell h.cells 5).trans rfl
  have hlk := look_run w h hs
  have H := Lib.hid h
  have HOK := Lib.hid hok
  have HC := Lib.hid hc
  have HS := Lib.hid (show DiskTo w L db d w from ⟨L, nb, sb, wv, φ, fv, cv, h, Turned.refl _ _⟩)
  clear h hok hc
  cases hd : d.down with
  | true =>
    rw [hd] at c5
    have hr : d.remove s = (d, eCrash) := by simp [DV.remove, hd]
    rw [hr]
    obtain ⟨pv, hpv⟩ := ptrOf_shape φ (look d.now s)
    rw [hpv] at hlk
    go_enter Try.func29, Try.ntmps29
    go_wp2
    go_ret
    exact ⟨rfl, HS.out⟩
  | false =>
    rw [hd] at c5
    cases hl : look d.now s with
    | none =>
      rw [hl] at hlk
      simp only [ptrOf, Option.isSome_none] at hlk
      have hr : d.remove s = (d, eUnknown) := by simp [DV.remove, hd, hl]
      rw [hr]
      go_enter Try.func29, Try.ntmps29
      go_wp2
      go_ret
      exact ⟨rfl, HS.out⟩
    | some i =>
      have hi := look_lt H.out.hnow hl
      obtain ⟨fb, hfb⟩ : ∃ fb, φ[i]? = some fb := ⟨_, List.getElem?_eq_getElem hi⟩
      rw [hl] at hlk
      simp only [ptrOf, hfb, Option.isSome_some] at hlk
      cases ho : d.on with
      | false =>
        have hr : d.remove s = (d.tick, eCrash) := by simp [DV.remove, hd, hl, ho]
        rw [hr]
        go_enter Try.func29, Try.ntmps29
        go_wp2_with fail
        refine (call_disk w L db nb sb wv φ fv cv d H.out HOK.out HC.out).mono ?_
        rintro e w1 ⟨rfl, h1, ht1⟩
        rw [ho]
        go_wp2
        go_ret
        exact ⟨rfl, L, nb, sb, wv, φ, fv, cv, h1, ht1⟩
      | true =>
        have hr : d.remove s = (d.tick.set [(s, none)], 0) := by simp [DV.remove, hd, hl, ho]
        rw [hr]
        go_enter Try.func29, Try.ntmps29
        go_wp2_with fail
        refine (call_disk w L db nb sb wv φ fv cv d H.out HOK.out HC.out).mono ?_
        rintro e w1 ⟨rfl, h1, ht1⟩
        rw [ho]
        have H1 := Lib.hid h1
        have HT := Lib.hid ht1
        clear h1 ht1
        go_wp2_with fail
        refine (set_new w1 L db nb sb wv φ fv cv d.tick H1.out [(s, none)] _ rfl (fun c hc => by simp at hc; subst hc; exact ⟨(fun i h => nomatch h), hs⟩) (by show size d.now + 1 < _; omega) (by simp) (Nat.le_trans HOK.out.waits HC.out)).mono ?_
        rintro e w2 ⟨rfl, h2⟩
        have H2 := Lib.hid h2
        clear h2
        go_wp2
        go_ret
        exact ⟨rfl, H2.out.trans HT.out⟩
end Go.Proofs.Ytombehaaaojhdaa
