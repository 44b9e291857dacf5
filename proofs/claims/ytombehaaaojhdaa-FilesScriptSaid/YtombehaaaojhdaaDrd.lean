/- (*Disk).Read, Cut -/
import Derived.Test.YtombehaaaojhdaaDb
set_option linter.unusedVariables false
namespace Go.Proofs.Ytombehaaaojhdaa
open Go.Maps Go.RowKit

set_option maxHeartbeats 4000000 in
theorem read_disk (w : World) (L : Lab) (db nb sb : Nat) (wv : Value) (φ : List Nat) (fv cv : List Value) (d : DV) (h : DiskAt w L db nb sb wv φ fv cv d) (hok : d.ok) (s : Nm) (hs : s.length ≤ maxLen) :
    Calls Try.prog 16 #[.pointer (some ⟨db, 0, none⟩), .string ⟨s.toArray⟩] w fun e w' => ∃ ao' c', e = .returned (.tuple #[.slice ao' (d.read s).1.length c', .int .i64 (d.read s).2]) ∧ Reads w' w'.heap.size 1 ao' (d.read s).1.length (bcells (d.read s).1) ∧ Below w.heap.size w w' := by
  have c0 : w.cell? ⟨db, 0, none⟩ = some (.map (some nb)) := (Blk.cell h.cells 0).trans rfl
  have c5 : w.cell? ⟨db, 5, none⟩ = some (.bool d.down) := (Blk.cell h.cells 5).trans rfl
  have hlk := look_run w h hs
  have H := Lib.hid h
  have HOK := Lib.hid hok
  clear h hok
  cases hd : d.down with
  | true =>
    rw [hd] at c5
    have hr : d.read s = ([], eCrash) := by simp [DV.read, hd]
    rw [hr]
    obtain ⟨pv, hpv⟩ := ptrOf_shape φ (look d.now s)
    rw [hpv] at hlk
    clear hr hpv
    go_enter Try.func16, Try.ntmps16
    go_wp2
    go_ret2
    exact ⟨none, 0, rfl, Reads.none_, Below.refl _ _⟩
  | false =>
    rw [hd] at c5
    cases hl : look d.now s with
    | none =>
      rw [hl] at hlk
      simp only [ptrOf, Option.isSome_none] at hlk
      have hr : d.read s = ([], eUnknown) := by simp [DV.read, hd, hl]
      rw [hr]
      clear hr
      go_enter Try.func16, Try.ntmps16
      go_wp2
      go_ret2
      exact ⟨none, 0, rfl, Reads.none_, Below.refl _ _⟩
    | some i =>
      have hi := look_lt H.out.hnow hl
      obtain ⟨fb, hfb⟩ : ∃ fb, φ[i]? = some fb := ⟨_, List.getElem?_eq_getElem hi⟩
      rw [hl] at hlk
      simp only [ptrOf, hfb, Option.isSome_some] at hlk
      obtain ⟨f, ao, cp, hf, hfv, hF⟩ := H.out.file_at hfb
      have b0 : w.cell? ⟨fb, 0, none⟩ = some (.slice ao f.b.length cp) := (Blk.cell hF.cells 0).trans rfl
      have hr : d.read s = (f.b, 0) := by simp [DV.read, hd, hl, hf]
      rw [hr]
      have hlen : f.b.length ≤ 140737488355328 := by have := HOK.out.lens f (List.mem_of_getElem? hf); have := HOK.out.room1; omega
      have HLEN := Lib.hid hlen
      have HF := Lib.hid hF
      clear hr hlen hF hf hl hfb hi
      go_enter Try.func16, Try.ntmps16
      go_wp2_with fail
      refine (clone_any w ao cp f.b HF.out.bytes.cells HLEN.out).mono ?_
      rintro e w1 ⟨ao', c', rfl, hR, hB⟩
      have HR := Lib.hid hR
      have HB := Lib.hid hB
      clear hR hB
      go_wp2
      go_ret2
      exact ⟨ao', c', rfl, HR.out, HB.out⟩

theorem take_clip {w : World} {g : Nat} {c : Nat} {b : List UInt8} (h : BytesAt w (.slice (some ⟨g, 0, none⟩) b.length c) b) {k : Nat} (hk : k ≤ b.length) : BytesAt w (.slice (some ⟨g, 0, none⟩) (b.take k).length (b.take k).length) (b.take k) := by
  have hkl : (b.take k).length = k := by simp; omega
  rcases h with ⟨_, ⟨e, _⟩ | ⟨g', cap, cur, e, _, hg, hnc, hcm, hcs, ht⟩⟩ | ⟨g', cur, fz, e, hg, hm, ht⟩
  · cases e
  · cases e
    refine .inr ⟨g, cur, (0, 0), rfl, hg, by omega, ?_⟩
    rw [Nat.mul_one] at ht
    rw [hkl, bcells_take, ← ht, List.take_take, Nat.min_eq_left hk]
  · cases e
    refine .inr ⟨g, cur, fz, rfl, hg, by omega, ?_⟩
    rw [hkl, bcells_take, ← ht, List.take_take, Nat.min_eq_left hk]
theorem bytes_cap {w : World} {ao : Option Addr} {c : Nat} {b : List UInt8} (h : BytesAt w (.slice ao b.length c) b) : b.length ≤ c ∧ c ≤ maxLen ∧ (ao = none ∧ c = 0 ∨ ∃ g, ao = some ⟨g, 0, none⟩) := by
  rcases h with ⟨_, ⟨e, _⟩ | ⟨g', cap, cur, e, _, hg, hnc, hcm, hcs, ht⟩⟩ | ⟨g', cur, fz, e, hg, hm, ht⟩
  · injection e with e1 e2 e3
    refine ⟨by omega, by unfold maxLen; omega, .inl ⟨e1, e3⟩⟩
  · cases e; exact ⟨hnc, hcm, .inr ⟨_, rfl⟩⟩
  · cases e; exact ⟨Nat.le_refl _, hm, .inr ⟨_, rfl⟩⟩

set_option maxHeartbeats 4000000 in
theorem cut_disk (w : World) (L : Lab) (db nb sb : Nat) (wv : Value) (φ : List Nat) (fv cv : List Value) (d : DV) (h : DiskAt w L db nb sb wv φ fv cv d) (hok : d.ok) (hc : d.calls ≤ 1099511627776) (s : Nm) (hs : s.length ≤ maxLen) (n : Int) :
    Calls Try.prog 26 #[.pointer (some ⟨db, 0, none⟩), .string ⟨s.toArray⟩, .int .i64 n] w fun e w' => e = .returned (.int .i64 (d.cut s n).2) ∧ DiskTo w L db (d.cut s n).1 w' := by
  have c0 : w.cell? ⟨db, 0, none⟩ = some (.map (some nb)) := (Blk.cell h.cells 0).trans rfl
  have c5 : w.cell? ⟨db, 5, none⟩ = some (.bool d.down) := (Blk.cell h.cells 5).trans rfl
  have hlk := look_run w h hs
  have H := Lib.hid h
  have HOK := Lib.hid hok
  have HC := Lib.hid hc
  have HS := Lib.hid (show DiskTo w L db d w from ⟨L, nb, sb, wv, φ, fv, cv, h, Turned.refl _ _⟩)
  clear h hok hc
  cases hd : d.down with
  | true =>
    rw [hd] at c5
    have hr : d.cut s n = (d, eCrash) := by simp [DV.cut, hd]
    rw [hr]
    obtain ⟨pv, hpv⟩ := ptrOf_shape φ (look d.now s)
    rw [hpv] at hlk
    go_enter Try.func26, Try.ntmps26
    go_wp2
    go_ret
    exact ⟨rfl, HS.out⟩
  | false =>
    rw [hd] at c5
    cases hl : look d.now s with
    | none =>
      rw [hl] at hlk
      simp only [ptrOf, Option.isSome_none] at hlk
      have hr : d.cut s n = (d, eUnknown) := by simp [DV.cut, hd, hl]
      rw [hr]
      go_enter Try.func26, Try.ntmps26
      go_wp2
      go_ret
      exact ⟨rfl, HS.out⟩
    | some i =>
      have hi := look_lt H.out.hnow hl
      obtain ⟨fb, hfb⟩ : ∃ fb, φ[i]? = some fb := ⟨_, List.getElem?_eq_getElem hi⟩
      rw [hl] at hlk
      simp only [ptrOf, hfb, Option.isSome_some] at hlk
      obtain ⟨f, ao, cp, hf, hfv, hF⟩ := H.out.file_at hfb
      have b0 : w.cell? ⟨fb, 0, none⟩ = some (.slice ao f.b.length cp) := (Blk.cell hF.cells 0).trans rfl
      have hcap := bytes_cap hF.bytes
      have hdl : d.flen i = f.b.length := by simp [DV.flen, hf]
      have HF := Lib.hid hF
      have HDL := Lib.hid hdl
      have HCAP := Lib.hid hcap
      clear hF hdl hcap
      by_cases hn0 : n < 0
      · have hr : d.cut s n = (d, eArgument) := by simp [DV.cut, hd, hl, hn0]
        rw [hr]
        clear hr hf hl hfb
        have hb1 : decide (n < 0) = true := by simpa using hn0
        go_enter Try.func26, Try.ntmps26
        go_wp2
        go_ret
        exact ⟨rfl, HS.out⟩
      by_cases hn1 : (f.b.length : Int) < n
      · have hr : d.cut s n = (d, eArgument) := by simp [DV.cut, hd, hl, HDL.out, hn1]
        rw [hr]
        clear hr hf hl hfb
        have hb1 : decide (n < 0) = false := by simpa using hn0
        have hb2 : decide ((f.b.length : Int) < n) = true := by simpa using hn1
        go_enter Try.func26, Try.ntmps26
        go_wp2
        go_ret
        exact ⟨rfl, HS.out⟩
      obtain ⟨k, rfl⟩ : ∃ k : Nat, n = k := ⟨n.toNat, by omega⟩
      have hb1 : decide ((k : Int) < 0) = false := by simp
      have hb2 : decide (f.b.length < k) = false := by simp; omega
      have hk : k ≤ f.b.length := by omega
      have HK := Lib.hid hk
      have HN := Lib.hid (And.intro hn0 hn1)
      clear hn0 hn1 hk
      cases ho : d.on with
      | false =>
        have hr : d.cut s k = (d.tick, eCrash) := by simp [DV.cut, hd, hl, HDL.out, ho]; intro h; have := HK.out; omega
        rw [hr]
        clear hr hf hl hfb
        go_enter Try.func26, Try.ntmps26
        go_wp2_with fail
        refine (call_disk w L db nb sb wv φ fv cv d H.out HOK.out HC.out).mono ?_
        rintro e w1 ⟨rfl, h1, ht1⟩
        rw [ho]
        go_wp2
        go_ret
        exact ⟨rfl, L, nb, sb, wv, φ, fv, cv, h1, ht1⟩
      | true =>
        have hr : d.cut s k = (d.tick.file i (fun f => { b := f.b.take k, safe := min f.safe k }), 0) := by
          have h1 := HK.out
          simp [DV.cut, hd, hl, HDL.out, ho]
          omega
        rw [hr]
        clear hr hl b0 HF HCAP
        go_enter Try.func26, Try.ntmps26
        have b0 : w.cell? ⟨fb, 0, none⟩ = some (.slice ao f.b.length cp) := by
          obtain ⟨f2, ao2, cp2, hf2, hfv2, hF⟩ := H.out.file_at hfb
          rw [hf] at hf2
          cases hf2
          rw [hfv] at hfv2
          cases hfv2
          exact (Blk.cell hF.cells 0).trans rfl
        go_wp2_with fail
        refine (call_disk w L db nb sb wv φ fv cv d H.out HOK.out HC.out).mono ?_
        rintro e w1 ⟨rfl, h1, ht1⟩
        rw [ho]
        clear b0
        obtain ⟨f2, ao2, cp2, hf2, hfv2, hF⟩ := h1.file_at hfb
        rw [hfv] at hfv2
        have e2 : f2 = f := by
          have : d.files[i]? = some f2 := hf2
          rw [hf] at this
          cases this; rfl
        subst e2
        cases hfv2
        have b0 : w1.cell? ⟨fb, 0, none⟩ = some (.slice ao f2.b.length cp) := (Blk.cell hF.cells 0).trans rfl
        have b1 : w1.cell? ⟨fb, 1, none⟩ = some (.int .i64 f2.safe) := (Blk.cell hF.cells 1).trans rfl
        have f0 : w1.frozen? ⟨fb, 0, none⟩ = false := Blk.frozen hF.cells 0
        have f1 : w1.frozen? ⟨fb, 1, none⟩ = false := Blk.frozen hF.cells 1
        obtain ⟨hc1, hc2, hc3⟩ := bytes_cap hF.bytes
        have hkl : (f2.b.take k).length = k := by have := HK.out; simp; omega
        have hnew : BytesAt w1 (.slice ao k k) (f2.b.take k) := by
          rcases hc3 with ⟨rfl, rfl⟩ | ⟨g, rfl⟩
          · have hl0 : f2.b.length = 0 := by omega
            have hk0 : k = 0 := by have := HK.out; omega
            have : f2.b.take k = [] := by rw [List.eq_nil_of_length_eq_zero hl0]; simp
            rw [this, hk0]
            exact .inl (World.ownsRow_nil _ _ _ _)
          · have h9 := take_clip (w := w1) (g := g) (c := cp) (b := f2.b) hF.bytes HK.out
            rw [hkl] at h9
            exact h9
        have hcut : ∀ W : World, (Instr.slice 32 (.slice ao f2.b.length cp) none (some (.int .i64 k)) none).run Try.prog W = .ok (.slice ao k cp) W := by
          intro W
          have hcc : k ≤ cp := by have := HK.out; omega
          have := run_slice_h (P := Try.prog) W 32 ao f2.b.length cp (by kernel_rfl) .i64 (k : Int) (by omega) (by omega)
          rw [this]
          have hs : (sizeOf (Try.prog.elem 32)).run Try.prog W = .ok 1 W := by kernel_rfl
          rw [hs]
          simp only [Result.andThen_ok, sliced]
          cases ao with
          | none => by_cases h0 : cp = k <;> simp [h0]
          | some a => simp [Addr.add]
        have HNEW := Lib.hid hnew
        have HCLIP := Lib.hid (show k ≤ cp ∧ cp ≤ maxLen from ⟨by have := HK.out; omega, hc2⟩)
        have H1 := Lib.hid h1
        have HF := Lib.hid hF
        have HT := Lib.hid ht1
        clear h1 hF ht1 hnew hkl hc1 hc2 hc3 hf2
        go_wp2_with fail
        clear hcut
        refine (clip_any w1 ao k cp HCLIP.out.1 HCLIP.out.2).mono ?_
        rintro e w2 ⟨rfl, rfl⟩
        have hmin : ∀ W : World, (Builtin.min_ #[3, 3] 3 #[.int .i64 f2.safe, .int .i64 k]).run Try.prog W = .ok (.int .i64 (min f2.safe k : Nat)) W := by
          intro W
          have e9 : (if (k : Int) < (f2.safe : Int) then (k : Int) else (f2.safe : Int)) = ((min f2.safe k : Nat) : Int) := by split <;> omega
          rw [run_min_int2, e9]
        generalize hmn : min f2.safe k = mn at hmin
        have HMN := Lib.hid hmn
        clear hmn
        go_wp2
        go_ret
        have hkl : (f2.b.take k).length = k := by have := HK.out; simp; omega
        have hbs := Blk.set_ (Blk.set_ HF.out.cells 0 (.slice ao k k)) 1 (.int .i64 mn)
        have hkeep : ∀ j, j ≠ fb → ((w1.setCell ⟨fb, 0, none⟩ (.slice ao k k)).setCell ⟨fb, 1, none⟩ (.int .i64 mn)).heap[j]? = w1.heap[j]? := fun j hj => by
          rw [Below.heap_setCell _ _ _ _ hj, Below.heap_setCell _ _ _ _ hj]
        have hgn : ∀ g, (Value.slice ao k k).ownBlock = some g → (Value.slice ao f2.b.length cp).ownBlock = some g := fun g hg => by cases ao <;> exact hg
        refine ⟨rfl, _, nb, sb, wv, φ, _, cv, H1.out.upd hfb (show d.tick.files[i]? = some f2 from hf) (fun f => { b := f.b.take k, safe := min f.safe k }) (.slice ao k k) (by simp [World.setCell]) (fun j _ hne _ => hkeep j hne) ?_ ?_ ?_, ?_⟩
        · show Blk _ fb 64 #[.slice ao k k, .int .i64 (min f2.safe k : Nat)]
          rw [HMN.out]
          exact hbs
        · refine HNEW.out.keep fun g hg => hkeep g fun e => ?_
          have h1 := HF.out.row g (hgn g hg)
          rw [e, HF.out.lab] at h1
          cases h1
        · exact fun g hg => .inl (HF.out.row g (hgn g hg))
        · refine HT.out.trans (Turned.trans (w' := w1.setCell ⟨fb, 0, none⟩ (.slice ao k k)) (turned_set (v := .slice ao k k) (i := i) (fun hn => by rw [HF.out.lab] at hn; cases hn) (fun g hg => by rw [HF.out.row g (hgn g hg)]; simp)) ?_)
          refine ⟨rfl, rfl, rfl, by simp [World.setCell], fun j _ hl => Below.heap_setCell _ _ _ _ fun e => ?_, fun _ _ h => h⟩
          have e : j = fb := e
          have hl' : (if (Value.slice ao k k).ownBlock = some j then some (Lbl.row i) else L j) = none := hl
          split at hl'
          · cases hl'
          · rw [e, HF.out.lab] at hl'; cases hl'
end Go.Proofs.Ytombehaaaojhdaa
