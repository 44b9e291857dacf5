/- (*Model).do (printed by wip/gen_mdo.py) -/
import Derived.Test.YtombehaaaojhdaaMf
set_option linter.unusedVariables false
namespace Go.Proofs.Ytombehaaaojhdaa
open Go.Maps Go.RowKit

section
variable (w : World) (L : MLab) (mb nb kb : Nat) (wv xv : Value) (φ : List Nat) (nv xs : List Value) (d : DV) (h : ModelAt w L mb nb kb wv xv φ nv xs d) (k : Nat) (hI : d.Inv names6 k) (hk : k ≤ 1099511627775)
  (op nmv tov : Nat) (hop : op < 256) (hnm : nmv < 256) (hto : tov < 256) (n : Int) (hn0 : -32768 ≤ n) (hn1 : n ≤ 32767) (va : Option Addr) (vl vc : Nat)
  (A : Option Addr) (cc : Nat) (bs : List UInt8) (hr : Reads w w.heap.size 1 A bs.length (bcells bs)) (hsep : 0 < bs.length → ∀ ad, A = some ad → L ad.block = none) (hbs : bs.length ≤ 1099511627776) (hch : MChange)
include h hI hk hop hnm hto hn0 hn1 hr hsep hbs hch


set_option maxRecDepth 100000 in
set_option maxHeartbeats 8000000 in
theorem mdo_model4 (hq : op % 12 = 4) :
    Calls Try.prog 10 #[.pointer (some ⟨mb, 0, none⟩), actVal op nmv tov (.slice va vl vc) n, .slice A bs.length cc] w fun e w' => e = .returned (.int .i64 (d.act 4 (nm (nmv % 6)) (nm (tov % 6)) n bs).2) ∧ ModelTo w L mb (d.act 4 (nm (nmv % 6)) (nm (tov % 6)) n bs).1 w' := by
  have hq' : (op : Int) % 12 = 4 := by omega
  have h0 : (0 : Int) ≤ (op : Int) := by omega
  have h1 : (op : Int) ≤ 255 := by omega
  have h2 : (0 : Int) ≤ (nmv : Int) := by omega
  have h3 : (nmv : Int) ≤ 255 := by omega
  have h4 : (0 : Int) ≤ (tov : Int) := by omega
  have h5 : (tov : Int) ≤ 255 := by omega
  have hall : ∀ W : World, W.heap = (w.alloc (.cells #[.int .u8 op, .int .u8 nmv, .int .u8 tov, .slice va vl vc, .int .i16 n] 35)).heap ∧ W.os = w.os ∧ W.tape = w.tape ∧ W.output = w.output →
      Blk W w.heap.size 35 #[.int .u8 op, .int .u8 nmv, .int .u8 tov, .slice va vl vc, .int .i16 n] ∧ ModelAt W L mb nb kb wv xv φ nv xs d ∧ MTurned L L w W ∧ Reads W w.heap.size 1 A bs.length (bcells bs) := by
    intro W ⟨e1, e2, e3, e4⟩
    have hb : Below w.heap.size w W := ⟨e2, e3, e4, by rw [e1, size_alloc]; omega, fun k hk => by rw [e1]; exact Below.heap_alloc _ _ _ hk⟩
    exact ⟨by unfold Blk; rw [e1]; exact Blk.new w _ _, h.below hb, MTurned.below hb, hr.below hb⟩
  have HALL := Lib.hid hall
  have hc0 : (w.alloc (.cells #[.int .u8 op, .int .u8 nmv, .int .u8 tov, .slice va vl vc, .int .i16 n] 35)).cell? ⟨w.heap.size, 0, none⟩ = some (.int .u8 op) := by rw [(Blk.new w _ _).cell]; rfl
  have hc1 : (w.alloc (.cells #[.int .u8 op, .int .u8 nmv, .int .u8 tov, .slice va vl vc, .int .i16 n] 35)).cell? ⟨w.heap.size, 1, none⟩ = some (.int .u8 nmv) := by rw [(Blk.new w _ _).cell]; rfl
  have hc4 : (w.alloc (.cells #[.int .u8 op, .int .u8 nmv, .int .u8 tov, .slice va vl vc, .int .i16 n] 35)).cell? ⟨w.heap.size, 4, none⟩ = some (.int .i16 n) := by rw [(Blk.new w _ _).cell]; rfl
  have HM := Lib.hid h
  have HI := Lib.hid hI
  have HOK := Lib.hid (hI.ok names6_len (by omega))
  have HSZ := Lib.hid hI.size
  have HC := Lib.hid (show d.calls ≤ 1099511627776 from Nat.le_trans hI.calls (by omega))
  have HNM := Lib.hid (nm_max _ (nm_mem nmv))
  have HTO := Lib.hid (nm_max _ (nm_mem tov))
  have HU := Lib.hid (used_small hI)
  have HR := Lib.hid hr
  have HSEP := Lib.hid hsep
  have HBS := Lib.hid hbs
  have HA := Lib.hid (show d.act 4 (nm (nmv % 6)) (nm (tov % 6)) n bs = d.sync (nm (nmv % 6)) from rfl)
  have HCH := Lib.hid hch
  have HNV := Lib.hid hnm
  have HTV := Lib.hid hto
  clear h hI hk hop hnm hto hr hsep hbs hq hch
  unfold actVal
  rw [HA.out]
  go_enter Try.func10, Try.ntmps10
  go_wp2_with fail
  go_quiet ((go_at_call 25; exact Calls.quiet_of_same (name_same _ nmv HNV.out)))
  obtain ⟨hBX, hM, hT, hR⟩ := HALL.out (World.drewN (w.alloc (.cells #[.int .u8 op, .int .u8 nmv, .int .u8 tov, .slice va vl vc, .int .i16 n] 35)) nq) ⟨rfl, rfl, rfl, rfl⟩
  clear hc0 hc1 hc4
  generalize World.drewN (w.alloc (.cells #[.int .u8 op, .int .u8 nmv, .int .u8 tov, .slice va vl vc, .int .i16 n] 35)) nq = W at *
  have x0 : W.cell? ⟨w.heap.size, 0, none⟩ = some (.int .u8 op) := (Blk.cell hBX 0).trans rfl
  have x2 : W.cell? ⟨w.heap.size, 2, none⟩ = some (.int .u8 tov) := (Blk.cell hBX 2).trans rfl
  have c0 : W.cell? ⟨mb, 0, none⟩ = some (.map (some nb)) := (Blk.cell hM.cells 0).trans rfl
  have c6 : W.cell? ⟨mb, 6, none⟩ = some (.bool d.down) := (Blk.cell hM.cells 6).trans rfl
  have hlk := mlook_run W hM HNM.out
  have HB := Lib.hid hBX
  have HD := Lib.hid hM
  have HT := Lib.hid hT
  have HRR := Lib.hid hR
  clear hBX hM hT hR HALL
  have HS := Lib.hid (show ModelTo w L mb d W from ⟨L, nb, kb, wv, xv, φ, nv, xs, HD.out, HT.out⟩)
  cases hd : d.down with
  | true =>
    rw [hd] at c6
    have HRES := Lib.hid (show d.sync (nm (nmv % 6)) = (d, eCrash) by simp [DV.sync, hd])
    obtain ⟨pv, hpv⟩ := ptrOf_shape φ (look d.now (nm (nmv % 6)))
    rw [hpv] at hlk
    clear hpv
    go_wp2
    go_ret
    exact ⟨by rw [HRES.out]; rfl, by rw [HRES.out]; exact HS.out⟩
  | false =>
    rw [hd] at c6
    cases hl : look d.now (nm (nmv % 6)) with
    | none =>
      rw [hl] at hlk
      simp only [ptrOf] at hlk
      have HRES := Lib.hid (show d.sync (nm (nmv % 6)) = (d, eUnknown) by simp [DV.sync, hd, hl])
      clear hl
      go_wp2
      go_ret
      exact ⟨by rw [HRES.out]; rfl, by rw [HRES.out]; exact HS.out⟩
    | some i =>
      have hi := look_lt HD.out.hnow hl
      obtain ⟨fb, hfb⟩ : ∃ fb, φ[i]? = some fb := ⟨_, List.getElem?_eq_getElem hi⟩
      rw [hl] at hlk
      simp only [ptrOf, hfb] at hlk
      have HL := Lib.hid (And.intro hl hfb)
      clear hl hfb
      cases ho : d.on with
        | false =>
          have HRES := Lib.hid (show d.sync (nm (nmv % 6)) = (d.tick, eCrash) by simp [DV.sync, hd, HL.out.1, ho])
          go_wp2_with fail
          refine (mcall_model W L mb nb kb wv xv φ nv xs d HD.out HOK.out HC.out).mono ?_
          rintro e w1 ⟨rfl, h1, ht1⟩
          rw [ho]
          go_wp2
          go_ret
          exact ⟨by rw [HRES.out]; rfl, by rw [HRES.out]; exact ⟨L, nb, kb, wv, xv, φ, nv, xs, h1, HT.out.trans ht1⟩⟩
        | true =>
          have HRES := Lib.hid (show d.sync (nm (nmv % 6)) = (d.tick.file i (fun f => { f with safe := f.b.length }), 0) by simp [DV.sync, hd, HL.out.1, ho])
          go_wp2_with fail
          refine (mcall_model W L mb nb kb wv xv φ nv xs d HD.out HOK.out HC.out).mono ?_
          rintro e w1 ⟨rfl, h1, ht1⟩
          rw [ho]
          obtain ⟨f, hf, hF⟩ := h1.file_at HL.out.2
          have b0 : w1.cell? ⟨fb, 0, none⟩ = some (.string ⟨f.b.toArray⟩) := (Blk.cell hF.cells 0).trans rfl
          have b1 : w1.cell? ⟨fb, 1, none⟩ = some (.int .i64 f.safe) := (Blk.cell hF.cells 1).trans rfl
          have f0 : w1.frozen? ⟨fb, 0, none⟩ = false := Blk.frozen hF.cells 0
          have f1 : w1.frozen? ⟨fb, 1, none⟩ = false := Blk.frozen hF.cells 1
          have H1 := Lib.hid h1
          have HF := Lib.hid hF
          have HT1 := Lib.hid ht1
          have HFI := Lib.hid hf
          clear h1 hF ht1 hf
          go_wp2
          go_ret
          have hfin := H1.out.upd HL.out.2 HFI.out (fun f => { f with safe := f.b.length }) (grown_set (World.grownBy.refl _ _) 1 (.int .i64 f.b.length)) (Blk.set_ HF.out.cells 1 _)
          exact ⟨by rw [HRES.out]; rfl, by rw [HRES.out]; exact ⟨L, nb, kb, wv, xv, φ, nv, xs, hfin.1, (HT.out.trans HT1.out).trans hfin.2⟩⟩

set_option maxRecDepth 100000 in
set_option maxHeartbeats 8000000 in
theorem mdo_model9 (hq : op % 12 = 9) :
    Calls Try.prog 10 #[.pointer (some ⟨mb, 0, none⟩), actVal op nmv tov (.slice va vl vc) n, .slice A bs.length cc] w fun e w' => e = .returned (.int .i64 (d.act 9 (nm (nmv % 6)) (nm (tov % 6)) n bs).2) ∧ ModelTo w L mb (d.act 9 (nm (nmv % 6)) (nm (tov % 6)) n bs).1 w' := by
  have hq' : (op : Int) % 12 = 9 := by omega
  have h0 : (0 : Int) ≤ (op : Int) := by omega
  have h1 : (op : Int) ≤ 255 := by omega
  have h2 : (0 : Int) ≤ (nmv : Int) := by omega
  have h3 : (nmv : Int) ≤ 255 := by omega
  have h4 : (0 : Int) ≤ (tov : Int) := by omega
  have h5 : (tov : Int) ≤ 255 := by omega
  have hall : ∀ W : World, W.heap = (w.alloc (.cells #[.int .u8 op, .int .u8 nmv, .int .u8 tov, .slice va vl vc, .int .i16 n] 35)).heap ∧ W.os = w.os ∧ W.tape = w.tape ∧ W.output = w.output →
      Blk W w.heap.size 35 #[.int .u8 op, .int .u8 nmv, .int .u8 tov, .slice va vl vc, .int .i16 n] ∧ ModelAt W L mb nb kb wv xv φ nv xs d ∧ MTurned L L w W ∧ Reads W w.heap.size 1 A bs.length (bcells bs) := by
    intro W ⟨e1, e2, e3, e4⟩
    have hb : Below w.heap.size w W := ⟨e2, e3, e4, by rw [e1, size_alloc]; omega, fun k hk => by rw [e1]; exact Below.heap_alloc _ _ _ hk⟩
    exact ⟨by unfold Blk; rw [e1]; exact Blk.new w _ _, h.below hb, MTurned.below hb, hr.below hb⟩
  have HALL := Lib.hid hall
  have hc0 : (w.alloc (.cells #[.int .u8 op, .int .u8 nmv, .int .u8 tov, .slice va vl vc, .int .i16 n] 35)).cell? ⟨w.heap.size, 0, none⟩ = some (.int .u8 op) := by rw [(Blk.new w _ _).cell]; rfl
  have hc1 : (w.alloc (.cells #[.int .u8 op, .int .u8 nmv, .int .u8 tov, .slice va vl vc, .int .i16 n] 35)).cell? ⟨w.heap.size, 1, none⟩ = some (.int .u8 nmv) := by rw [(Blk.new w _ _).cell]; rfl
  have hc4 : (w.alloc (.cells #[.int .u8 op, .int .u8 nmv, .int .u8 tov, .slice va vl vc, .int .i16 n] 35)).cell? ⟨w.heap.size, 4, none⟩ = some (.int .i16 n) := by rw [(Blk.new w _ _).cell]; rfl
  have HM := Lib.hid h
  have HI := Lib.hid hI
  have HOK := Lib.hid (hI.ok names6_len (by omega))
  have HSZ := Lib.hid hI.size
  have HC := Lib.hid (show d.calls ≤ 1099511627776 from Nat.le_trans hI.calls (by omega))
  have HNM := Lib.hid (nm_max _ (nm_mem nmv))
  have HTO := Lib.hid (nm_max _ (nm_mem tov))
  have HU := Lib.hid (used_small hI)
  have HR := Lib.hid hr
  have HSEP := Lib.hid hsep
  have HBS := Lib.hid hbs
  have HA := Lib.hid (show d.act 9 (nm (nmv % 6)) (nm (tov % 6)) n bs = d.sync (nm (nmv % 6)) from rfl)
  have HCH := Lib.hid hch
  have HNV := Lib.hid hnm
  have HTV := Lib.hid hto
  clear h hI hk hop hnm hto hr hsep hbs hq hch
  unfold actVal
  rw [HA.out]
  go_enter Try.func10, Try.ntmps10
  go_wp2_with fail
  go_quiet ((go_at_call 25; exact Calls.quiet_of_same (name_same _ nmv HNV.out)))
  obtain ⟨hBX, hM, hT, hR⟩ := HALL.out (World.drewN (w.alloc (.cells #[.int .u8 op, .int .u8 nmv, .int .u8 tov, .slice va vl vc, .int .i16 n] 35)) nq) ⟨rfl, rfl, rfl, rfl⟩
  clear hc0 hc1 hc4
  generalize World.drewN (w.alloc (.cells #[.int .u8 op, .int .u8 nmv, .int .u8 tov, .slice va vl vc, .int .i16 n] 35)) nq = W at *
  have x0 : W.cell? ⟨w.heap.size, 0, none⟩ = some (.int .u8 op) := (Blk.cell hBX 0).trans rfl
  have x2 : W.cell? ⟨w.heap.size, 2, none⟩ = some (.int .u8 tov) := (Blk.cell hBX 2).trans rfl
  have c0 : W.cell? ⟨mb, 0, none⟩ = some (.map (some nb)) := (Blk.cell hM.cells 0).trans rfl
  have c6 : W.cell? ⟨mb, 6, none⟩ = some (.bool d.down) := (Blk.cell hM.cells 6).trans rfl
  have hlk := mlook_run W hM HNM.out
  have HB := Lib.hid hBX
  have HD := Lib.hid hM
  have HT := Lib.hid hT
  have HRR := Lib.hid hR
  clear hBX hM hT hR HALL
  have HS := Lib.hid (show ModelTo w L mb d W from ⟨L, nb, kb, wv, xv, φ, nv, xs, HD.out, HT.out⟩)
  cases hd : d.down with
  | true =>
    rw [hd] at c6
    have HRES := Lib.hid (show d.sync (nm (nmv % 6)) = (d, eCrash) by simp [DV.sync, hd])
    obtain ⟨pv, hpv⟩ := ptrOf_shape φ (look d.now (nm (nmv % 6)))
    rw [hpv] at hlk
    clear hpv
    go_wp2
    go_ret
    exact ⟨by rw [HRES.out]; rfl, by rw [HRES.out]; exact HS.out⟩
  | false =>
    rw [hd] at c6
    cases hl : look d.now (nm (nmv % 6)) with
    | none =>
      rw [hl] at hlk
      simp only [ptrOf] at hlk
      have HRES := Lib.hid (show d.sync (nm (nmv % 6)) = (d, eUnknown) by simp [DV.sync, hd, hl])
      clear hl
      go_wp2
      go_ret
      exact ⟨by rw [HRES.out]; rfl, by rw [HRES.out]; exact HS.out⟩
    | some i =>
      have hi := look_lt HD.out.hnow hl
      obtain ⟨fb, hfb⟩ : ∃ fb, φ[i]? = some fb := ⟨_, List.getElem?_eq_getElem hi⟩
      rw [hl] at hlk
      simp only [ptrOf, hfb] at hlk
      have HL := Lib.hid (And.intro hl hfb)
      clear hl hfb
      cases ho : d.on with
        | false =>
          have HRES := Lib.hid (show d.sync (nm (nmv % 6)) = (d.tick, eCrash) by simp [DV.sync, hd, HL.out.1, ho])
          go_wp2_with fail
          refine (mcall_model W L mb nb kb wv xv φ nv xs d HD.out HOK.out HC.out).mono ?_
          rintro e w1 ⟨rfl, h1, ht1⟩
          rw [ho]
          go_wp2
          go_ret
          exact ⟨by rw [HRES.out]; rfl, by rw [HRES.out]; exact ⟨L, nb, kb, wv, xv, φ, nv, xs, h1, HT.out.trans ht1⟩⟩
        | true =>
          have HRES := Lib.hid (show d.sync (nm (nmv % 6)) = (d.tick.file i (fun f => { f with safe := f.b.length }), 0) by simp [DV.sync, hd, HL.out.1, ho])
          go_wp2_with fail
          refine (mcall_model W L mb nb kb wv xv φ nv xs d HD.out HOK.out HC.out).mono ?_
          rintro e w1 ⟨rfl, h1, ht1⟩
          rw [ho]
          obtain ⟨f, hf, hF⟩ := h1.file_at HL.out.2
          have b0 : w1.cell? ⟨fb, 0, none⟩ = some (.string ⟨f.b.toArray⟩) := (Blk.cell hF.cells 0).trans rfl
          have b1 : w1.cell? ⟨fb, 1, none⟩ = some (.int .i64 f.safe) := (Blk.cell hF.cells 1).trans rfl
          have f0 : w1.frozen? ⟨fb, 0, none⟩ = false := Blk.frozen hF.cells 0
          have f1 : w1.frozen? ⟨fb, 1, none⟩ = false := Blk.frozen hF.cells 1
          have H1 := Lib.hid h1
          have HF := Lib.hid hF
          have HT1 := Lib.hid ht1
          have HFI := Lib.hid hf
          clear h1 hF ht1 hf
          go_wp2
          go_ret
          have hfin := H1.out.upd HL.out.2 HFI.out (fun f => { f with safe := f.b.length }) (grown_set (World.grownBy.refl _ _) 1 (.int .i64 f.b.length)) (Blk.set_ HF.out.cells 1 _)
          exact ⟨by rw [HRES.out]; rfl, by rw [HRES.out]; exact ⟨L, nb, kb, wv, xv, φ, nv, xs, hfin.1, (HT.out.trans HT1.out).trans hfin.2⟩⟩
end
end Go.Proofs.Ytombehaaaojhdaa
