/- (*Model).do (printed by wip/gen_mdo.py) -/
import Derived.Test.YtombehaaaojhdaaMf
set_option linter.unusedVariables false
namespace Go.Proofs.Ytombehaaaojhdaa
open Go.Maps Go.RowKit

section
variable (w : World) (L : MLab) (mb nb kb : Nat) (wv xv : Value) (φ : List Nat) (nv xs : List Value) (d : DV) (h : ModelAt w L mb nb kb wv xv φ nv xs d) (k : Nat) (hI : d.Inv names6 k) (hk : k ≤ 1099511627775)
  (op nmv tov : Nat) (hop : op < 256) (hnm : nmv < 256) (hto : tov < 256) (n : Int) (hn0 : -32768 ≤ n) (hn1 : n ≤ 32767) (va : Option Addr) (vl vc : Nat)
  (A : Option Addr) (cc : Nat) (bs : List UInt8) (hr : Reads w w.heap.size 1 A bs.length (bcells bs)) (hsep : 0 < bs.length → ∀ ad, A = some ad → L ad.block = none) (hbs : bs.length ≤ 1099511627776) (hch : MChange)
include h hI hk hop hnm hto hn0 hn1 hr hsep hbs hch


set_option maxRecDepth 100000 in
set_option maxHeartbeats 8000000 in
theorem mdo_model5 (hq : op % 12 = 5) :
    Calls Try.prog 10 #[.pointer (some ⟨mb, 0, none⟩), actVal op nmv tov (.slice va vl vc) n, .slice A bs.length cc] w fun e w' => e = .returned (.int .i64 (d.act 5 (nm (nmv % 6)) (nm (tov % 6)) n bs).2) ∧ ModelTo w L mb (d.act 5 (nm (nmv % 6)) (nm (tov % 6)) n bs).1 w' := by
  have hq' : (op : Int) % 12 = 5 := by omega
  have h0 : (0 : Int) ≤ (op : Int) := by omega
  have h1 : (op : Int) ≤ 255 := by omega
  have h2 : (0 : Int) ≤ (nmv : Int) := by omega
  have h3 : (nmv : Int) ≤ 255 := by omega
  have h4 : (0 : Int) ≤ (tov : Int) := by omega
  have h5 : (tov : Int) ≤ 255 := by omega
  have hall : ∀ W : World, W.heap = (w.alloc (.cells #[.int .u8 op, .int .u8 nmv, .int .u8 tov, .slice va vl vc, .int .i16 n] 35)).heap ∧ W.os = w.os ∧ W.tape = w.tape ∧ W.output = w.output →
      Blk W w.heap.size 35 #[.int .u8 op, .int .u8 nmv, .int .u8 tov, .slice va vl vc, .int .i16 n] ∧ ModelAt W L mb nb kb wv xv φ nv xs d ∧ MTurned L L w W ∧ Reads W w.heap.size 1 A bs.length (bcells bs) := by
    intro W ⟨e1, e2, e3, e4⟩
    have hb : Below w.heap.size w W := ⟨e2, e3, e4, by rw [e1, size_alloc]; omega, fun k hk => by rw [e1]; exact Below.heap_alloc _ _ _ hk⟩
    exact ⟨by unfold Blk; rw [e1]; exact Blk.new w _ _, h.below hb, MTurned.below hb, hr.below hb⟩
  have HALL := Lib.hid hall
  have hc0 : (w.alloc (.cells #[.int .u8 op, .int .u8 nmv, .int .u8 tov, .slice va vl vc, .int .i16 n] 35)).cell? ⟨w.heap.size, 0, none⟩ = some (.int .u8 op) := by rw [(Blk.new w _ _).cell]; rfl
  have hc1 : (w.alloc (.cells #[.int .u8 op, .int .u8 nmv, .int .u8 tov, .slice va vl vc, .int .i16 n] 35)).cell? ⟨w.heap.size, 1, none⟩ = some (.int .u8 nmv) := by rw [(Blk.new w _ _).cell]; rfl
  have hc4 : (w.alloc (.cells #[.int .u8 op, .int .u8 nmv, .int .u8 tov, .slice va vl vc, .int .i16 n] 35)).cell? ⟨w.heap.size, 4, none⟩ = some (.int .i16 n) := by rw [(Blk.new w _ _).cell]; rfl
  have HM := Lib.hid h
  have HI := Lib.hid hI
  have HOK := Lib.hid (hI.ok names6_len (by omega))
  have HSZ := Lib.hid hI.size
  have HC := Lib.hid (show d.calls ≤ 1099511627776 from Nat.le_trans hI.calls (by omega))
  have HNM := Lib.hid (nm_max _ (nm_mem nmv))
  have HTO := Lib.hid (nm_max _ (nm_mem tov))
  have HU := Lib.hid (used_small hI)
  have HR := Lib.hid hr
  have HSEP := Lib.hid hsep
  have HBS := Lib.hid hbs
  have HA := Lib.hid (show d.act 5 (nm (nmv % 6)) (nm (tov % 6)) n bs = d.syncDir from rfl)
  have HCH := Lib.hid hch
  have HNV := Lib.hid hnm
  have HTV := Lib.hid hto
  clear h hI hk hop hnm hto hr hsep hbs hq hch
  unfold actVal
  rw [HA.out]
  go_enter Try.func10, Try.ntmps10
  go_wp2_with fail
  go_quiet ((go_at_call 25; exact Calls.quiet_of_same (name_same _ nmv HNV.out)))
  obtain ⟨hBX, hM, hT, hR⟩ := HALL.out (World.drewN (w.alloc (.cells #[.int .u8 op, .int .u8 nmv, .int .u8 tov, .slice va vl vc, .int .i16 n] 35)) nq) ⟨rfl, rfl, rfl, rfl⟩
  clear hc0 hc1 hc4
  generalize World.drewN (w.alloc (.cells #[.int .u8 op, .int .u8 nmv, .int .u8 tov, .slice va vl vc, .int .i16 n] 35)) nq = W at *
  have x0 : W.cell? ⟨w.heap.size, 0, none⟩ = some (.int .u8 op) := (Blk.cell hBX 0).trans rfl
  have x2 : W.cell? ⟨w.heap.size, 2, none⟩ = some (.int .u8 tov) := (Blk.cell hBX 2).trans rfl
  have c0 : W.cell? ⟨mb, 0, none⟩ = some (.map (some nb)) := (Blk.cell hM.cells 0).trans rfl
  have c6 : W.cell? ⟨mb, 6, none⟩ = some (.bool d.down) := (Blk.cell hM.cells 6).trans rfl
  have hlk := mlook_run W hM HNM.out
  have HB := Lib.hid hBX
  have HD := Lib.hid hM
  have HT := Lib.hid hT
  have HRR := Lib.hid hR
  clear hBX hM hT hR HALL
  have HS := Lib.hid (show ModelTo w L mb d W from ⟨L, nb, kb, wv, xv, φ, nv, xs, HD.out, HT.out⟩)
  cases hd : d.down with
  | true =>
    rw [hd] at c6
    have HRES := Lib.hid (show d.syncDir = (d, eCrash) by simp [DV.syncDir, hd])
    obtain ⟨pv, hpv⟩ := ptrOf_shape φ (look d.now (nm (nmv % 6)))
    rw [hpv] at hlk
    clear hpv
    go_wp2
    go_ret
    exact ⟨by rw [HRES.out]; rfl, by rw [HRES.out]; exact HS.out⟩
  | false =>
    rw [hd] at c6
    obtain ⟨pv, hpv⟩ := ptrOf_shape φ (look d.now (nm (nmv % 6)))
    rw [hpv] at hlk
    clear hpv
    cases ho : d.on with
    | false =>
      have HRES := Lib.hid (show d.syncDir = (d.tick, eCrash) by simp [DV.syncDir, hd, ho])
      cases pv
      all_goals
          go_wp2_with fail
          refine (mcall_model W L mb nb kb wv xv φ nv xs d HD.out HOK.out HC.out).mono ?_
          rintro e w1 ⟨rfl, h1, ht1⟩
          rw [ho]
          go_wp2
          go_ret
          exact ⟨by rw [HRES.out]; rfl, by rw [HRES.out]; exact ⟨L, nb, kb, wv, xv, φ, nv, xs, h1, HT.out.trans ht1⟩⟩
    | true =>
      have HRES := Lib.hid (show d.syncDir = ({ d.tick with safe := d.now, wait := [] }, 0) by simp [DV.syncDir, hd, ho])
      cases pv
      all_goals
          go_wp2_with fail
          refine (mcall_model W L mb nb kb wv xv φ nv xs d HD.out HOK.out HC.out).mono ?_
          rintro e w1 ⟨rfl, h1, ht1⟩
          rw [ho]
          have hcp := copied_any w1 φ nb d.now h1.now (Nat.le_trans HSZ.out names6_len)
          have z0 : w1.cell? ⟨mb, 0, none⟩ = some (.map (some nb)) := (Blk.cell h1.cells 0).trans rfl
          have HCP := Lib.hid hcp
          have H1 := Lib.hid h1
          have HT1 := Lib.hid ht1
          clear hcp h1 ht1
          go_wp2_with fail
          refine HCP.out.mono ?_
          rintro e w2 ⟨rfl, hmp, hbw, hlt⟩
          have hM2 := H1.out.below hbw
          obtain ⟨ao1, l1, c1, hwv⟩ := ownsRow_shape H1.out.wait
          obtain ⟨ao2, l2, c2, hxv⟩ := ownsRow_shape H1.out.fwait
          have y1 := Blk.cell hM2.cells 1
          have y2 := Blk.cell hM2.cells 2
          have y3 := Blk.cell hM2.cells 3
          have g1 := Blk.frozen hM2.cells 1
          have g2 := Blk.frozen hM2.cells 2
          have g3 := Blk.frozen hM2.cells 3
          simp at y1 y2 y3
          rw [hwv] at y2
          rw [hxv] at y3
          have HM2 := Lib.hid hM2
          have HMP := Lib.hid (And.intro hmp (And.intro hbw hlt))
          clear hM2 hmp hbw hlt hwv hxv z0
          go_wp2
          go_ret
          have hmbn : w1.heap.size ≠ mb := fun e => by have := H1.out.dom mb (by rw [H1.out.lmodel]; simp); omega
          have hnbm : nb ≠ mb := fun e => by have := H1.out.lnow; rw [e, H1.out.lmodel] at this; cases this
          have hB3 := Blk.set_ (Blk.set_ (Blk.set_ HM2.out.cells 1 (.map (some w1.heap.size))) 2 (.slice none 0 0)) 3 (.slice none 0 0)
          obtain ⟨L', hM', hdom⟩ := H1.out.remade (w' := ((w2.setCell ⟨mb, 1, none⟩ (.map (some w1.heap.size))).setCell ⟨mb, 2, none⟩ (.slice none 0 0)).setCell ⟨mb, 3, none⟩ (.slice none 0 0))
            (by have := HMP.out.2.2; simp [World.setCell]; omega) (fun k hk hne => by rw [Below.heap_setCell _ _ _ _ hne, Below.heap_setCell _ _ _ _ hne, Below.heap_setCell _ _ _ _ hne, HMP.out.2.1.block k hk]) nb w1.heap.size d.now d.now d.tick.left d.tick.down hB3
            (by refine HM2.out.now.block ?_; rw [Below.heap_setCell _ _ _ _ hnbm, Below.heap_setCell _ _ _ _ hnbm, Below.heap_setCell _ _ _ _ hnbm])
            (by refine HMP.out.1.block ?_; rw [Below.heap_setCell _ _ _ _ hmbn, Below.heap_setCell _ _ _ _ hmbn, Below.heap_setCell _ _ _ _ hmbn])
            (fun e => by have := H1.out.dom nb (by rw [H1.out.lnow]; simp); omega) (.inl rfl) (.inr (Nat.le_refl _)) H1.out.hnow H1.out.hnow
          refine ⟨by rw [HRES.out]; rfl, ?_⟩
          rw [HRES.out]
          refine ⟨L', _, _, _, _, φ, _, _, hM', (HT.out.trans HT1.out).trans ⟨HMP.out.2.1.os, HMP.out.2.1.tape, HMP.out.2.1.output, by have := HMP.out.2.2; simp [World.setCell]; omega, fun k hk hl => ?_, hdom⟩⟩
          have hne : k ≠ mb := fun e => by rw [e, H1.out.lmodel] at hl; cases hl
          rw [Below.heap_setCell _ _ _ _ hne, Below.heap_setCell _ _ _ _ hne, Below.heap_setCell _ _ _ _ hne, HMP.out.2.1.block k hk]
end
end Go.Proofs.Ytombehaaaojhdaa
