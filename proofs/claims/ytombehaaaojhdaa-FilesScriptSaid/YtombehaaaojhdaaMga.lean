/- (*Model).do (printed by wip/gen_mdo.py) -/
import Derived.Test.YtombehaaaojhdaaMf
set_option linter.unusedVariables false
namespace Go.Proofs.Ytombehaaaojhdaa
open Go.Maps Go.RowKit

section
variable (w : World) (L : MLab) (mb nb kb : Nat) (wv xv : Value) (φ : List Nat) (nv xs : List Value) (d : DV) (h : ModelAt w L mb nb kb wv xv φ nv xs d) (k : Nat) (hI : d.Inv names6 k) (hk : k ≤ 1099511627775)
  (op nmv tov : Nat) (hop : op < 256) (hnm : nmv < 256) (hto : tov < 256) (n : Int) (hn0 : -32768 ≤ n) (hn1 : n ≤ 32767) (va : Option Addr) (vl vc : Nat)
  (A : Option Addr) (cc : Nat) (bs : List UInt8) (hr : Reads w w.heap.size 1 A bs.length (bcells bs)) (hsep : 0 < bs.length → ∀ ad, A = some ad → L ad.block = none) (hbs : bs.length ≤ 1099511627776) (hch : MChange)
include h hI hk hop hnm hto hn0 hn1 hr hsep hbs hch


set_option maxRecDepth 100000 in
set_option maxHeartbeats 8000000 in
theorem mdo_model2 (hq : op % 12 = 2) :
    Calls Try.prog 10 #[.pointer (some ⟨mb, 0, none⟩), actVal op nmv tov (.slice va vl vc) n, .slice A bs.length cc] w fun e w' => e = .returned (.int .i64 (d.act 2 (nm (nmv % 6)) (nm (tov % 6)) n bs).2) ∧ ModelTo w L mb (d.act 2 (nm (nmv % 6)) (nm (tov % 6)) n bs).1 w' := by
  have hq' : (op : Int) % 12 = 2 := by omega
  have h0 : (0 : Int) ≤ (op : Int) := by omega
  have h1 : (op : Int) ≤ 255 := by omega
  have h2 : (0 : Int) ≤ (nmv : Int) := by omega
  have h3 : (nmv : Int) ≤ 255 := by omega
  have h4 : (0 : Int) ≤ (tov : Int) := by omega
  have h5 : (tov : Int) ≤ 255 := by omega
  have hall : ∀ W : World, W.heap = (w.alloc (.cells #[.int .u8 op, .int .u8 nmv, .int .u8 tov, .slice va vl vc, .int .i16 n] 35)).heap ∧ W.os = w.os ∧ W.tape = w.tape ∧ W.output = w.output →
      Blk W w.heap.size 35 #[.int .u8 op, .int .u8 nmv, .int .u8 tov, .slice va vl vc, .int .i16 n] ∧ ModelAt W L mb nb kb wv xv φ nv xs d ∧ MTurned L L w W ∧ Reads W w.heap.size 1 A bs.length (bcells bs) := by
    intro W ⟨e1, e2, e3, e4⟩
    have hb : Below w.heap.size w W := ⟨e2, e3, e4, by rw [e1, size_alloc]; omega, fun k hk => by rw [e1]; exact Below.heap_alloc _ _ _ hk⟩
    exact ⟨by unfold Blk; rw [e1]; exact Blk.new w _ _, h.below hb, MTurned.below hb, hr.below hb⟩
  have HALL := Lib.hid hall
  have hc0 : (w.alloc (.cells #[.int .u8 op, .int .u8 nmv, .int .u8 tov, .slice va vl vc, .int .i16 n] 35)).cell? ⟨w.heap.size, 0, none⟩ = some (.int .u8 op) := by rw [(Blk.new w _ _).cell]; rfl
  have hc1 : (w.alloc (.cells #[.int .u8 op, .int .u8 nmv, .int .u8 tov, .slice va vl vc, .int .i16 n] 35)).cell? ⟨w.heap.size, 1, none⟩ = some (.int .u8 nmv) := by rw [(Blk.new w _ _).cell]; rfl
  have hc4 : (w.alloc (.cells #[.int .u8 op, .int .u8 nmv, .int .u8 tov, .slice va vl vc, .int .i16 n] 35)).cell? ⟨w.heap.size, 4, none⟩ = some (.int .i16 n) := by rw [(Blk.new w _ _).cell]; rfl
  have HM := Lib.hid h
  have HI := Lib.hid hI
  have HOK := Lib.hid (hI.ok names6_len (by omega))
  have HSZ := Lib.hid hI.size
  have HC := Lib.hid (show d.calls ≤ 1099511627776 from Nat.le_trans hI.calls (by omega))
  have HNM := Lib.hid (nm_max _ (nm_mem nmv))
  have HTO := Lib.hid (nm_max _ (nm_mem tov))
  have HU := Lib.hid (used_small hI)
  have HR := Lib.hid hr
  have HSEP := Lib.hid hsep
  have HBS := Lib.hid hbs
  have HA := Lib.hid (show d.act 2 (nm (nmv % 6)) (nm (tov % 6)) n bs = d.append (nm (nmv % 6)) bs from rfl)
  have HCH := Lib.hid hch
  have HNV := Lib.hid hnm
  have HTV := Lib.hid hto
  clear h hI hk hop hnm hto hr hsep hbs hq hch
  unfold actVal
  rw [HA.out]
  go_enter Try.func10, Try.ntmps10
  go_wp2_with fail
  go_quiet ((go_at_call 25; exact Calls.quiet_of_same (name_same _ nmv HNV.out)))
  obtain ⟨hBX, hM, hT, hR⟩ := HALL.out (World.drewN (w.alloc (.cells #[.int .u8 op, .int .u8 nmv, .int .u8 tov, .slice va vl vc, .int .i16 n] 35)) nq) ⟨rfl, rfl, rfl, rfl⟩
  clear hc0 hc1 hc4
  generalize World.drewN (w.alloc (.cells #[.int .u8 op, .int .u8 nmv, .int .u8 tov, .slice va vl vc, .int .i16 n] 35)) nq = W at *
  have x0 : W.cell? ⟨w.heap.size, 0, none⟩ = some (.int .u8 op) := (Blk.cell hBX 0).trans rfl
  have x2 : W.cell? ⟨w.heap.size, 2, none⟩ = some (.int .u8 tov) := (Blk.cell hBX 2).trans rfl
  have c0 : W.cell? ⟨mb, 0, none⟩ = some (.map (some nb)) := (Blk.cell hM.cells 0).trans rfl
  have c6 : W.cell? ⟨mb, 6, none⟩ = some (.bool d.down) := (Blk.cell hM.cells 6).trans rfl
  have hlk := mlook_run W hM HNM.out
  have HB := Lib.hid hBX
  have HD := Lib.hid hM
  have HT := Lib.hid hT
  have HRR := Lib.hid hR
  clear hBX hM hT hR HALL
  have HS := Lib.hid (show ModelTo w L mb d W from ⟨L, nb, kb, wv, xv, φ, nv, xs, HD.out, HT.out⟩)
  cases hd : d.down with
  | true =>
    rw [hd] at c6
    have HRES := Lib.hid (show d.append (nm (nmv % 6)) bs = (d, eCrash) by simp [DV.append, hd])
    obtain ⟨pv, hpv⟩ := ptrOf_shape φ (look d.now (nm (nmv % 6)))
    rw [hpv] at hlk
    clear hpv
    go_wp2
    go_ret
    exact ⟨by rw [HRES.out]; rfl, by rw [HRES.out]; exact HS.out⟩
  | false =>
    rw [hd] at c6
    cases hl : look d.now (nm (nmv % 6)) with
    | none =>
      rw [hl] at hlk
      simp only [ptrOf] at hlk
      have HRES := Lib.hid (show d.append (nm (nmv % 6)) bs = (d, eUnknown) by simp [DV.append, hd, hl])
      clear hl
      go_wp2
      go_ret
      exact ⟨by rw [HRES.out]; rfl, by rw [HRES.out]; exact HS.out⟩
    | some i =>
      have hi := look_lt HD.out.hnow hl
      obtain ⟨fb, hfb⟩ : ∃ fb, φ[i]? = some fb := ⟨_, List.getElem?_eq_getElem hi⟩
      rw [hl] at hlk
      simp only [ptrOf, hfb] at hlk
      have HL := Lib.hid (And.intro hl hfb)
      clear hl hfb
      obtain ⟨u, hu⟩ : ∃ u, u = d.used := ⟨_, rfl⟩
      obtain ⟨m, hm⟩ : ∃ m, m = bs.length := ⟨_, rfl⟩
      have hused : ∀ V : World, V.heap = W.heap → Calls Try.prog 14 #[.pointer (some ⟨mb, 0, none⟩)] V fun e w' => e = .returned (.int .i64 u) ∧ Below W.heap.size V w' := by
        intro V hV
        rw [hu, ← hV]
        exact mused_model V L mb nb kb wv xv φ nv xs d (HD.out.keep (by rw [hV]; exact Nat.le_refl _) (fun k _ => by rw [hV])) HU.out
      have hu1 : (u : Int) ≤ 1099511627776 := by rw [hu]; have := HU.out; omega
      have hm1 : (m : Int) ≤ 1099511627776 := by rw [hm]; have := HBS.out; omega
      have hwr : IntKind.i64.wrap ((u : Int) + (m : Int)) = (u : Int) + (m : Int) := IntWalk.i64_in _ (by omega)
      have c4 : W.cell? ⟨mb, 4, none⟩ = some (.int .i64 d.room) := (Blk.cell HD.out.cells 4).trans rfl
      have HUSED := Lib.hid hused
      have HUD := Lib.hid hu
      have HMD := Lib.hid hm
      clear hused hu1 hm1
      rw [← hm]
      clear hu hm
      by_cases hfull : d.room < (u : Int) + (m : Int)
      · have HRES := Lib.hid (show d.append (nm (nmv % 6)) bs = (d, eFull) by simp [DV.append, hd, HL.out.1, ← HUD.out, ← HMD.out, hfull])
        have hb1 : decide (d.room < (u : Int) + (m : Int)) = true := by simpa using hfull
        clear hfull
        go_wp2_with fail
        go_region_held3 (fun w' => w'.cell? ⟨mb, 4, none⟩ = some (.int .i64 d.room))
          (first | exact c4 | exact cell_keep (below_of_drew hb2) c4)
          (first | (go_at_call 14; refine (HUSED.out _ ?_).mono ?_; (exact rfl); rintro e w2 ⟨rfl, hb2⟩))
        all_goals go_wp2
        all_goals go_ret
        exact ⟨by rw [HRES.out]; rfl, by rw [HRES.out]; exact ⟨L, nb, kb, wv, xv, φ, nv, xs, HD.out.below (below_of_drew hb2), HT.out.trans (MTurned.below (below_of_drew hb2))⟩⟩
      · have HRES := Lib.hid (show d.append (nm (nmv % 6)) bs = (d.tick.file i (fun f => { f with b := f.b ++ bs }), if d.on then 0 else eCrash) by simp [DV.append, hd, HL.out.1, ← HUD.out, ← HMD.out, hfull])
        have hb1 : decide (d.room < (u : Int) + (m : Int)) = false := by simpa using hfull
        clear hfull
        cases ho : d.on
        all_goals
          rw [ho] at HRES
          go_wp2_with fail
          go_region_held3 (fun w' => w'.cell? ⟨mb, 4, none⟩ = some (.int .i64 d.room))
            (first | exact c4 | exact cell_keep (below_of_drew hb2) c4)
            (first | (go_at_call 14; refine (HUSED.out _ ?_).mono ?_; (exact rfl); rintro e w2 ⟨rfl, hb2⟩))
          have hD2 := HD.out.below (below_of_drew hb2)
          have HB2 := Lib.hid (below_of_drew hb2)
          clear hb2 hwr hb1
          go_wp2_with fail
          refine (mcall_model w2 L mb nb kb wv xv φ nv xs d hD2 HOK.out HC.out).mono ?_
          rintro e w1 ⟨rfl, h1, ht1⟩
          rw [ho]
          clear hD2
          obtain ⟨f, hf, hF⟩ := h1.file_at HL.out.2
          have hR1 : Reads w1 w.heap.size 1 A bs.length (bcells bs) := by
            refine HRR.out.blockp fun hpos ad e hlt => ?_
            have hlt2 := Nat.lt_of_lt_of_le hlt (Nat.le_trans HT.out.size HB2.out.size)
            rw [ht1.block ad.block hlt2 (HSEP.out hpos ad e), HB2.out.block ad.block (Nat.lt_of_lt_of_le hlt HT.out.size)]
          have hconv := run_convert_reads w1.drew w.heap.size A cc bs (hR1.keep (fun _ _ => rfl))
          rw [← HMD.out] at hconv
          obtain ⟨S1, hS1⟩ : ∃ S1 : ByteArray, S1 = ⟨f.b.toArray⟩ := ⟨_, rfl⟩
          obtain ⟨S2, hS2⟩ : ∃ S2 : ByteArray, S2 = ⟨bs.toArray⟩ := ⟨_, rfl⟩
          have hs1 : S1.size ≤ 4294967296 := by
            rw [hS1]
            have h2 := HOK.out.lens f (List.mem_of_getElem? hf)
            have h3 := HOK.out.room1
            simp [ByteArray.size]; omega
          have hs2 : S2.size ≤ 1099511627776 := by
            rw [hS2]
            have h2 := HBS.out
            simpa [ByteArray.size] using h2
          have hcat : S1 ++ S2 = ⟨(f.b ++ bs).toArray⟩ := by rw [hS1, hS2, bs_app]
          have b0 : w1.cell? ⟨fb, 0, none⟩ = some (.string S1) := by rw [hS1]; exact (Blk.cell hF.cells 0).trans rfl
          have f0 : w1.frozen? ⟨fb, 0, none⟩ = false := Blk.frozen hF.cells 0
          rw [← hS2] at hconv
          have HCAT := Lib.hid hcat
          have H1 := Lib.hid h1
          have HF := Lib.hid hF
          have HT1 := Lib.hid ht1
          have HFI := Lib.hid hf
          clear h1 hF ht1 hf hR1 hcat hS1 hS2
          go_wp2_with fail
          go_region
          all_goals go_wp2
          all_goals go_ret
          have hfin := H1.out.upd HL.out.2 HFI.out (fun f => { f with b := f.b ++ bs }) (grown_drew (grown_set (World.grownBy.refl _ _) 0 (.string (S1 ++ S2)))) (by
            have := Blk.set_ HF.out.cells 0 (.string (S1 ++ S2))
            rw [HCAT.out] at this ⊢
            exact this)
          exact ⟨by rw [HRES.out]; rfl, by rw [HRES.out]; exact ⟨L, nb, kb, wv, xv, φ, nv, xs, hfin.1, ((HT.out.trans (MTurned.below HB2.out)).trans HT1.out).trans hfin.2⟩⟩

set_option maxRecDepth 100000 in
set_option maxHeartbeats 8000000 in
theorem mdo_model7 (hq : op % 12 = 7) :
    Calls Try.prog 10 #[.pointer (some ⟨mb, 0, none⟩), actVal op nmv tov (.slice va vl vc) n, .slice A bs.length cc] w fun e w' => e = .returned (.int .i64 (d.act 7 (nm (nmv % 6)) (nm (tov % 6)) n bs).2) ∧ ModelTo w L mb (d.act 7 (nm (nmv % 6)) (nm (tov % 6)) n bs).1 w' := by
  have hq' : (op : Int) % 12 = 7 := by omega
  have h0 : (0 : Int) ≤ (op : Int) := by omega
  have h1 : (op : Int) ≤ 255 := by omega
  have h2 : (0 : Int) ≤ (nmv : Int) := by omega
  have h3 : (nmv : Int) ≤ 255 := by omega
  have h4 : (0 : Int) ≤ (tov : Int) := by omega
  have h5 : (tov : Int) ≤ 255 := by omega
  have hall : ∀ W : World, W.heap = (w.alloc (.cells #[.int .u8 op, .int .u8 nmv, .int .u8 tov, .slice va vl vc, .int .i16 n] 35)).heap ∧ W.os = w.os ∧ W.tape = w.tape ∧ W.output = w.output →
      Blk W w.heap.size 35 #[.int .u8 op, .int .u8 nmv, .int .u8 tov, .slice va vl vc, .int .i16 n] ∧ ModelAt W L mb nb kb wv xv φ nv xs d ∧ MTurned L L w W ∧ Reads W w.heap.size 1 A bs.length (bcells bs) := by
    intro W ⟨e1, e2, e3, e4⟩
    have hb : Below w.heap.size w W := ⟨e2, e3, e4, by rw [e1, size_alloc]; omega, fun k hk => by rw [e1]; exact Below.heap_alloc _ _ _ hk⟩
    exact ⟨by unfold Blk; rw [e1]; exact Blk.new w _ _, h.below hb, MTurned.below hb, hr.below hb⟩
  have HALL := Lib.hid hall
  have hc0 : (w.alloc (.cells #[.int .u8 op, .int .u8 nmv, .int .u8 tov, .slice va vl vc, .int .i16 n] 35)).cell? ⟨w.heap.size, 0, none⟩ = some (.int .u8 op) := by rw [(Blk.new w _ _).cell]; rfl
  have hc1 : (w.alloc (.cells #[.int .u8 op, .int .u8 nmv, .int .u8 tov, .slice va vl vc, .int .i16 n] 35)).cell? ⟨w.heap.size, 1, none⟩ = some (.int .u8 nmv) := by rw [(Blk.new w _ _).cell]; rfl
  have hc4 : (w.alloc (.cells #[.int .u8 op, .int .u8 nmv, .int .u8 tov, .slice va vl vc, .int .i16 n] 35)).cell? ⟨w.heap.size, 4, none⟩ = some (.int .i16 n) := by rw [(Blk.new w _ _).cell]; rfl
  have HM := Lib.hid h
  have HI := Lib.hid hI
  have HOK := Lib.hid (hI.ok names6_len (by omega))
  have HSZ := Lib.hid hI.size
  have HC := Lib.hid (show d.calls ≤ 1099511627776 from Nat.le_trans hI.calls (by omega))
  have HNM := Lib.hid (nm_max _ (nm_mem nmv))
  have HTO := Lib.hid (nm_max _ (nm_mem tov))
  have HU := Lib.hid (used_small hI)
  have HR := Lib.hid hr
  have HSEP := Lib.hid hsep
  have HBS := Lib.hid hbs
  have HA := Lib.hid (show d.act 7 (nm (nmv % 6)) (nm (tov % 6)) n bs = d.append (nm (nmv % 6)) bs from rfl)
  have HCH := Lib.hid hch
  have HNV := Lib.hid hnm
  have HTV := Lib.hid hto
  clear h hI hk hop hnm hto hr hsep hbs hq hch
  unfold actVal
  rw [HA.out]
  go_enter Try.func10, Try.ntmps10
  go_wp2_with fail
  go_quiet ((go_at_call 25; exact Calls.quiet_of_same (name_same _ nmv HNV.out)))
  obtain ⟨hBX, hM, hT, hR⟩ := HALL.out (World.drewN (w.alloc (.cells #[.int .u8 op, .int .u8 nmv, .int .u8 tov, .slice va vl vc, .int .i16 n] 35)) nq) ⟨rfl, rfl, rfl, rfl⟩
  clear hc0 hc1 hc4
  generalize World.drewN (w.alloc (.cells #[.int .u8 op, .int .u8 nmv, .int .u8 tov, .slice va vl vc, .int .i16 n] 35)) nq = W at *
  have x0 : W.cell? ⟨w.heap.size, 0, none⟩ = some (.int .u8 op) := (Blk.cell hBX 0).trans rfl
  have x2 : W.cell? ⟨w.heap.size, 2, none⟩ = some (.int .u8 tov) := (Blk.cell hBX 2).trans rfl
  have c0 : W.cell? ⟨mb, 0, none⟩ = some (.map (some nb)) := (Blk.cell hM.cells 0).trans rfl
  have c6 : W.cell? ⟨mb, 6, none⟩ = some (.bool d.down) := (Blk.cell hM.cells 6).trans rfl
  have hlk := mlook_run W hM HNM.out
  have HB := Lib.hid hBX
  have HD := Lib.hid hM
  have HT := Lib.hid hT
  have HRR := Lib.hid hR
  clear hBX hM hT hR HALL
  have HS := Lib.hid (show ModelTo w L mb d W from ⟨L, nb, kb, wv, xv, φ, nv, xs, HD.out, HT.out⟩)
  cases hd : d.down with
  | true =>
    rw [hd] at c6
    have HRES := Lib.hid (show d.append (nm (nmv % 6)) bs = (d, eCrash) by simp [DV.append, hd])
    obtain ⟨pv, hpv⟩ := ptrOf_shape φ (look d.now (nm (nmv % 6)))
    rw [hpv] at hlk
    clear hpv
    go_wp2
    go_ret
    exact ⟨by rw [HRES.out]; rfl, by rw [HRES.out]; exact HS.out⟩
  | false =>
    rw [hd] at c6
    cases hl : look d.now (nm (nmv % 6)) with
    | none =>
      rw [hl] at hlk
      simp only [ptrOf] at hlk
      have HRES := Lib.hid (show d.append (nm (nmv % 6)) bs = (d, eUnknown) by simp [DV.append, hd, hl])
      clear hl
      go_wp2
      go_ret
      exact ⟨by rw [HRES.out]; rfl, by rw [HRES.out]; exact HS.out⟩
    | some i =>
      have hi := look_lt HD.out.hnow hl
      obtain ⟨fb, hfb⟩ : ∃ fb, φ[i]? = some fb := ⟨_, List.getElem?_eq_getElem hi⟩
      rw [hl] at hlk
      simp only [ptrOf, hfb] at hlk
      have HL := Lib.hid (And.intro hl hfb)
      clear hl hfb
      obtain ⟨u, hu⟩ : ∃ u, u = d.used := ⟨_, rfl⟩
      obtain ⟨m, hm⟩ : ∃ m, m = bs.length := ⟨_, rfl⟩
      have hused : ∀ V : World, V.heap = W.heap → Calls Try.prog 14 #[.pointer (some ⟨mb, 0, none⟩)] V fun e w' => e = .returned (.int .i64 u) ∧ Below W.heap.size V w' := by
        intro V hV
        rw [hu, ← hV]
        exact mused_model V L mb nb kb wv xv φ nv xs d (HD.out.keep (by rw [hV]; exact Nat.le_refl _) (fun k _ => by rw [hV])) HU.out
      have hu1 : (u : Int) ≤ 1099511627776 := by rw [hu]; have := HU.out; omega
      have hm1 : (m : Int) ≤ 1099511627776 := by rw [hm]; have := HBS.out; omega
      have hwr : IntKind.i64.wrap ((u : Int) + (m : Int)) = (u : Int) + (m : Int) := IntWalk.i64_in _ (by omega)
      have c4 : W.cell? ⟨mb, 4, none⟩ = some (.int .i64 d.room) := (Blk.cell HD.out.cells 4).trans rfl
      have HUSED := Lib.hid hused
      have HUD := Lib.hid hu
      have HMD := Lib.hid hm
      clear hused hu1 hm1
      rw [← hm]
      clear hu hm
      by_cases hfull : d.room < (u : Int) + (m : Int)
      · have HRES := Lib.hid (show d.append (nm (nmv % 6)) bs = (d, eFull) by simp [DV.append, hd, HL.out.1, ← HUD.out, ← HMD.out, hfull])
        have hb1 : decide (d.room < (u : Int) + (m : Int)) = true := by simpa using hfull
        clear hfull
        go_wp2_with fail
        go_region_held3 (fun w' => w'.cell? ⟨mb, 4, none⟩ = some (.int .i64 d.room))
          (first | exact c4 | exact cell_keep (below_of_drew hb2) c4)
          (first | (go_at_call 14; refine (HUSED.out _ ?_).mono ?_; (exact rfl); rintro e w2 ⟨rfl, hb2⟩))
        all_goals go_wp2
        all_goals go_ret
        exact ⟨by rw [HRES.out]; rfl, by rw [HRES.out]; exact ⟨L, nb, kb, wv, xv, φ, nv, xs, HD.out.below (below_of_drew hb2), HT.out.trans (MTurned.below (below_of_drew hb2))⟩⟩
      · have HRES := Lib.hid (show d.append (nm (nmv % 6)) bs = (d.tick.file i (fun f => { f with b := f.b ++ bs }), if d.on then 0 else eCrash) by simp [DV.append, hd, HL.out.1, ← HUD.out, ← HMD.out, hfull])
        have hb1 : decide (d.room < (u : Int) + (m : Int)) = false := by simpa using hfull
        clear hfull
        cases ho : d.on
        all_goals
          rw [ho] at HRES
          go_wp2_with fail
          go_region_held3 (fun w' => w'.cell? ⟨mb, 4, none⟩ = some (.int .i64 d.room))
            (first | exact c4 | exact cell_keep (below_of_drew hb2) c4)
            (first | (go_at_call 14; refine (HUSED.out _ ?_).mono ?_; (exact rfl); rintro e w2 ⟨rfl, hb2⟩))
          have hD2 := HD.out.below (below_of_drew hb2)
          have HB2 := Lib.hid (below_of_drew hb2)
          clear hb2 hwr hb1
          go_wp2_with fail
          refine (mcall_model w2 L mb nb kb wv xv φ nv xs d hD2 HOK.out HC.out).mono ?_
          rintro e w1 ⟨rfl, h1, ht1⟩
          rw [ho]
          clear hD2
          obtain ⟨f, hf, hF⟩ := h1.file_at HL.out.2
          have hR1 : Reads w1 w.heap.size 1 A bs.length (bcells bs) := by
            refine HRR.out.blockp fun hpos ad e hlt => ?_
            have hlt2 := Nat.lt_of_lt_of_le hlt (Nat.le_trans HT.out.size HB2.out.size)
            rw [ht1.block ad.block hlt2 (HSEP.out hpos ad e), HB2.out.block ad.block (Nat.lt_of_lt_of_le hlt HT.out.size)]
          have hconv := run_convert_reads w1.drew w.heap.size A cc bs (hR1.keep (fun _ _ => rfl))
          rw [← HMD.out] at hconv
          obtain ⟨S1, hS1⟩ : ∃ S1 : ByteArray, S1 = ⟨f.b.toArray⟩ := ⟨_, rfl⟩
          obtain ⟨S2, hS2⟩ : ∃ S2 : ByteArray, S2 = ⟨bs.toArray⟩ := ⟨_, rfl⟩
          have hs1 : S1.size ≤ 4294967296 := by
            rw [hS1]
            have h2 := HOK.out.lens f (List.mem_of_getElem? hf)
            have h3 := HOK.out.room1
            simp [ByteArray.size]; omega
          have hs2 : S2.size ≤ 1099511627776 := by
            rw [hS2]
            have h2 := HBS.out
            simpa [ByteArray.size] using h2
          have hcat : S1 ++ S2 = ⟨(f.b ++ bs).toArray⟩ := by rw [hS1, hS2, bs_app]
          have b0 : w1.cell? ⟨fb, 0, none⟩ = some (.string S1) := by rw [hS1]; exact (Blk.cell hF.cells 0).trans rfl
          have f0 : w1.frozen? ⟨fb, 0, none⟩ = false := Blk.frozen hF.cells 0
          rw [← hS2] at hconv
          have HCAT := Lib.hid hcat
          have H1 := Lib.hid h1
          have HF := Lib.hid hF
          have HT1 := Lib.hid ht1
          have HFI := Lib.hid hf
          clear h1 hF ht1 hf hR1 hcat hS1 hS2
          go_wp2_with fail
          go_region
          all_goals go_wp2
          all_goals go_ret
          have hfin := H1.out.upd HL.out.2 HFI.out (fun f => { f with b := f.b ++ bs }) (grown_drew (grown_set (World.grownBy.refl _ _) 0 (.string (S1 ++ S2)))) (by
            have := Blk.set_ HF.out.cells 0 (.string (S1 ++ S2))
            rw [HCAT.out] at this ⊢
            exact this)
          exact ⟨by rw [HRES.out]; rfl, by rw [HRES.out]; exact ⟨L, nb, kb, wv, xv, φ, nv, xs, hfin.1, ((HT.out.trans (MTurned.below HB2.out)).trans HT1.out).trans hfin.2⟩⟩

set_option maxRecDepth 100000 in
set_option maxHeartbeats 8000000 in
theorem mdo_model8 (hq : op % 12 = 8) :
    Calls Try.prog 10 #[.pointer (some ⟨mb, 0, none⟩), actVal op nmv tov (.slice va vl vc) n, .slice A bs.length cc] w fun e w' => e = .returned (.int .i64 (d.act 8 (nm (nmv % 6)) (nm (tov % 6)) n bs).2) ∧ ModelTo w L mb (d.act 8 (nm (nmv % 6)) (nm (tov % 6)) n bs).1 w' := by
  have hq' : (op : Int) % 12 = 8 := by omega
  have h0 : (0 : Int) ≤ (op : Int) := by omega
  have h1 : (op : Int) ≤ 255 := by omega
  have h2 : (0 : Int) ≤ (nmv : Int) := by omega
  have h3 : (nmv : Int) ≤ 255 := by omega
  have h4 : (0 : Int) ≤ (tov : Int) := by omega
  have h5 : (tov : Int) ≤ 255 := by omega
  have hall : ∀ W : World, W.heap = (w.alloc (.cells #[.int .u8 op, .int .u8 nmv, .int .u8 tov, .slice va vl vc, .int .i16 n] 35)).heap ∧ W.os = w.os ∧ W.tape = w.tape ∧ W.output = w.output →
      Blk W w.heap.size 35 #[.int .u8 op, .int .u8 nmv, .int .u8 tov, .slice va vl vc, .int .i16 n] ∧ ModelAt W L mb nb kb wv xv φ nv xs d ∧ MTurned L L w W ∧ Reads W w.heap.size 1 A bs.length (bcells bs) := by
    intro W ⟨e1, e2, e3, e4⟩
    have hb : Below w.heap.size w W := ⟨e2, e3, e4, by rw [e1, size_alloc]; omega, fun k hk => by rw [e1]; exact Below.heap_alloc _ _ _ hk⟩
    exact ⟨by unfold Blk; rw [e1]; exact Blk.new w _ _, h.below hb, MTurned.below hb, hr.below hb⟩
  have HALL := Lib.hid hall
  have hc0 : (w.alloc (.cells #[.int .u8 op, .int .u8 nmv, .int .u8 tov, .slice va vl vc, .int .i16 n] 35)).cell? ⟨w.heap.size, 0, none⟩ = some (.int .u8 op) := by rw [(Blk.new w _ _).cell]; rfl
  have hc1 : (w.alloc (.cells #[.int .u8 op, .int .u8 nmv, .int .u8 tov, .slice va vl vc, .int .i16 n] 35)).cell? ⟨w.heap.size, 1, none⟩ = some (.int .u8 nmv) := by rw [(Blk.new w _ _).cell]; rfl
  have hc4 : (w.alloc (.cells #[.int .u8 op, .int .u8 nmv, .int .u8 tov, .slice va vl vc, .int .i16 n] 35)).cell? ⟨w.heap.size, 4, none⟩ = some (.int .i16 n) := by rw [(Blk.new w _ _).cell]; rfl
  have HM := Lib.hid h
  have HI := Lib.hid hI
  have HOK := Lib.hid (hI.ok names6_len (by omega))
  have HSZ := Lib.hid hI.size
  have HC := Lib.hid (show d.calls ≤ 1099511627776 from Nat.le_trans hI.calls (by omega))
  have HNM := Lib.hid (nm_max _ (nm_mem nmv))
  have HTO := Lib.hid (nm_max _ (nm_mem tov))
  have HU := Lib.hid (used_small hI)
  have HR := Lib.hid hr
  have HSEP := Lib.hid hsep
  have HBS := Lib.hid hbs
  have HA := Lib.hid (show d.act 8 (nm (nmv % 6)) (nm (tov % 6)) n bs = d.append (nm (nmv % 6)) bs from rfl)
  have HCH := Lib.hid hch
  have HNV := Lib.hid hnm
  have HTV := Lib.hid hto
  clear h hI hk hop hnm hto hr hsep hbs hq hch
  unfold actVal
  rw [HA.out]
  go_enter Try.func10, Try.ntmps10
  go_wp2_with fail
  go_quiet ((go_at_call 25; exact Calls.quiet_of_same (name_same _ nmv HNV.out)))
  obtain ⟨hBX, hM, hT, hR⟩ := HALL.out (World.drewN (w.alloc (.cells #[.int .u8 op, .int .u8 nmv, .int .u8 tov, .slice va vl vc, .int .i16 n] 35)) nq) ⟨rfl, rfl, rfl, rfl⟩
  clear hc0 hc1 hc4
  generalize World.drewN (w.alloc (.cells #[.int .u8 op, .int .u8 nmv, .int .u8 tov, .slice va vl vc, .int .i16 n] 35)) nq = W at *
  have x0 : W.cell? ⟨w.heap.size, 0, none⟩ = some (.int .u8 op) := (Blk.cell hBX 0).trans rfl
  have x2 : W.cell? ⟨w.heap.size, 2, none⟩ = some (.int .u8 tov) := (Blk.cell hBX 2).trans rfl
  have c0 : W.cell? ⟨mb, 0, none⟩ = some (.map (some nb)) := (Blk.cell hM.cells 0).trans rfl
  have c6 : W.cell? ⟨mb, 6, none⟩ = some (.bool d.down) := (Blk.cell hM.cells 6).trans rfl
  have hlk := mlook_run W hM HNM.out
  have HB := Lib.hid hBX
  have HD := Lib.hid hM
  have HT := Lib.hid hT
  have HRR := Lib.hid hR
  clear hBX hM hT hR HALL
  have HS := Lib.hid (show ModelTo w L mb d W from ⟨L, nb, kb, wv, xv, φ, nv, xs, HD.out, HT.out⟩)
  cases hd : d.down with
  | true =>
    rw [hd] at c6
    have HRES := Lib.hid (show d.append (nm (nmv % 6)) bs = (d, eCrash) by simp [DV.append, hd])
    obtain ⟨pv, hpv⟩ := ptrOf_shape φ (look d.now (nm (nmv % 6)))
    rw [hpv] at hlk
    clear hpv
    go_wp2
    go_ret
    exact ⟨by rw [HRES.out]; rfl, by rw [HRES.out]; exact HS.out⟩
  | false =>
    rw [hd] at c6
    cases hl : look d.now (nm (nmv % 6)) with
    | none =>
      rw [hl] at hlk
      simp only [ptrOf] at hlk
      have HRES := Lib.hid (show d.append (nm (nmv % 6)) bs = (d, eUnknown) by simp [DV.append, hd, hl])
      clear hl
      go_wp2
      go_ret
      exact ⟨by rw [HRES.out]; rfl, by rw [HRES.out]; exact HS.out⟩
    | some i =>
      have hi := look_lt HD.out.hnow hl
      obtain ⟨fb, hfb⟩ : ∃ fb, φ[i]? = some fb := ⟨_, List.getElem?_eq_getElem hi⟩
      rw [hl] at hlk
      simp only [ptrOf, hfb] at hlk
      have HL := Lib.hid (And.intro hl hfb)
      clear hl hfb
      obtain ⟨u, hu⟩ : ∃ u, u = d.used := ⟨_, rfl⟩
      obtain ⟨m, hm⟩ : ∃ m, m = bs.length := ⟨_, rfl⟩
      have hused : ∀ V : World, V.heap = W.heap → Calls Try.prog 14 #[.pointer (some ⟨mb, 0, none⟩)] V fun e w' => e = .returned (.int .i64 u) ∧ Below W.heap.size V w' := by
        intro V hV
        rw [hu, ← hV]
        exact mused_model V L mb nb kb wv xv φ nv xs d (HD.out.keep (by rw [hV]; exact Nat.le_refl _) (fun k _ => by rw [hV])) HU.out
      have hu1 : (u : Int) ≤ 1099511627776 := by rw [hu]; have := HU.out; omega
      have hm1 : (m : Int) ≤ 1099511627776 := by rw [hm]; have := HBS.out; omega
      have hwr : IntKind.i64.wrap ((u : Int) + (m : Int)) = (u : Int) + (m : Int) := IntWalk.i64_in _ (by omega)
      have c4 : W.cell? ⟨mb, 4, none⟩ = some (.int .i64 d.room) := (Blk.cell HD.out.cells 4).trans rfl
      have HUSED := Lib.hid hused
      have HUD := Lib.hid hu
      have HMD := Lib.hid hm
      clear hused hu1 hm1
      rw [← hm]
      clear hu hm
      by_cases hfull : d.room < (u : Int) + (m : Int)
      · have HRES := Lib.hid (show d.append (nm (nmv % 6)) bs = (d, eFull) by simp [DV.append, hd, HL.out.1, ← HUD.out, ← HMD.out, hfull])
        have hb1 : decide (d.room < (u : Int) + (m : Int)) = true := by simpa using hfull
        clear hfull
        go_wp2_with fail
        go_region_held3 (fun w' => w'.cell? ⟨mb, 4, none⟩ = some (.int .i64 d.room))
          (first | exact c4 | exact cell_keep (below_of_drew hb2) c4)
          (first | (go_at_call 14; refine (HUSED.out _ ?_).mono ?_; (exact rfl); rintro e w2 ⟨rfl, hb2⟩))
        all_goals go_wp2
        all_goals go_ret
        exact ⟨by rw [HRES.out]; rfl, by rw [HRES.out]; exact ⟨L, nb, kb, wv, xv, φ, nv, xs, HD.out.below (below_of_drew hb2), HT.out.trans (MTurned.below (below_of_drew hb2))⟩⟩
      · have HRES := Lib.hid (show d.append (nm (nmv % 6)) bs = (d.tick.file i (fun f => { f with b := f.b ++ bs }), if d.on then 0 else eCrash) by simp [DV.append, hd, HL.out.1, ← HUD.out, ← HMD.out, hfull])
        have hb1 : decide (d.room < (u : Int) + (m : Int)) = false := by simpa using hfull
        clear hfull
        cases ho : d.on
        all_goals
          rw [ho] at HRES
          go_wp2_with fail
          go_region_held3 (fun w' => w'.cell? ⟨mb, 4, none⟩ = some (.int .i64 d.room))
            (first | exact c4 | exact cell_keep (below_of_drew hb2) c4)
            (first | (go_at_call 14; refine (HUSED.out _ ?_).mono ?_; (exact rfl); rintro e w2 ⟨rfl, hb2⟩))
          have hD2 := HD.out.below (below_of_drew hb2)
          have HB2 := Lib.hid (below_of_drew hb2)
          clear hb2 hwr hb1
          go_wp2_with fail
          refine (mcall_model w2 L mb nb kb wv xv φ nv xs d hD2 HOK.out HC.out).mono ?_
          rintro e w1 ⟨rfl, h1, ht1⟩
          rw [ho]
          clear hD2
          obtain ⟨f, hf, hF⟩ := h1.file_at HL.out.2
          have hR1 : Reads w1 w.heap.size 1 A bs.length (bcells bs) := by
            refine HRR.out.blockp fun hpos ad e hlt => ?_
            have hlt2 := Nat.lt_of_lt_of_le hlt (Nat.le_trans HT.out.size HB2.out.size)
            rw [ht1.block ad.block hlt2 (HSEP.out hpos ad e), HB2.out.block ad.block (Nat.lt_of_lt_of_le hlt HT.out.size)]
          have hconv := run_convert_reads w1.drew w.heap.size A cc bs (hR1.keep (fun _ _ => rfl))
          rw [← HMD.out] at hconv
          obtain ⟨S1, hS1⟩ : ∃ S1 : ByteArray, S1 = ⟨f.b.toArray⟩ := ⟨_, rfl⟩
          obtain ⟨S2, hS2⟩ : ∃ S2 : ByteArray, S2 = ⟨bs.toArray⟩ := ⟨_, rfl⟩
          have hs1 : S1.size ≤ 4294967296 := by
            rw [hS1]
            have h2 := HOK.out.lens f (List.mem_of_getElem? hf)
            have h3 := HOK.out.room1
            simp [ByteArray.size]; omega
          have hs2 : S2.size ≤ 1099511627776 := by
            rw [hS2]
            have h2 := HBS.out
            simpa [ByteArray.size] using h2
          have hcat : S1 ++ S2 = ⟨(f.b ++ bs).toArray⟩ := by rw [hS1, hS2, bs_app]
          have b0 : w1.cell? ⟨fb, 0, none⟩ = some (.string S1) := by rw [hS1]; exact (Blk.cell hF.cells 0).trans rfl
          have f0 : w1.frozen? ⟨fb, 0, none⟩ = false := Blk.frozen hF.cells 0
          rw [← hS2] at hconv
          have HCAT := Lib.hid hcat
          have H1 := Lib.hid h1
          have HF := Lib.hid hF
          have HT1 := Lib.hid ht1
          have HFI := Lib.hid hf
          clear h1 hF ht1 hf hR1 hcat hS1 hS2
          go_wp2_with fail
          go_region
          all_goals go_wp2
          all_goals go_ret
          have hfin := H1.out.upd HL.out.2 HFI.out (fun f => { f with b := f.b ++ bs }) (grown_drew (grown_set (World.grownBy.refl _ _) 0 (.string (S1 ++ S2)))) (by
            have := Blk.set_ HF.out.cells 0 (.string (S1 ++ S2))
            rw [HCAT.out] at this ⊢
            exact this)
          exact ⟨by rw [HRES.out]; rfl, by rw [HRES.out]; exact ⟨L, nb, kb, wv, xv, φ, nv, xs, hfin.1, ((HT.out.trans (MTurned.below HB2.out)).trans HT1.out).trans hfin.2⟩⟩
end
end Go.Proofs.Ytombehaaaojhdaa
