/- FilesScript: the walk -/
import Derived.Test.YtombehaaaojhdaaFs
import Derived.BigQuiet
import Derived.Deep.RegionHeld3
set_option linter.unusedVariables false
namespace Go.Proofs.Ytombehaaaojhdaa
open Go.Maps Go.RowKit Go.Sort

structure ActV where
  op : Nat
  nmv : Nat
  tov : Nat
  A : Option Addr
  c : Nat
  b : List UInt8
  n : Int

structure ActV.ok (w : World) (a : ActV) : Prop where
  op : a.op < 256
  nmv : a.nmv < 256
  tov : a.tov < 256
  n0 : -32768 ≤ a.n
  n1 : a.n ≤ 32767
  reads : Reads w w.heap.size 1 a.A a.b.length (bcells a.b)
  cap : a.b.length ≤ a.c
  capm : a.c ≤ maxLen

def ActsAt (w : World) (av : Option Addr) (acts : List ActV) : Prop :=
  ∀ k a, acts[k]? = some a → ∃ b o, av = some ⟨b, o, none⟩ ∧ a.ok w ∧ w.cell? ⟨b, o + k * 5, none⟩ = some (.int .u8 a.op) ∧ w.cell? ⟨b, o + k * 5 + 1, none⟩ = some (.int .u8 a.nmv) ∧
    w.cell? ⟨b, o + k * 5 + 2, none⟩ = some (.int .u8 a.tov) ∧ w.cell? ⟨b, o + k * 5 + 3, none⟩ = some (.slice a.A a.b.length a.c) ∧ w.cell? ⟨b, o + k * 5 + 4, none⟩ = some (.int .i16 a.n)

/-- the disk and the model, new -/
theorem two_start {w0 w1 : World} {L : Lab} {db nb sb : Nat} {r : Int} (hr : 0 ≤ r) (hD : DiskAt w1 L db nb sb (.slice none 0 0) [] [] [] (DV.of r)) (hL : ∀ k, k < w0.heap.size → L k = none) (hb : Below w0.heap.size w0 w1) :
    TwoN w0 (((w1.alloc (.map #[] 0)).alloc (.map #[] 0)).alloc (.cells #[.map (some w1.heap.size), .map (some (w1.heap.size + 1)), .slice none 0 0, .slice none 0 0, .int .i64 r, .int .i64 (-1), .bool false, .int .i64 0] 31)) db (w1.heap.size + 1 + 1) (DV.of r) (DV.of r) := by
  have hbw : ∀ o : Obj, Below w1.heap.size w1 (((w1.alloc (.map #[] 0)).alloc (.map #[] 0)).alloc o) := fun o =>
    (((Below.refl _ _).alloc (Nat.le_refl _) _).alloc (by rw [size_alloc]; omega) _).alloc (by rw [size_alloc, size_alloc]; omega) _
  have hdk := Blk.new ((w1.alloc (.map #[] 0)).alloc (.map #[] 0)) 31 #[.map (some w1.heap.size), .map (some (w1.heap.size + 1)), .slice none 0 0, .slice none 0 0, .int .i64 r, .int .i64 (-1), .bool false, .int .i64 0]
  rw [size_alloc, size_alloc] at hdk
  have hm1 : MapAt Try.prog 9 (((w1.alloc (.map #[] 0)).alloc (.map #[] 0)).alloc (.cells #[.map (some w1.heap.size), .map (some (w1.heap.size + 1)), .slice none 0 0, .slice none 0 0, .int .i64 r, .int .i64 (-1), .bool false, .int .i64 0] 31)) [] w1.heap.size (.map []) :=
    mapAt_of (((World.ownsMap_made w1 Try.prog 9 (fread [])).alloc _).alloc _)
  have hm2 : MapAt Try.prog 9 (((w1.alloc (.map #[] 0)).alloc (.map #[] 0)).alloc (.cells #[.map (some w1.heap.size), .map (some (w1.heap.size + 1)), .slice none 0 0, .slice none 0 0, .int .i64 r, .int .i64 (-1), .bool false, .int .i64 0] 31)) [] (w1.heap.size + 1) (.map []) := by
    have := World.ownsMap_made (w1.alloc (.map #[] 0)) Try.prog 9 (fread [])
    rw [size_alloc] at this
    exact mapAt_of (this.alloc _)
  have hmx : max 0 r = r := by omega
  have hfree : ∀ k, w1.heap.size ≤ k → L k = none := fun k hk => by
    cases e : L k with
    | none => rfl
    | some x => have := hD.dom k (by rw [e]; simp); omega
  refine ⟨L, nb, sb, _, _, _, _, (fun k => if k = w1.heap.size then some .now else if k = w1.heap.size + 1 then some .kept else if k = w1.heap.size + 1 + 1 then some .model else none), w1.heap.size, w1.heap.size + 1, .slice none 0 0, .slice none 0 0, [], [], [], hD.below (hbw _), ?_, fun k hk => ?_, fun k hk => ⟨hL k hk, ?_⟩, hb.trans ((hbw _).mono hb.size)⟩
  · exact {
      dom := fun k hl => by
        rw [size_alloc, size_alloc, size_alloc]
        have hl' : (if k = w1.heap.size then some MLbl.now else if k = w1.heap.size + 1 then some .kept else if k = w1.heap.size + 1 + 1 then some .model else none) ≠ none := hl
        by_cases h1 : k = w1.heap.size
        · omega
        by_cases h2 : k = w1.heap.size + 1
        · omega
        by_cases h3 : k = w1.heap.size + 1 + 1
        · omega
        rw [if_neg h1, if_neg h2, if_neg h3] at hl'
        exact absurd rfl hl'
      lmodel := by
        show (if w1.heap.size + 1 + 1 = w1.heap.size then some MLbl.now else if w1.heap.size + 1 + 1 = w1.heap.size + 1 then some .kept else if w1.heap.size + 1 + 1 = w1.heap.size + 1 + 1 then some .model else none) = _
        rw [if_neg (by omega), if_neg (by omega), if_pos rfl]
      cells := by
        show Blk _ _ _ #[_, _, _, _, .int .i64 (max 0 r), _, _, _]
        rw [hmx]; exact hdk
      lnow := by simp
      lkept := by simp
      now := hm1
      kept := hm2
      hnow := Held.empty _
      hkept := Held.empty _
      nfiles := rfl
      files := fun i f hf => by cases hf
      wait := World.ownsRow_nil _ _ _ _
      lwait := fun g hg => by cases hg
      fwait := World.ownsRow_nil _ _ _ _
      lfwait := fun g hg => by cases hg
      chs := fun i cs hc => by cases hc
      hchs := fun cs hc => by cases hc }
  · have := hD.dom k hk
    show (if k = w1.heap.size then some MLbl.now else if k = w1.heap.size + 1 then some .kept else if k = w1.heap.size + 1 + 1 then some .model else none) = none
    rw [if_neg (by omega), if_neg (by omega), if_neg (by omega)]
  · have := hb.size
    show (if k = w1.heap.size then some MLbl.now else if k = w1.heap.size + 1 then some .kept else if k = w1.heap.size + 1 + 1 then some .model else none) = none
    rw [if_neg (by omega), if_neg (by omega), if_neg (by omega)]

set_option maxRecDepth 100000 in
set_option maxHeartbeats 16000000 in
theorem script_walk (w : World) (av : Option Addr) (cap : Nat) (acts : List ActV) (room : Nat) (hroom : room < 256) (hA : ActsAt w av acts) (hlc : acts.length ≤ cap) (hcm : cap ≤ maxLen) :
    Calls Try.prog 3 #[.slice av acts.length cap, .int .u8 room] w fun e w' => e = .returned (.bool true) ∧ Below w.heap.size w w' := by
  have hmm := @run_makeMap Try.prog
  obtain ⟨len, hlen⟩ : ∃ len, len = acts.length := ⟨_, rfl⟩
  obtain ⟨nn, hnn⟩ : ∃ nn : Nat, min (len : Int) 150 = (nn : Int) := ⟨min len 150, by omega⟩
  have q1 := run_min2 len 150 nn hnn
  have q2 := run_cut_slice 22 (by kernel_rfl) 5 (fun W => by kernel_rfl) av len cap nn (by omega)
  have hr0 : (0 : Int) ≤ (room : Int) := by omega
  have hr1 : (room : Int) ≤ 255 := by omega
  have HA := Lib.hid hA
  have HLEN := Lib.hid hlen
  have HNN := Lib.hid (show nn ≤ len ∧ nn ≤ 150 by omega)
  have hl63 : len ≤ 9223372036854775807 := by unfold maxLen at hcm; omega
  rw [← hlen]
  clear hA hlen hnn hlc hcm hroom
  go_enter Try.func3, Try.ntmps3
  go_wp2_with fail
  refine (awake_any w).mono ?_
  rintro e w1 ⟨rfl, hb1⟩
  have HB1 := Lib.hid hb1
  clear hb1
  go_wp2_with fail
  refine (of_disk w1 _).mono ?_
  rintro e w2 ⟨L, nb, sb, rfl, hD, hL, hb2⟩
  have HD := Lib.hid hD
  have HL := Lib.hid (And.intro hL hb2)
  clear hD hL hb2
  go_wp2
  have h0 := two_start (w0 := w) (by omega) HD.out (fun k hk => HL.out.1 k (Nat.lt_of_lt_of_le hk HB1.out.size)) (HB1.out.trans (HL.out.2.mono HB1.out.size))
  have hI0 : (DV.of ((room : Int) * 4)).Inv names6 0 := DV.Inv.of (by omega)
  generalize (((w2.alloc (.map #[] 0)).alloc (.map #[] 0)).alloc (.cells #[.map (some w2.heap.size), .map (some (w2.heap.size + 1)), .slice none 0 0, .slice none 0 0, .int .i64 ((room : Int) * 4), .int .i64 (-1), .bool false, .int .i64 0] 31)) = ws at *
  generalize w1.heap.size + 2 = db at *
  generalize w2.heap.size + 1 + 1 = mb at *
  have H0 := Lib.hid h0
  have HI0 := Lib.hid hI0
  have HW := Lib.hid hl63
  clear h0 hI0 q1 q2 HD HL HB1 hmm
  go_loopw [35] (fun k wr => ∃ j : Nat, ∃ d : DV, j ≤ nn ∧ k = .int .i64 j ∧ TwoN w wr db mb d d ∧ d.Inv names6 j) (fun k _ => nn - (intOf k).toNat)
  case atStart => exact ⟨0, _, Nat.zero_le _, rfl, H0.out, HI0.out⟩
  case round =>
    obtain ⟨j, d, hj, rfl, hT, hI⟩ := hrel
    by_cases hlt : j < nn
    · have HT := Lib.hid hT
      have HI := Lib.hid hI
      clear hT hI
      obtain ⟨act, hact⟩ : ∃ act, acts[j]? = some act := ⟨_, List.getElem?_eq_getElem (by have := HLEN.out; have := HNN.out; omega)⟩
      obtain ⟨b, o, rfl, hok, a0, a1, a2, a3, a4⟩ := HA.out j act hact
      have hb0 := HT.out.base
      have hkp : ∀ {p : Addr} {v : Value}, w.cell? p = some v → wr.cell? p = some v := fun hc => cell_keep hb0 hc
      have c0 := hkp a0
      have c1 := hkp a1
      have c2 := hkp a2
      have c3 := hkp a3
      have c4 := hkp a4
      have hjn : j ≤ 150 := by have := HNN.out; omega
      obtain ⟨op, nmv, tov, A, cc, bs, n⟩ := act
      simp only at c0 c1 c2 c3 c4
      obtain ⟨h1, h2, h3, h4, h5, h6, h8, h9⟩ := hok
      simp only at h1 h2 h3 h4 h5 h6 h8 h9
      obtain ⟨bl, hbl⟩ : ∃ bl, bl = bs.length := ⟨_, rfl⟩
      obtain ⟨m, hm⟩ : ∃ m : Nat, min (bl : Int) 40 = (m : Int) := ⟨min bl 40, by omega⟩
      have q1 := run_min2 bl 40 m hm
      have q2 := run_cut_slice 32 (by kernel_rfl) 1 (fun W => by kernel_rfl) A bl cc m (by omega)
      have hbl63 : bl ≤ 9223372036854775807 := by unfold maxLen at h9; omega
      have HACT := Lib.hid (show op < 256 ∧ nmv < 256 ∧ tov < 256 ∧ Reads w w.heap.size 1 A m (bcells (bs.take m)) ∧ (0 < m → ∀ ad, A = some ad → ad.block < w.heap.size) ∧ (bs.take m).length = m ∧ m ≤ 40 from by
        have hml : (bs.take m).length = m := by simp; omega
        refine ⟨h1, h2, h3, ⟨by rw [bcells_length, hml]; omega, fun hpos => ?_⟩, fun hpos ad e => by
          obtain ⟨ad', e', hlt, _⟩ := h6.2 (by omega)
          rw [e] at e'; cases e'; exact hlt, hml, by omega⟩
        obtain ⟨ad, e, hlt, hc⟩ := h6.2 (by omega)
        refine ⟨ad, e, hlt, fun i u hu => hc i u ?_⟩
        rw [bcells_take] at hu
        have hi : i < m := by
          rcases Nat.lt_or_ge i m with h' | h'
          · exact h'
          · rw [List.getElem?_eq_none (by simp; omega)] at hu; cases hu
        rwa [List.getElem?_take_of_lt hi] at hu)
      have o0 : (0 : Int) ≤ (op : Int) := by omega
      have o1 : (op : Int) ≤ 255 := by omega
      have t0 : (0 : Int) ≤ (tov : Int) := by omega
      have t1 : (tov : Int) ≤ 255 := by omega
      rw [← hbl] at c3
      have H2 := Lib.hid (HT.out.newBox #[.int .u8 op, .int .u8 nmv, .int .u8 tov, .slice A bl cc, .int .i16 n])
      clear hact a0 a1 a2 a3 a4 hb0 hkp h1 h2 h3 h6 h8 h9 hm hbl
      by_cases hop : 240 ≤ op
      · have hb : decide ((240 : Int) ≤ (op : Int)) = true := by simp; omega
        have hop' : (240 : Int) ≤ (op : Int) := by omega
        clear hop
        go_wp2_with fail
        refine (two_arm H2.out (n.tmod 20)).mono ?_
        rintro e w3 ⟨rfl, h3⟩
        obtain ⟨mnb, e0, e5, f5, e6, e7, elen, _⟩ := two_cells h3
        have b4 : w3.cell? ⟨wr.heap.size, 4, none⟩ = some (.int .i16 n) := (Blk.cell h3.box 4).trans rfl
        have h4 := two_mstop h3 (n.tmod 20)
        have hI4 : (d.arm (n.tmod 20)).Inv names6 (j + 1) := (HI.out.arm (by have := Int.tmod_lt_of_pos n (show (0 : Int) < 20 by decide); omega)).mono (by omega)
        have H4 := Lib.hid h4
        have HI4 := Lib.hid hI4
        clear h3 h4 hI4 e0 e6 e7 elen c0 c1 c2 c3 c4 q1 q2
        go_wp2_with fail
        clear e5 f5 b4
        generalize w3.setCell ⟨mb, 5, none⟩ (.int .i64 (max (-1) (n.tmod 20))) = w4 at *
        generalize d.arm (n.tmod 20) = d4 at *
        obtain ⟨mnb, z, hz, s1, s2, s3, s4, s5, s6, s7⟩ := two_seen H4.out (j + 1) HI4.out (by omega)
        have SC := Lib.hid s1
        have SD := Lib.hid s2
        have SL := Lib.hid s3
        have SU := Lib.hid s4
        have SM := Lib.hid s5
        have SN := Lib.hid s6
        have ST := Lib.hid s7
        have HZ := Lib.hid hz
        obtain ⟨e0, e6, e7, elen⟩ := s1 w4 (Below.refl _ _)
        clear s1 s2 s3 s4 s5 s6 s7 hz
        generalize d4.down = dn at *
        generalize d4.calls = ca at *
        generalize d4.used = us at *
        go_region_held3 (fun w' => w'.cell? ⟨mb, 0, none⟩ = some (.map (some mnb)) ∧ w'.cell? ⟨mb, 6, none⟩ = some (.bool dn) ∧ w'.cell? ⟨mb, 7, none⟩ = some (.int .i64 ca) ∧ (Builtin.len_ #[27] 3 #[.map (some mnb)]).run Try.prog w' = .ok (.int .i64 z) w')
          (first | exact SC.out _ ⟨rfl, rfl, rfl, Nat.le_refl _, fun _ _ => rfl⟩ | exact SC.out _ hb5)
          (first
            | (go_at_call 11; refine (SD.out _ ?_).mono ?_; (first | exact ⟨rfl, rfl, rfl, Nat.le_refl _, fun _ _ => rfl⟩ | exact hb5); rintro e w5 ⟨rfl, rfl⟩)
            | (go_at_call 12; refine (SL.out _ ?_).mono ?_; (first | exact ⟨rfl, rfl, rfl, Nat.le_refl _, fun _ _ => rfl⟩ | exact hb5); rintro e w5 ⟨rfl, rfl⟩)
            | (go_at_call 13; refine (SU.out _ ?_).mono ?_; (first | exact ⟨rfl, rfl, rfl, Nat.le_refl _, fun _ _ => rfl⟩ | exact hb5); rintro e w5 ⟨rfl, hb5⟩)
            | (go_at_call 14; refine (SM.out _ ?_).mono ?_; (first | exact ⟨rfl, rfl, rfl, Nat.le_refl _, fun _ _ => rfl⟩ | exact hb5); rintro e w5 ⟨rfl, hb5⟩)
            | (go_at_call 15; refine (SN.out _ ?_).mono ?_; (first | exact ⟨rfl, rfl, rfl, Nat.le_refl _, fun _ _ => rfl⟩ | exact hb5); rintro e w5 ⟨ao, c, rfl, hb5, -⟩))
        have HB5 := Lib.hid hb5
        rename_i hHeld
        clear hHeld e0 e6 e7 elen SD SL SU SM
        go_wp2_with fail
        refine (SN.out _ HB5.out).mono ?_
        rintro e w6 ⟨ao6, cp6, rfl, hb6, ns, hns, hR6, hsee⟩
        have HB6 := Lib.hid hb6
        have HNS := Lib.hid hns
        have HR6 := Lib.hid hR6
        have HSEE := Lib.hid hsee
        have hz63 : z ≤ 6 := HZ.out
        clear hb6 hns hR6 hsee hb5 SN HB5
        go_wp2_with fail
        go_loopw [10, 136] (fun l k wx => ∃ i : Nat, i ≤ z ∧ l = .string ⟨(lastOf ns i).toArray⟩ ∧ k = .int .i64 i ∧ Below w4.heap.size w4 wx ∧ Below w6.heap.size w6 wx) (fun l k _ => z - (intOf k).toNat)
        case atStart => exact ⟨0, Nat.zero_le _, rfl, rfl, HB6.out, Below.refl _ _⟩
        case round =>
          obtain ⟨i, hi, rfl, rfl, hbx, hbx6⟩ := hrel
          by_cases hiz : i < z
          · have HBX := Lib.hid (And.intro hbx hbx6)
            clear hbx hbx6
            obtain ⟨s, hs⟩ : ∃ s, ns[i]? = some s := ⟨_, List.getElem?_eq_getElem (by rw [HNS.out]; exact hiz)⟩
            obtain ⟨ad, u, rfl, hadlt, hu, hcs⟩ := HR6.out.at_ hiz
            have hu' : u = .string ⟨s.toArray⟩ := by
              rw [List.getElem?_map, hs] at hu
              simpa [encStr] using hu.symm
            subst hu'
            have hcs2 := cell_keep HBX.out.2 hcs
            obtain ⟨hleq, fb, fbs, hfile⟩ := HSEE.out i s hs
            obtain ⟨e0, e6, e7, elen⟩ := SC.out _ HBX.out.1
            obtain ⟨hl1, hf1, -⟩ := hfile _ HBX.out.1
            have HFILE := Lib.hid hfile
            have HLEQ := Lib.hid hleq
            have HS := Lib.hid hs
            clear elen hfile hleq hu hcs hadlt hi e6 e7 hf1
            go_wp2_with fail
            refine ((HFILE.out _ HBX.out.1).2.2).mono ?_
            rintro e w7 ⟨ao7, cp7, xs, er, rfl, hb7, hcv, hcase⟩
            have hb74 := HBX.out.1.trans (hb7.mono HBX.out.1.size)
            have hb76 := HBX.out.2.trans (hb7.mono HBX.out.2.size)
            obtain ⟨e0', e6, -, -⟩ := SC.out _ hb74
            obtain ⟨-, hf1, -⟩ := HFILE.out _ hb74
            have hq1 : Op.bytesLess s (lastOf ns i) = false := by
              have := HLEQ.out; unfold leqB at this; simp only [Bool.or_eq_false_iff] at this; exact this.1
            have hq2 : (s == lastOf ns i) = false := by
              have := HLEQ.out; unfold leqB at this; simp only [Bool.or_eq_false_iff] at this; exact this.2
            have hq3 : ¬ s = lastOf ns i := by simpa using hq2
            have HB7 := Lib.hid (And.intro hb74 hb76)
            clear hb7 hb74 hb76 e0 hl1 e0'
            rcases hcase with ⟨rfl, rfl⟩ | ⟨rfl, rfl, rfl⟩
            · clear hcv hf1
              go_wp2_with fail
              go_quiet (fail)
              go_wp2_with fail
              refine ⟨⟨i + 1, by omega, ?_, by simp, HB7.out.1.trans ⟨rfl, rfl, rfl, Nat.le_refl _, fun _ _ => rfl⟩, HB7.out.2.trans ⟨rfl, rfl, rfl, Nat.le_refl _, fun _ _ => rfl⟩⟩, by simp [intOf]; omega⟩
              rw [show lastOf ns (i + 1) = s from by simp [lastOf, HS.out]]
            · go_wp2_with fail
              go_quiet (fail)
              go_wp2_with fail
              refine ⟨⟨i + 1, by omega, ?_, by simp, HB7.out.1.trans ⟨rfl, rfl, rfl, Nat.le_refl _, fun _ _ => rfl⟩, HB7.out.2.trans ⟨rfl, rfl, rfl, Nat.le_refl _, fun _ _ => rfl⟩⟩, by simp [intOf]; omega⟩
              rw [show lastOf ns (i + 1) = s from by simp [lastOf, HS.out]]
          · obtain rfl : i = z := by omega
            have HB := Lib.hid hbx
            clear hbx hbx6 hi
            go_wp2_with fail
            exact ⟨⟨j + 1, _, by omega, by simp, ST.out _ HB.out, HI4.out⟩, by simp [intOf]; omega⟩
      by_cases hop2 : 225 ≤ op
      · have hb : decide ((240 : Int) ≤ (op : Int)) = false := by simp; omega
        have hb' : decide ((225 : Int) ≤ (op : Int)) = true := by simp; omega
        have hop' : (op : Int) < 240 := by omega
        have hop2' : (225 : Int) ≤ (op : Int) := by omega
        clear hop hop2
        have hby : n.tmod 60 ≤ 1099511627776 := by have := Int.tmod_lt_of_pos n (show (0 : Int) < 60 by decide); omega
        have hwr2 : IntKind.i64.wrap ((tov : Int) % 9 - 1) = (tov : Int) % 9 - 1 := IntWalk.i64_in _ (by omega)
        have HBY := Lib.hid hby
        clear hby
        go_wp2_with fail
        refine (two_restart H2.out j HI.out ((tov : Int) % 9 - 1) (n.tmod 60) HBY.out).mono ?_
        rintro e w3 ⟨rfl, h3⟩
        have b2 : w3.cell? ⟨wr.heap.size, 2, none⟩ = some (.int .u8 tov) := (Blk.cell h3.box 2).trans rfl
        have b4 : w3.cell? ⟨wr.heap.size, 4, none⟩ = some (.int .i16 n) := (Blk.cell h3.box 4).trans rfl
        have H3 := Lib.hid h3
        clear h3
        go_wp2_with fail
        refine (two_mrestart H3.out j HI.out ((tov : Int) % 9 - 1) (n.tmod 60) HBY.out).mono ?_
        rintro e w4 ⟨rfl, h4⟩
        have H4 := Lib.hid h4
        have HI4 := Lib.hid ((HI.out.restart ((tov : Int) % 9 - 1) (n.tmod 60)).mono (show j ≤ j + 1 by omega))
        clear h4 b2 b4 hwr2 c0 c1 c2 c3 c4 q1 q2
        go_wp2_with fail
        generalize d.restart ((tov : Int) % 9 - 1) (n.tmod 60) = d4 at *
        obtain ⟨mnb, z, hz, s1, s2, s3, s4, s5, s6, s7⟩ := two_seen H4.out (j + 1) HI4.out (by omega)
        have SC := Lib.hid s1
        have SD := Lib.hid s2
        have SL := Lib.hid s3
        have SU := Lib.hid s4
        have SM := Lib.hid s5
        have SN := Lib.hid s6
        have ST := Lib.hid s7
        have HZ := Lib.hid hz
        obtain ⟨e0, e6, e7, elen⟩ := s1 w4 (Below.refl _ _)
        clear s1 s2 s3 s4 s5 s6 s7 hz
        generalize d4.down = dn at *
        generalize d4.calls = ca at *
        generalize d4.used = us at *
        go_region_held3 (fun w' => w'.cell? ⟨mb, 0, none⟩ = some (.map (some mnb)) ∧ w'.cell? ⟨mb, 6, none⟩ = some (.bool dn) ∧ w'.cell? ⟨mb, 7, none⟩ = some (.int .i64 ca) ∧ (Builtin.len_ #[27] 3 #[.map (some mnb)]).run Try.prog w' = .ok (.int .i64 z) w')
          (first | exact SC.out _ ⟨rfl, rfl, rfl, Nat.le_refl _, fun _ _ => rfl⟩ | exact SC.out _ hb5)
          (first
            | (go_at_call 11; refine (SD.out _ ?_).mono ?_; (first | exact ⟨rfl, rfl, rfl, Nat.le_refl _, fun _ _ => rfl⟩ | exact hb5); rintro e w5 ⟨rfl, rfl⟩)
            | (go_at_call 12; refine (SL.out _ ?_).mono ?_; (first | exact ⟨rfl, rfl, rfl, Nat.le_refl _, fun _ _ => rfl⟩ | exact hb5); rintro e w5 ⟨rfl, rfl⟩)
            | (go_at_call 13; refine (SU.out _ ?_).mono ?_; (first | exact ⟨rfl, rfl, rfl, Nat.le_refl _, fun _ _ => rfl⟩ | exact hb5); rintro e w5 ⟨rfl, hb5⟩)
            | (go_at_call 14; refine (SM.out _ ?_).mono ?_; (first | exact ⟨rfl, rfl, rfl, Nat.le_refl _, fun _ _ => rfl⟩ | exact hb5); rintro e w5 ⟨rfl, hb5⟩)
            | (go_at_call 15; refine (SN.out _ ?_).mono ?_; (first | exact ⟨rfl, rfl, rfl, Nat.le_refl _, fun _ _ => rfl⟩ | exact hb5); rintro e w5 ⟨ao, c, rfl, hb5, -⟩))
        have HB5 := Lib.hid hb5
        rename_i hHeld
        clear hHeld e0 e6 e7 elen SD SL SU SM
        go_wp2_with fail
        refine (SN.out _ HB5.out).mono ?_
        rintro e w6 ⟨ao6, cp6, rfl, hb6, ns, hns, hR6, hsee⟩
        have HB6 := Lib.hid hb6
        have HNS := Lib.hid hns
        have HR6 := Lib.hid hR6
        have HSEE := Lib.hid hsee
        have hz63 : z ≤ 6 := HZ.out
        clear hb6 hns hR6 hsee hb5 SN HB5
        go_wp2_with fail
        go_loopw [10, 136] (fun l k wx => ∃ i : Nat, i ≤ z ∧ l = .string ⟨(lastOf ns i).toArray⟩ ∧ k = .int .i64 i ∧ Below w4.heap.size w4 wx ∧ Below w6.heap.size w6 wx) (fun l k _ => z - (intOf k).toNat)
        case atStart => exact ⟨0, Nat.zero_le _, rfl, rfl, HB6.out, Below.refl _ _⟩
        case round =>
          obtain ⟨i, hi, rfl, rfl, hbx, hbx6⟩ := hrel
          by_cases hiz : i < z
          · have HBX := Lib.hid (And.intro hbx hbx6)
            clear hbx hbx6
            obtain ⟨s, hs⟩ : ∃ s, ns[i]? = some s := ⟨_, List.getElem?_eq_getElem (by rw [HNS.out]; exact hiz)⟩
            obtain ⟨ad, u, rfl, hadlt, hu, hcs⟩ := HR6.out.at_ hiz
            have hu' : u = .string ⟨s.toArray⟩ := by
              rw [List.getElem?_map, hs] at hu
              simpa [encStr] using hu.symm
            subst hu'
            have hcs2 := cell_keep HBX.out.2 hcs
            obtain ⟨hleq, fb, fbs, hfile⟩ := HSEE.out i s hs
            obtain ⟨e0, e6, e7, elen⟩ := SC.out _ HBX.out.1
            obtain ⟨hl1, hf1, -⟩ := hfile _ HBX.out.1
            have HFILE := Lib.hid hfile
            have HLEQ := Lib.hid hleq
            have HS := Lib.hid hs
            clear elen hfile hleq hu hcs hadlt hi e6 e7 hf1
            go_wp2_with fail
            refine ((HFILE.out _ HBX.out.1).2.2).mono ?_
            rintro e w7 ⟨ao7, cp7, xs, er, rfl, hb7, hcv, hcase⟩
            have hb74 := HBX.out.1.trans (hb7.mono HBX.out.1.size)
            have hb76 := HBX.out.2.trans (hb7.mono HBX.out.2.size)
            obtain ⟨e0', e6, -, -⟩ := SC.out _ hb74
            obtain ⟨-, hf1, -⟩ := HFILE.out _ hb74
            have hq1 : Op.bytesLess s (lastOf ns i) = false := by
              have := HLEQ.out; unfold leqB at this; simp only [Bool.or_eq_false_iff] at this; exact this.1
            have hq2 : (s == lastOf ns i) = false := by
              have := HLEQ.out; unfold leqB at this; simp only [Bool.or_eq_false_iff] at this; exact this.2
            have hq3 : ¬ s = lastOf ns i := by simpa using hq2
            have HB7 := Lib.hid (And.intro hb74 hb76)
            clear hb7 hb74 hb76 e0 hl1 e0'
            rcases hcase with ⟨rfl, rfl⟩ | ⟨rfl, rfl, rfl⟩
            · clear hcv hf1
              go_wp2_with fail
              go_quiet (fail)
              go_wp2_with fail
              refine ⟨⟨i + 1, by omega, ?_, by simp, HB7.out.1.trans ⟨rfl, rfl, rfl, Nat.le_refl _, fun _ _ => rfl⟩, HB7.out.2.trans ⟨rfl, rfl, rfl, Nat.le_refl _, fun _ _ => rfl⟩⟩, by simp [intOf]; omega⟩
              rw [show lastOf ns (i + 1) = s from by simp [lastOf, HS.out]]
            · go_wp2_with fail
              go_quiet (fail)
              go_wp2_with fail
              refine ⟨⟨i + 1, by omega, ?_, by simp, HB7.out.1.trans ⟨rfl, rfl, rfl, Nat.le_refl _, fun _ _ => rfl⟩, HB7.out.2.trans ⟨rfl, rfl, rfl, Nat.le_refl _, fun _ _ => rfl⟩⟩, by simp [intOf]; omega⟩
              rw [show lastOf ns (i + 1) = s from by simp [lastOf, HS.out]]
          · obtain rfl : i = z := by omega
            have HB := Lib.hid hbx
            clear hbx hbx6 hi
            go_wp2_with fail
            exact ⟨⟨j + 1, _, by omega, by simp, ST.out _ HB.out, HI4.out⟩, by simp [intOf]; omega⟩
      · have hb : decide ((240 : Int) ≤ (op : Int)) = false := by simp; omega
        have hb' : decide ((225 : Int) ≤ (op : Int)) = false := by simp; omega
        have hop' : (op : Int) < 240 := by omega
        have hop2' : (op : Int) < 225 := by omega
        clear hop hop2
        obtain ⟨g1, g2, g3, g4, g5, g6, g7⟩ := HACT.out
        obtain ⟨d4, rv, hdr⟩ : ∃ d4 rv, d.act (op % 12) (nm (nmv % 6)) (nm (tov % 6)) n (bs.take m) = (d4, rv) := ⟨_, _, rfl⟩
        have hI4 : d4.Inv names6 (j + 1) := by
          have := HI.out.act (op % 12) (nm_mem nmv) (nm_mem tov) n (bs.take m)
          rw [hdr] at this; exact this
        have hdo : ∀ V : World, Two w V db mb wr.heap.size #[.int .u8 op, .int .u8 nmv, .int .u8 tov, .slice A bl cc, .int .i16 n] d d → Calls Try.prog 9 #[.pointer (some ⟨db, 0, none⟩), .agg #[.int .u8 op, .int .u8 nmv, .int .u8 tov, .slice A bl cc, .int .i16 n], .slice A m cc] V fun e w' => e = .returned (.int .i64 rv) ∧ Two w w' db mb wr.heap.size #[.int .u8 op, .int .u8 nmv, .int .u8 tov, .slice A bl cc, .int .i16 n] d4 d := fun V hV => by
          have h8 := two_do hV op nmv tov g1 g2 g3 n h4 h5 A bl cc A cc (bs.take m) (by omega) j HI.out (by omega) (by rw [g6]; exact g4) (by rw [g6]; exact g5)
          rw [hdr, g6] at h8
          exact h8
        have hmdo : ∀ V : World, Two w V db mb wr.heap.size #[.int .u8 op, .int .u8 nmv, .int .u8 tov, .slice A bl cc, .int .i16 n] d4 d → Calls Try.prog 10 #[.pointer (some ⟨mb, 0, none⟩), .agg #[.int .u8 op, .int .u8 nmv, .int .u8 tov, .slice A bl cc, .int .i16 n], .slice A m cc] V fun e w' => e = .returned (.int .i64 rv) ∧ Two w w' db mb wr.heap.size #[.int .u8 op, .int .u8 nmv, .int .u8 tov, .slice A bl cc, .int .i16 n] d4 d4 := fun V hV => by
          have h8 := two_mdo hV op nmv tov g1 g2 g3 n h4 h5 A bl cc A cc (bs.take m) (by omega) j HI.out (by omega) (by rw [g6]; exact g4) (by rw [g6]; exact g5)
          rw [hdr, g6] at h8
          exact h8
        have hbox : ∀ (V : World) (x y : DV), Two w V db mb wr.heap.size #[.int .u8 op, .int .u8 nmv, .int .u8 tov, .slice A bl cc, .int .i16 n] x y → V.cell? ⟨wr.heap.size, 0, none⟩ = some (.int .u8 op) ∧ V.cell? ⟨wr.heap.size, 1, none⟩ = some (.int .u8 nmv) ∧ V.cell? ⟨wr.heap.size, 2, none⟩ = some (.int .u8 tov) ∧ V.cell? ⟨wr.heap.size, 3, none⟩ = some (.slice A bl cc) ∧ V.cell? ⟨wr.heap.size, 4, none⟩ = some (.int .i16 n) := fun V x y hV =>
          ⟨(Blk.cell hV.box 0).trans rfl, (Blk.cell hV.box 1).trans rfl, (Blk.cell hV.box 2).trans rfl, (Blk.cell hV.box 3).trans rfl, (Blk.cell hV.box 4).trans rfl⟩
        have HDO := Lib.hid hdo
        have HMDO := Lib.hid hmdo
        have HBOX := Lib.hid hbox
        have HI4 := Lib.hid hI4
        have HDR := Lib.hid hdr
        clear g1 g2 g3 g4 g5 g6 g7 hdo hmdo hbox hI4 hdr
        go_wp2_with fail
        clear c0 c1 c2 c3 c4 q1 q2
        go_region_held3 (fun w' => w'.cell? ⟨wr.heap.size, 0, none⟩ = some (.int .u8 op) ∧ w'.cell? ⟨wr.heap.size, 1, none⟩ = some (.int .u8 nmv) ∧ w'.cell? ⟨wr.heap.size, 2, none⟩ = some (.int .u8 tov) ∧ w'.cell? ⟨wr.heap.size, 3, none⟩ = some (.slice A bl cc) ∧ w'.cell? ⟨wr.heap.size, 4, none⟩ = some (.int .i16 n))
          (first | exact HBOX.out _ _ _ (H2.out.below ⟨rfl, rfl, rfl, Nat.le_refl _, fun _ _ => rfl⟩) | exact HBOX.out _ _ _ h3)
          (first
            | (go_at_call 9; refine (HDO.out _ ?_).mono ?_; (exact H2.out.below ⟨rfl, rfl, rfl, Nat.le_refl _, fun _ _ => rfl⟩); rintro e w3 ⟨rfl, h3⟩)
            | (go_at_call 10; refine (HMDO.out _ ?_).mono ?_; (exact h3); rintro e w4 ⟨rfl, h3⟩))
        have H4 := Lib.hid h3
        rename_i h30 hh1 hh2
        clear hh2 h3
        go_wp2_with fail
        obtain ⟨mnb, z, hz, s1, s2, s3, s4, s5, s6, s7⟩ := two_seen H4.out (j + 1) HI4.out (by omega)
        have SC := Lib.hid s1
        have SD := Lib.hid s2
        have SL := Lib.hid s3
        have SU := Lib.hid s4
        have SM := Lib.hid s5
        have SN := Lib.hid s6
        have ST := Lib.hid s7
        have HZ := Lib.hid hz
        obtain ⟨e0, e6, e7, elen⟩ := s1 w4 (Below.refl _ _)
        clear s1 s2 s3 s4 s5 s6 s7 hz
        generalize d4.down = dn at *
        generalize d4.calls = ca at *
        generalize d4.used = us at *
        go_region_held3 (fun w' => w'.cell? ⟨mb, 0, none⟩ = some (.map (some mnb)) ∧ w'.cell? ⟨mb, 6, none⟩ = some (.bool dn) ∧ w'.cell? ⟨mb, 7, none⟩ = some (.int .i64 ca) ∧ (Builtin.len_ #[27] 3 #[.map (some mnb)]).run Try.prog w' = .ok (.int .i64 z) w')
          (first | exact SC.out _ ⟨rfl, rfl, rfl, Nat.le_refl _, fun _ _ => rfl⟩ | exact SC.out _ hb5)
          (first
            | (go_at_call 11; refine (SD.out _ ?_).mono ?_; (first | exact ⟨rfl, rfl, rfl, Nat.le_refl _, fun _ _ => rfl⟩ | exact hb5); rintro e w5 ⟨rfl, rfl⟩)
            | (go_at_call 12; refine (SL.out _ ?_).mono ?_; (first | exact ⟨rfl, rfl, rfl, Nat.le_refl _, fun _ _ => rfl⟩ | exact hb5); rintro e w5 ⟨rfl, rfl⟩)
            | (go_at_call 13; refine (SU.out _ ?_).mono ?_; (first | exact ⟨rfl, rfl, rfl, Nat.le_refl _, fun _ _ => rfl⟩ | exact hb5); rintro e w5 ⟨rfl, hb5⟩)
            | (go_at_call 14; refine (SM.out _ ?_).mono ?_; (first | exact ⟨rfl, rfl, rfl, Nat.le_refl _, fun _ _ => rfl⟩ | exact hb5); rintro e w5 ⟨rfl, hb5⟩)
            | (go_at_call 15; refine (SN.out _ ?_).mono ?_; (first | exact ⟨rfl, rfl, rfl, Nat.le_refl _, fun _ _ => rfl⟩ | exact hb5); rintro e w5 ⟨ao, c, rfl, hb5, -⟩))
        have HB5 := Lib.hid hb5
        rename_i hHeld
        clear hHeld e0 e6 e7 elen SD SL SU SM
        go_wp2_with fail
        refine (SN.out _ HB5.out).mono ?_
        rintro e w6 ⟨ao6, cp6, rfl, hb6, ns, hns, hR6, hsee⟩
        have HB6 := Lib.hid hb6
        have HNS := Lib.hid hns
        have HR6 := Lib.hid hR6
        have HSEE := Lib.hid hsee
        have hz63 : z ≤ 6 := HZ.out
        clear hb6 hns hR6 hsee hb5 SN HB5
        go_wp2_with fail
        go_loopw [10, 136] (fun l k wx => ∃ i : Nat, i ≤ z ∧ l = .string ⟨(lastOf ns i).toArray⟩ ∧ k = .int .i64 i ∧ Below w4.heap.size w4 wx ∧ Below w6.heap.size w6 wx) (fun l k _ => z - (intOf k).toNat)
        case atStart => exact ⟨0, Nat.zero_le _, rfl, rfl, HB6.out, Below.refl _ _⟩
        case round =>
          obtain ⟨i, hi, rfl, rfl, hbx, hbx6⟩ := hrel
          by_cases hiz : i < z
          · have HBX := Lib.hid (And.intro hbx hbx6)
            clear hbx hbx6
            obtain ⟨s, hs⟩ : ∃ s, ns[i]? = some s := ⟨_, List.getElem?_eq_getElem (by rw [HNS.out]; exact hiz)⟩
            obtain ⟨ad, u, rfl, hadlt, hu, hcs⟩ := HR6.out.at_ hiz
            have hu' : u = .string ⟨s.toArray⟩ := by
              rw [List.getElem?_map, hs] at hu
              simpa [encStr] using hu.symm
            subst hu'
            have hcs2 := cell_keep HBX.out.2 hcs
            obtain ⟨hleq, fb, fbs, hfile⟩ := HSEE.out i s hs
            obtain ⟨e0, e6, e7, elen⟩ := SC.out _ HBX.out.1
            obtain ⟨hl1, hf1, -⟩ := hfile _ HBX.out.1
            have HFILE := Lib.hid hfile
            have HLEQ := Lib.hid hleq
            have HS := Lib.hid hs
            clear elen hfile hleq hu hcs hadlt hi e6 e7 hf1
            go_wp2_with fail
            refine ((HFILE.out _ HBX.out.1).2.2).mono ?_
            rintro e w7 ⟨ao7, cp7, xs, er, rfl, hb7, hcv, hcase⟩
            have hb74 := HBX.out.1.trans (hb7.mono HBX.out.1.size)
            have hb76 := HBX.out.2.trans (hb7.mono HBX.out.2.size)
            obtain ⟨e0', e6, -, -⟩ := SC.out _ hb74
            obtain ⟨-, hf1, -⟩ := HFILE.out _ hb74
            have hq1 : Op.bytesLess s (lastOf ns i) = false := by
              have := HLEQ.out; unfold leqB at this; simp only [Bool.or_eq_false_iff] at this; exact this.1
            have hq2 : (s == lastOf ns i) = false := by
              have := HLEQ.out; unfold leqB at this; simp only [Bool.or_eq_false_iff] at this; exact this.2
            have hq3 : ¬ s = lastOf ns i := by simpa using hq2
            have HB7 := Lib.hid (And.intro hb74 hb76)
            clear hb7 hb74 hb76 e0 hl1 e0'
            rcases hcase with ⟨rfl, rfl⟩ | ⟨rfl, rfl, rfl⟩
            · clear hcv hf1
              go_wp2_with fail
              go_quiet (fail)
              go_wp2_with fail
              refine ⟨⟨i + 1, by omega, ?_, by simp, HB7.out.1.trans ⟨rfl, rfl, rfl, Nat.le_refl _, fun _ _ => rfl⟩, HB7.out.2.trans ⟨rfl, rfl, rfl, Nat.le_refl _, fun _ _ => rfl⟩⟩, by simp [intOf]; omega⟩
              rw [show lastOf ns (i + 1) = s from by simp [lastOf, HS.out]]
            · go_wp2_with fail
              go_quiet (fail)
              go_wp2_with fail
              refine ⟨⟨i + 1, by omega, ?_, by simp, HB7.out.1.trans ⟨rfl, rfl, rfl, Nat.le_refl _, fun _ _ => rfl⟩, HB7.out.2.trans ⟨rfl, rfl, rfl, Nat.le_refl _, fun _ _ => rfl⟩⟩, by simp [intOf]; omega⟩
              rw [show lastOf ns (i + 1) = s from by simp [lastOf, HS.out]]
          · obtain rfl : i = z := by omega
            have HB := Lib.hid hbx
            clear hbx hbx6 hi
            go_wp2_with fail
            exact ⟨⟨j + 1, _, by omega, by simp, ST.out _ HB.out, HI4.out⟩, by simp [intOf]; omega⟩
    · obtain rfl : j = nn := by omega
      have HT := Lib.hid hT
      clear hT hI
      go_wp2_with fail
      go_ret
      exact ⟨rfl, HT.out.base⟩
end Go.Proofs.Ytombehaaaojhdaa
