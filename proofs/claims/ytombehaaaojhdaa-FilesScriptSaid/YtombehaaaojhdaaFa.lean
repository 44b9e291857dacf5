/- awake: the document's examples on files -/
import Derived.Test.YtombehaaaojhdaaMd
import Derived.Test.YtombehaaaojhdaaMf
import Derived.Lib.SlBytesConst
set_option linter.unusedVariables false
namespace Go.Proofs.Ytombehaaaojhdaa
open Go.Maps Go.RowKit

def sx : Nm := [120]
def sabc : List UInt8 := [97, 98, 99]
def da0 : DV := DV.of 100
def da1 : DV := (da0.create sx).1
def da2 : DV := (da1.append sx sabc).1
def da3 : DV := da2.syncDir.1
def da4 : DV := da3.restart 0 2
theorem ra1 : (da0.create sx).2 = 0 := by kernel_rfl
theorem ra2 : (da1.append sx sabc).2 = 0 := by kernel_rfl
theorem ra3 : da2.syncDir.2 = 0 := by kernel_rfl
theorem ra4 : da4.read sx = ([97, 98], 0) := by kernel_rfl
theorem ra5 : da4.calls = 3 := by kernel_rfl
def nx : List Nm := [sx]
theorem ia0 : da0.Inv nx 0 := DV.Inv.of (by decide)
theorem ia1 : da1.Inv nx 1 := ia0.create (List.mem_cons_self ..)
theorem ia2 : da2.Inv nx 2 := ia1.append sabc
theorem ia3 : da3.Inv nx 3 := ia2.syncDir
theorem ia4 : da4.Inv nx 3 := ia3.restart 0 2
theorem nx_len : nx.length ≤ 64 := by decide
theorem nx_max : ∀ s ∈ nx, s.length ≤ maxLen := by
  intro s hs
  simp [nx, sx] at hs
  subst hs
  unfold maxLen; decide

theorem turned_below {L L' : Lab} {w w1 w' : World} (hb : Below w.heap.size w w1) (hL : ∀ k, k < w.heap.size → L k = none) (h : Turned L L' w1 w') : Below w.heap.size w w' :=
  ⟨h.os.trans hb.os, h.tape.trans hb.tape, h.output.trans hb.output, Nat.le_trans hb.size h.size, fun k hk => (h.block k (Nat.lt_of_lt_of_le hk hb.size) (hL k hk)).trans (hb.block k hk)⟩

set_option maxHeartbeats 4000000 in
theorem awake_any (w : World) : Calls Try.prog 4 #[] w fun e w' => e = .returned (.bool true) ∧ Below w.heap.size w w' := by
  have hxe : (⟨sx.toArray⟩ : ByteArray) = ⟨#[120]⟩ := rfl
  have hcv : ∀ (W : World), (convert 32 32 (.slice (some ⟨W.heap.size, 0, none⟩) 3 3)).run Try.prog (W.alloc (.cells #[.int .u8 97, .int .u8 98, .int .u8 99] 5)) = .ok (.slice (some ⟨W.heap.size, 0, none⟩) 3 3) (W.alloc (.cells #[.int .u8 97, .int .u8 98, .int .u8 99] 5 (3, 4))) :=
    fun W => Lib.run_convert_bytes_const (P := Try.prog) W 32 5 #[.int .u8 97, .int .u8 98, .int .u8 99] 3 3 Try.underlying32 Try.underlying5
  go_enter Try.func4, Try.ntmps4
  go_wp2_with fail
  refine (of_disk w 100).mono ?_
  rintro e w1 ⟨L1, nb1, sb1, rfl, hD1, hL1, hb1⟩
  have H1 := Lib.hid hD1
  have HB1 := Lib.hid (And.intro hL1 hb1)
  clear hD1 hL1 hb1
  go_wp2_with fail
  have hc := create_disk w1 L1 (w.heap.size + 2) nb1 sb1 _ _ _ _ da0 H1.out (ia0.ok nx_len (by omega)) (Nat.le_trans ia0.size nx_len) (Nat.le_trans ia0.calls (by omega)) sx (nx_max _ (List.mem_cons_self ..))
  rw [ra1] at hc
  refine hc.mono ?_
  clear hc
  rintro e w2 ⟨rfl, L2, nb2, sb2, wv2, φ2, fv2, cv2, hD2, hT2⟩
  have H2 := Lib.hid (hD2.below ((Below.refl _ w2).alloc (Nat.le_refl _) (.cells #[.int .u8 97, .int .u8 98, .int .u8 99] 5 (3, 4))))
  have HT2 := Lib.hid (And.intro hT2 (Turned.below (L := L2) ((Below.refl _ w2).alloc (Nat.le_refl _) (.cells #[.int .u8 97, .int .u8 98, .int .u8 99] 5 (3, 4)))))
  have HL2 := Lib.hid (show L2 w2.heap.size = none by
    cases e : L2 w2.heap.size with
    | none => rfl
    | some x => have := hD2.dom w2.heap.size (by rw [e]; simp); omega)
  clear hD2 hT2
  go_wp2_with fail
  have hc := append_disk _ L2 (w.heap.size + 2) nb2 sb2 wv2 φ2 fv2 cv2 da1 H2.out (ia1.ok nx_len (by omega)) (by have := used_le ia1; have h2 := ia1.room1; have h3 : (nx.length : Int) = 1 := rfl; rw [h3] at this; omega) (Nat.le_trans ia1.calls (by omega)) sx (nx_max _ (List.mem_cons_self ..))
    (some ⟨w2.heap.size, 0, none⟩) 3 sabc ⟨rfl, fun _ => ⟨_, rfl, by rw [size_alloc]; exact Nat.lt_succ_self _, fun j u hj => by
      rw [show (⟨w2.heap.size, 0, none⟩ : Addr).add j = ⟨w2.heap.size, j, none⟩ by unfold Addr.add; split <;> simp_all, cell_of_row _ w2.heap.size j #[.int .u8 97, .int .u8 98, .int .u8 99] 5 (3, 4) (heap_alloc_new w2 _)]
      rw [show bcells sabc = [.int .u8 97, .int .u8 98, .int .u8 99] by rfl] at hj
      simpa using hj⟩⟩ (fun _ ad e => by cases e; exact HL2.out) (by decide)
  rw [ra2] at hc
  refine hc.mono ?_
  clear hc
  rintro e w3 ⟨rfl, L3, nb3, sb3, wv3, φ3, fv3, cv3, hD3, hT3⟩
  have H3 := Lib.hid hD3
  have HT3 := Lib.hid hT3
  clear hD3 hT3
  go_wp2_with fail
  have hc := syncDir_disk w3 L3 (w.heap.size + 2) nb3 sb3 wv3 φ3 fv3 cv3 da2 H3.out (ia2.ok nx_len (by omega)) (Nat.le_trans ia2.calls (by omega))
  rw [ra3] at hc
  refine hc.mono ?_
  clear hc
  rintro e w4 ⟨rfl, L4, nb4, sb4, wv4, φ4, fv4, cv4, hD4, hT4⟩
  have H4 := Lib.hid hD4
  have HT4 := Lib.hid hT4
  clear hD4 hT4
  go_wp2_with fail
  refine (restart_disk w4 L4 (w.heap.size + 2) nb4 sb4 wv4 φ4 fv4 cv4 da3 H4.out nx 3 ia3 nx_len nx_max 0 2 (by omega)).mono ?_
  rintro e w5 ⟨rfl, L5, nb5, sb5, wv5, φ5, fv5, cv5, hD5, hT5⟩
  have H5 := Lib.hid hD5
  have HT5 := Lib.hid hT5
  clear hD5 hT5
  go_wp2_with fail
  have hc := read_disk w5 L5 (w.heap.size + 2) nb5 sb5 wv5 φ5 fv5 cv5 da4 H5.out (ia4.ok nx_len (by omega)) sx (nx_max _ (List.mem_cons_self ..))
  rw [ra4] at hc
  refine hc.mono ?_
  clear hc
  rintro e w6 ⟨ao, c, rfl, hR, hB6⟩
  have hconv : (convert 32 9 (.slice ao 2 c)).run Try.prog w6 = .ok (.string ⟨#[97, 98]⟩) w6 := run_convert_reads w6 _ ao c [97, 98] hR
  have hcalls : ∀ V, V = w6 → Calls Try.prog 12 #[.pointer (some ⟨w.heap.size + 2, 0, none⟩)] V fun e w' => e = .returned (.int .i64 3) ∧ w' = w6 := fun V hV => by
    subst hV
    have := calls_disk V L5 (w.heap.size + 2) nb5 sb5 wv5 φ5 fv5 cv5 da4 (H5.out.below hB6)
    rw [ra5] at this
    exact this
  have HCALLS := Lib.hid hcalls
  have HB6 := Lib.hid hB6
  clear hcalls hR hB6
  go_wp2_with fail
  refine (HCALLS.out _ rfl).mono ?_
  rintro e w7 ⟨rfl, rfl⟩
  go_wp2
  go_ret
  exact ⟨rfl, turned_below HB1.out.2 HB1.out.1 (((((HT2.out.1.trans HT2.out.2).trans HT3.out).trans HT4.out).trans HT5.out).trans (Turned.below HB6.out))⟩
end Go.Proofs.Ytombehaaaojhdaa
