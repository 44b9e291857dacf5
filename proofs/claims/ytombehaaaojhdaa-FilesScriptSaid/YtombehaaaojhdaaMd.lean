/- Do: a deed of a disk (printed by wip/gen_do.py) -/
import Derived.Test.YtombehaaaojhdaaMn
set_option linter.unusedVariables false
namespace Go.Proofs.Ytombehaaaojhdaa
open Go.Maps Go.RowKit

/-- a deed -/
def DV.act (d : DV) (q : Nat) (s t : Nm) (n : Int) (b : List UInt8) : DV × Int :=
  if q = 0 ∨ q = 1 then d.create s else
  if q = 3 then d.cut s n else
  if q = 4 ∨ q = 9 then d.sync s else
  if q = 5 then d.syncDir else
  if q = 6 then d.rename s t else
  if q = 10 ∨ q = 11 then d.remove s else d.append s b

theorem DV.Inv.act {N : List Nm} {k : Nat} {d : DV} (h : d.Inv N k) (q : Nat) {s t : Nm} (hs : s ∈ N) (ht : t ∈ N) (n : Int) (b : List UInt8) : (d.act q s t n b).1.Inv N (k + 1) := by
  unfold DV.act
  split
  · exact h.create hs
  split
  · exact h.cut n
  split
  · exact h.sync
  split
  · exact h.syncDir
  split
  · exact h.rename hs ht
  split
  · exact h.remove hs
  · exact h.append b

theorem used_small {k : Nat} {d : DV} (h : d.Inv names6 k) : d.used ≤ 1099511627776 := by
  have h1 := used_le h
  have h2 := h.room1
  have h3 : (names6.length : Int) = 6 := rfl
  rw [h3] at h1
  omega

def actVal (op nmv tov : Nat) (V : Value) (n : Int) : Value := .agg #[.int .u8 op, .int .u8 nmv, .int .u8 tov, V, .int .i16 n]

section
variable (w : World) (L : Lab) (db nb sb : Nat) (wv : Value) (φ : List Nat) (fv cv : List Value) (d : DV) (h : DiskAt w L db nb sb wv φ fv cv d) (k : Nat) (hI : d.Inv names6 k) (hk : k ≤ 1099511627775)
  (op nmv tov : Nat) (hop : op < 256) (hnm : nmv < 256) (hto : tov < 256) (n : Int) (hn0 : -32768 ≤ n) (hn1 : n ≤ 32767) (va : Option Addr) (vl vc : Nat)
  (A : Option Addr) (cc : Nat) (bs : List UInt8) (hr : Reads w w.heap.size 1 A bs.length (bcells bs)) (hsep : 0 < bs.length → ∀ ad, A = some ad → L ad.block = none) (hbs : bs.length ≤ 1099511627776)
include h hI hk hop hnm hto hn0 hn1 hr hsep hbs


set_option maxHeartbeats 2000000 in
theorem do_disk0 (hq : op % 12 = 0) :
    Calls Try.prog 9 #[.pointer (some ⟨db, 0, none⟩), actVal op nmv tov (.slice va vl vc) n, .slice A bs.length cc] w fun e w' => e = .returned (.int .i64 (d.act 0 (nm (nmv % 6)) (nm (tov % 6)) n bs).2) ∧ DiskTo w L db (d.act 0 (nm (nmv % 6)) (nm (tov % 6)) n bs).1 w' := by
  have hq' : (op : Int) % 12 = 0 := by omega
  have HN0 := Lib.hid (And.intro hn0 hn1)
  have h0 : (0 : Int) ≤ (op : Int) := by omega
  have h1 : (op : Int) ≤ 255 := by omega
  have h2 : (0 : Int) ≤ (nmv : Int) := by omega
  have h3 : (nmv : Int) ≤ 255 := by omega
  have h4 : (0 : Int) ≤ (tov : Int) := by omega
  have h5 : (tov : Int) ≤ 255 := by omega
  have hb := fun o => (Below.refl w.heap.size w).alloc (Nat.le_refl _) o
  have HD := Lib.hid (h.below (hb (.cells #[.int .u8 op, .int .u8 nmv, .int .u8 tov, .slice va vl vc, .int .i16 n] 35)))
  have HOK := Lib.hid (hI.ok names6_len (by omega))
  have HSZ := Lib.hid (Nat.le_trans hI.size names6_len)
  have HC := Lib.hid (show d.calls ≤ 1099511627776 from Nat.le_trans hI.calls (by omega))
  have HNM := Lib.hid (nm_max _ (nm_mem nmv))
  have HTO := Lib.hid (nm_max _ (nm_mem tov))
  have HU := Lib.hid (used_small hI)
  have HR := Lib.hid ((hr.alloc (Nat.le_refl _) (.cells #[.int .u8 op, .int .u8 nmv, .int .u8 tov, .slice va vl vc, .int .i16 n] 35)).more (B' := (w.alloc (.cells #[.int .u8 op, .int .u8 nmv, .int .u8 tov, .slice va vl vc, .int .i16 n] 35)).heap.size) (hb _).size)
  have HSEP := Lib.hid hsep
  have HBS := Lib.hid hbs
  have HT := Lib.hid (Turned.below (L := L) (hb (.cells #[.int .u8 op, .int .u8 nmv, .int .u8 tov, .slice va vl vc, .int .i16 n] 35)))
  have HA := Lib.hid (show d.act 0 (nm (nmv % 6)) (nm (tov % 6)) n bs = d.create (nm (nmv % 6)) from rfl)
  have HNV := Lib.hid hnm
  have HTV := Lib.hid hto
  clear h hI hk hop hnm hto hr hsep hbs hq hb
  unfold actVal
  go_enter Try.func9, Try.ntmps9
  go_wp2_with fail
  refine (name_any _ nmv HNV.out).mono ?_
  rintro e w1 ⟨rfl, rfl⟩
  go_wp2_with fail
  refine (create_disk _ L db nb sb wv φ fv cv d HD.out HOK.out HSZ.out HC.out _ HNM.out).mono ?_
  rintro e w2 ⟨rfl, hD⟩
  have HX := Lib.hid hD
  clear hD
  go_wp2
  go_ret
  exact ⟨by rw [HA.out]; rfl, by rw [HA.out]; exact HX.out.trans2 HT.out⟩

set_option maxHeartbeats 2000000 in
theorem do_disk1 (hq : op % 12 = 1) :
    Calls Try.prog 9 #[.pointer (some ⟨db, 0, none⟩), actVal op nmv tov (.slice va vl vc) n, .slice A bs.length cc] w fun e w' => e = .returned (.int .i64 (d.act 1 (nm (nmv % 6)) (nm (tov % 6)) n bs).2) ∧ DiskTo w L db (d.act 1 (nm (nmv % 6)) (nm (tov % 6)) n bs).1 w' := by
  have hq' : (op : Int) % 12 = 1 := by omega
  have HN0 := Lib.hid (And.intro hn0 hn1)
  have h0 : (0 : Int) ≤ (op : Int) := by omega
  have h1 : (op : Int) ≤ 255 := by omega
  have h2 : (0 : Int) ≤ (nmv : Int) := by omega
  have h3 : (nmv : Int) ≤ 255 := by omega
  have h4 : (0 : Int) ≤ (tov : Int) := by omega
  have h5 : (tov : Int) ≤ 255 := by omega
  have hb := fun o => (Below.refl w.heap.size w).alloc (Nat.le_refl _) o
  have HD := Lib.hid (h.below (hb (.cells #[.int .u8 op, .int .u8 nmv, .int .u8 tov, .slice va vl vc, .int .i16 n] 35)))
  have HOK := Lib.hid (hI.ok names6_len (by omega))
  have HSZ := Lib.hid (Nat.le_trans hI.size names6_len)
  have HC := Lib.hid (show d.calls ≤ 1099511627776 from Nat.le_trans hI.calls (by omega))
  have HNM := Lib.hid (nm_max _ (nm_mem nmv))
  have HTO := Lib.hid (nm_max _ (nm_mem tov))
  have HU := Lib.hid (used_small hI)
  have HR := Lib.hid ((hr.alloc (Nat.le_refl _) (.cells #[.int .u8 op, .int .u8 nmv, .int .u8 tov, .slice va vl vc, .int .i16 n] 35)).more (B' := (w.alloc (.cells #[.int .u8 op, .int .u8 nmv, .int .u8 tov, .slice va vl vc, .int .i16 n] 35)).heap.size) (hb _).size)
  have HSEP := Lib.hid hsep
  have HBS := Lib.hid hbs
  have HT := Lib.hid (Turned.below (L := L) (hb (.cells #[.int .u8 op, .int .u8 nmv, .int .u8 tov, .slice va vl vc, .int .i16 n] 35)))
  have HA := Lib.hid (show d.act 1 (nm (nmv % 6)) (nm (tov % 6)) n bs = d.create (nm (nmv % 6)) from rfl)
  have HNV := Lib.hid hnm
  have HTV := Lib.hid hto
  clear h hI hk hop hnm hto hr hsep hbs hq hb
  unfold actVal
  go_enter Try.func9, Try.ntmps9
  go_wp2_with fail
  refine (name_any _ nmv HNV.out).mono ?_
  rintro e w1 ⟨rfl, rfl⟩
  go_wp2_with fail
  refine (create_disk _ L db nb sb wv φ fv cv d HD.out HOK.out HSZ.out HC.out _ HNM.out).mono ?_
  rintro e w2 ⟨rfl, hD⟩
  have HX := Lib.hid hD
  clear hD
  go_wp2
  go_ret
  exact ⟨by rw [HA.out]; rfl, by rw [HA.out]; exact HX.out.trans2 HT.out⟩

set_option maxHeartbeats 2000000 in
theorem do_disk2 (hq : op % 12 = 2) :
    Calls Try.prog 9 #[.pointer (some ⟨db, 0, none⟩), actVal op nmv tov (.slice va vl vc) n, .slice A bs.length cc] w fun e w' => e = .returned (.int .i64 (d.act 2 (nm (nmv % 6)) (nm (tov % 6)) n bs).2) ∧ DiskTo w L db (d.act 2 (nm (nmv % 6)) (nm (tov % 6)) n bs).1 w' := by
  have hq' : (op : Int) % 12 = 2 := by omega
  have HN0 := Lib.hid (And.intro hn0 hn1)
  have h0 : (0 : Int) ≤ (op : Int) := by omega
  have h1 : (op : Int) ≤ 255 := by omega
  have h2 : (0 : Int) ≤ (nmv : Int) := by omega
  have h3 : (nmv : Int) ≤ 255 := by omega
  have h4 : (0 : Int) ≤ (tov : Int) := by omega
  have h5 : (tov : Int) ≤ 255 := by omega
  have hb := fun o => (Below.refl w.heap.size w).alloc (Nat.le_refl _) o
  have HD := Lib.hid (h.below (hb (.cells #[.int .u8 op, .int .u8 nmv, .int .u8 tov, .slice va vl vc, .int .i16 n] 35)))
  have HOK := Lib.hid (hI.ok names6_len (by omega))
  have HSZ := Lib.hid (Nat.le_trans hI.size names6_len)
  have HC := Lib.hid (show d.calls ≤ 1099511627776 from Nat.le_trans hI.calls (by omega))
  have HNM := Lib.hid (nm_max _ (nm_mem nmv))
  have HTO := Lib.hid (nm_max _ (nm_mem tov))
  have HU := Lib.hid (used_small hI)
  have HR := Lib.hid ((hr.alloc (Nat.le_refl _) (.cells #[.int .u8 op, .int .u8 nmv, .int .u8 tov, .slice va vl vc, .int .i16 n] 35)).more (B' := (w.alloc (.cells #[.int .u8 op, .int .u8 nmv, .int .u8 tov, .slice va vl vc, .int .i16 n] 35)).heap.size) (hb _).size)
  have HSEP := Lib.hid hsep
  have HBS := Lib.hid hbs
  have HT := Lib.hid (Turned.below (L := L) (hb (.cells #[.int .u8 op, .int .u8 nmv, .int .u8 tov, .slice va vl vc, .int .i16 n] 35)))
  have HA := Lib.hid (show d.act 2 (nm (nmv % 6)) (nm (tov % 6)) n bs = d.append (nm (nmv % 6)) bs from rfl)
  have HNV := Lib.hid hnm
  have HTV := Lib.hid hto
  clear h hI hk hop hnm hto hr hsep hbs hq hb
  unfold actVal
  go_enter Try.func9, Try.ntmps9
  go_wp2_with fail
  refine (name_any _ nmv HNV.out).mono ?_
  rintro e w1 ⟨rfl, rfl⟩
  go_wp2_with fail
  refine (append_disk _ L db nb sb wv φ fv cv d HD.out HOK.out HU.out HC.out _ HNM.out A cc bs HR.out HSEP.out HBS.out).mono ?_
  rintro e w2 ⟨rfl, hD⟩
  have HX := Lib.hid hD
  clear hD
  go_wp2
  go_ret
  exact ⟨by rw [HA.out]; rfl, by rw [HA.out]; exact HX.out.trans2 HT.out⟩

set_option maxHeartbeats 2000000 in
theorem do_disk3 (hq : op % 12 = 3) :
    Calls Try.prog 9 #[.pointer (some ⟨db, 0, none⟩), actVal op nmv tov (.slice va vl vc) n, .slice A bs.length cc] w fun e w' => e = .returned (.int .i64 (d.act 3 (nm (nmv % 6)) (nm (tov % 6)) n bs).2) ∧ DiskTo w L db (d.act 3 (nm (nmv % 6)) (nm (tov % 6)) n bs).1 w' := by
  have hq' : (op : Int) % 12 = 3 := by omega
  have HN0 := Lib.hid (And.intro hn0 hn1)
  have h0 : (0 : Int) ≤ (op : Int) := by omega
  have h1 : (op : Int) ≤ 255 := by omega
  have h2 : (0 : Int) ≤ (nmv : Int) := by omega
  have h3 : (nmv : Int) ≤ 255 := by omega
  have h4 : (0 : Int) ≤ (tov : Int) := by omega
  have h5 : (tov : Int) ≤ 255 := by omega
  have hb := fun o => (Below.refl w.heap.size w).alloc (Nat.le_refl _) o
  have HD := Lib.hid (h.below (hb (.cells #[.int .u8 op, .int .u8 nmv, .int .u8 tov, .slice va vl vc, .int .i16 n] 35)))
  have HOK := Lib.hid (hI.ok names6_len (by omega))
  have HSZ := Lib.hid (Nat.le_trans hI.size names6_len)
  have HC := Lib.hid (show d.calls ≤ 1099511627776 from Nat.le_trans hI.calls (by omega))
  have HNM := Lib.hid (nm_max _ (nm_mem nmv))
  have HTO := Lib.hid (nm_max _ (nm_mem tov))
  have HU := Lib.hid (used_small hI)
  have HR := Lib.hid ((hr.alloc (Nat.le_refl _) (.cells #[.int .u8 op, .int .u8 nmv, .int .u8 tov, .slice va vl vc, .int .i16 n] 35)).more (B' := (w.alloc (.cells #[.int .u8 op, .int .u8 nmv, .int .u8 tov, .slice va vl vc, .int .i16 n] 35)).heap.size) (hb _).size)
  have HSEP := Lib.hid hsep
  have HBS := Lib.hid hbs
  have HT := Lib.hid (Turned.below (L := L) (hb (.cells #[.int .u8 op, .int .u8 nmv, .int .u8 tov, .slice va vl vc, .int .i16 n] 35)))
  have HA := Lib.hid (show d.act 3 (nm (nmv % 6)) (nm (tov % 6)) n bs = d.cut (nm (nmv % 6)) n from rfl)
  have HNV := Lib.hid hnm
  have HTV := Lib.hid hto
  clear h hI hk hop hnm hto hr hsep hbs hq hb
  unfold actVal
  go_enter Try.func9, Try.ntmps9
  go_wp2_with fail
  refine (name_any _ nmv HNV.out).mono ?_
  rintro e w1 ⟨rfl, rfl⟩
  go_wp2_with fail
  refine (cut_disk _ L db nb sb wv φ fv cv d HD.out HOK.out HC.out _ HNM.out n).mono ?_
  rintro e w2 ⟨rfl, hD⟩
  have HX := Lib.hid hD
  clear hD
  go_wp2
  go_ret
  exact ⟨by rw [HA.out]; rfl, by rw [HA.out]; exact HX.out.trans2 HT.out⟩

set_option maxHeartbeats 2000000 in
theorem do_disk4 (hq : op % 12 = 4) :
    Calls Try.prog 9 #[.pointer (some ⟨db, 0, none⟩), actVal op nmv tov (.slice va vl vc) n, .slice A bs.length cc] w fun e w' => e = .returned (.int .i64 (d.act 4 (nm (nmv % 6)) (nm (tov % 6)) n bs).2) ∧ DiskTo w L db (d.act 4 (nm (nmv % 6)) (nm (tov % 6)) n bs).1 w' := by
  have hq' : (op : Int) % 12 = 4 := by omega
  have HN0 := Lib.hid (And.intro hn0 hn1)
  have h0 : (0 : Int) ≤ (op : Int) := by omega
  have h1 : (op : Int) ≤ 255 := by omega
  have h2 : (0 : Int) ≤ (nmv : Int) := by omega
  have h3 : (nmv : Int) ≤ 255 := by omega
  have h4 : (0 : Int) ≤ (tov : Int) := by omega
  have h5 : (tov : Int) ≤ 255 := by omega
  have hb := fun o => (Below.refl w.heap.size w).alloc (Nat.le_refl _) o
  have HD := Lib.hid (h.below (hb (.cells #[.int .u8 op, .int .u8 nmv, .int .u8 tov, .slice va vl vc, .int .i16 n] 35)))
  have HOK := Lib.hid (hI.ok names6_len (by omega))
  have HSZ := Lib.hid (Nat.le_trans hI.size names6_len)
  have HC := Lib.hid (show d.calls ≤ 1099511627776 from Nat.le_trans hI.calls (by omega))
  have HNM := Lib.hid (nm_max _ (nm_mem nmv))
  have HTO := Lib.hid (nm_max _ (nm_mem tov))
  have HU := Lib.hid (used_small hI)
  have HR := Lib.hid ((hr.alloc (Nat.le_refl _) (.cells #[.int .u8 op, .int .u8 nmv, .int .u8 tov, .slice va vl vc, .int .i16 n] 35)).more (B' := (w.alloc (.cells #[.int .u8 op, .int .u8 nmv, .int .u8 tov, .slice va vl vc, .int .i16 n] 35)).heap.size) (hb _).size)
  have HSEP := Lib.hid hsep
  have HBS := Lib.hid hbs
  have HT := Lib.hid (Turned.below (L := L) (hb (.cells #[.int .u8 op, .int .u8 nmv, .int .u8 tov, .slice va vl vc, .int .i16 n] 35)))
  have HA := Lib.hid (show d.act 4 (nm (nmv % 6)) (nm (tov % 6)) n bs = d.sync (nm (nmv % 6)) from rfl)
  have HNV := Lib.hid hnm
  have HTV := Lib.hid hto
  clear h hI hk hop hnm hto hr hsep hbs hq hb
  unfold actVal
  go_enter Try.func9, Try.ntmps9
  go_wp2_with fail
  refine (name_any _ nmv HNV.out).mono ?_
  rintro e w1 ⟨rfl, rfl⟩
  go_wp2_with fail
  refine (sync_disk _ L db nb sb wv φ fv cv d HD.out HOK.out HC.out _ HNM.out).mono ?_
  rintro e w2 ⟨rfl, hD⟩
  have HX := Lib.hid hD
  clear hD
  go_wp2
  go_ret
  exact ⟨by rw [HA.out]; rfl, by rw [HA.out]; exact HX.out.trans2 HT.out⟩

set_option maxHeartbeats 2000000 in
theorem do_disk5 (hq : op % 12 = 5) :
    Calls Try.prog 9 #[.pointer (some ⟨db, 0, none⟩), actVal op nmv tov (.slice va vl vc) n, .slice A bs.length cc] w fun e w' => e = .returned (.int .i64 (d.act 5 (nm (nmv % 6)) (nm (tov % 6)) n bs).2) ∧ DiskTo w L db (d.act 5 (nm (nmv % 6)) (nm (tov % 6)) n bs).1 w' := by
  have hq' : (op : Int) % 12 = 5 := by omega
  have HN0 := Lib.hid (And.intro hn0 hn1)
  have h0 : (0 : Int) ≤ (op : Int) := by omega
  have h1 : (op : Int) ≤ 255 := by omega
  have h2 : (0 : Int) ≤ (nmv : Int) := by omega
  have h3 : (nmv : Int) ≤ 255 := by omega
  have h4 : (0 : Int) ≤ (tov : Int) := by omega
  have h5 : (tov : Int) ≤ 255 := by omega
  have hb := fun o => (Below.refl w.heap.size w).alloc (Nat.le_refl _) o
  have HD := Lib.hid (h.below (hb (.cells #[.int .u8 op, .int .u8 nmv, .int .u8 tov, .slice va vl vc, .int .i16 n] 35)))
  have HOK := Lib.hid (hI.ok names6_len (by omega))
  have HSZ := Lib.hid (Nat.le_trans hI.size names6_len)
  have HC := Lib.hid (show d.calls ≤ 1099511627776 from Nat.le_trans hI.calls (by omega))
  have HNM := Lib.hid (nm_max _ (nm_mem nmv))
  have HTO := Lib.hid (nm_max _ (nm_mem tov))
  have HU := Lib.hid (used_small hI)
  have HR := Lib.hid ((hr.alloc (Nat.le_refl _) (.cells #[.int .u8 op, .int .u8 nmv, .int .u8 tov, .slice va vl vc, .int .i16 n] 35)).more (B' := (w.alloc (.cells #[.int .u8 op, .int .u8 nmv, .int .u8 tov, .slice va vl vc, .int .i16 n] 35)).heap.size) (hb _).size)
  have HSEP := Lib.hid hsep
  have HBS := Lib.hid hbs
  have HT := Lib.hid (Turned.below (L := L) (hb (.cells #[.int .u8 op, .int .u8 nmv, .int .u8 tov, .slice va vl vc, .int .i16 n] 35)))
  have HA := Lib.hid (show d.act 5 (nm (nmv % 6)) (nm (tov % 6)) n bs = d.syncDir from rfl)
  have HNV := Lib.hid hnm
  have HTV := Lib.hid hto
  clear h hI hk hop hnm hto hr hsep hbs hq hb
  unfold actVal
  go_enter Try.func9, Try.ntmps9
  go_wp2_with fail
  refine (name_any _ nmv HNV.out).mono ?_
  rintro e w1 ⟨rfl, rfl⟩
  go_wp2_with fail
  refine (syncDir_disk _ L db nb sb wv φ fv cv d HD.out HOK.out HC.out).mono ?_
  rintro e w2 ⟨rfl, hD⟩
  have HX := Lib.hid hD
  clear hD
  go_wp2
  go_ret
  exact ⟨by rw [HA.out]; rfl, by rw [HA.out]; exact HX.out.trans2 HT.out⟩

set_option maxHeartbeats 2000000 in
theorem do_disk6 (hq : op % 12 = 6) :
    Calls Try.prog 9 #[.pointer (some ⟨db, 0, none⟩), actVal op nmv tov (.slice va vl vc) n, .slice A bs.length cc] w fun e w' => e = .returned (.int .i64 (d.act 6 (nm (nmv % 6)) (nm (tov % 6)) n bs).2) ∧ DiskTo w L db (d.act 6 (nm (nmv % 6)) (nm (tov % 6)) n bs).1 w' := by
  have hq' : (op : Int) % 12 = 6 := by omega
  have HN0 := Lib.hid (And.intro hn0 hn1)
  have h0 : (0 : Int) ≤ (op : Int) := by omega
  have h1 : (op : Int) ≤ 255 := by omega
  have h2 : (0 : Int) ≤ (nmv : Int) := by omega
  have h3 : (nmv : Int) ≤ 255 := by omega
  have h4 : (0 : Int) ≤ (tov : Int) := by omega
  have h5 : (tov : Int) ≤ 255 := by omega
  have hb := fun o => (Below.refl w.heap.size w).alloc (Nat.le_refl _) o
  have HD := Lib.hid (h.below (hb (.cells #[.int .u8 op, .int .u8 nmv, .int .u8 tov, .slice va vl vc, .int .i16 n] 35)))
  have HOK := Lib.hid (hI.ok names6_len (by omega))
  have HSZ := Lib.hid (Nat.le_trans hI.size names6_len)
  have HC := Lib.hid (show d.calls ≤ 1099511627776 from Nat.le_trans hI.calls (by omega))
  have HNM := Lib.hid (nm_max _ (nm_mem nmv))
  have HTO := Lib.hid (nm_max _ (nm_mem tov))
  have HU := Lib.hid (used_small hI)
  have HR := Lib.hid ((hr.alloc (Nat.le_refl _) (.cells #[.int .u8 op, .int .u8 nmv, .int .u8 tov, .slice va vl vc, .int .i16 n] 35)).more (B' := (w.alloc (.cells #[.int .u8 op, .int .u8 nmv, .int .u8 tov, .slice va vl vc, .int .i16 n] 35)).heap.size) (hb _).size)
  have HSEP := Lib.hid hsep
  have HBS := Lib.hid hbs
  have HT := Lib.hid (Turned.below (L := L) (hb (.cells #[.int .u8 op, .int .u8 nmv, .int .u8 tov, .slice va vl vc, .int .i16 n] 35)))
  have HA := Lib.hid (show d.act 6 (nm (nmv % 6)) (nm (tov % 6)) n bs = d.rename (nm (nmv % 6)) (nm (tov % 6)) from rfl)
  have HNV := Lib.hid hnm
  have HTV := Lib.hid hto
  clear h hI hk hop hnm hto hr hsep hbs hq hb
  unfold actVal
  go_enter Try.func9, Try.ntmps9
  go_wp2_with fail
  refine (name_any _ nmv HNV.out).mono ?_
  rintro e w1 ⟨rfl, rfl⟩
  go_wp2_with fail
  refine (name_any _ tov HTV.out).mono ?_
  rintro e w1 ⟨rfl, rfl⟩
  go_wp2_with fail
  refine (rename_disk _ L db nb sb wv φ fv cv d HD.out HOK.out HSZ.out HC.out _ _ HNM.out HTO.out).mono ?_
  rintro e w2 ⟨rfl, hD⟩
  have HX := Lib.hid hD
  clear hD
  go_wp2
  go_ret
  exact ⟨by rw [HA.out]; rfl, by rw [HA.out]; exact HX.out.trans2 HT.out⟩

set_option maxHeartbeats 2000000 in
theorem do_disk7 (hq : op % 12 = 7) :
    Calls Try.prog 9 #[.pointer (some ⟨db, 0, none⟩), actVal op nmv tov (.slice va vl vc) n, .slice A bs.length cc] w fun e w' => e = .returned (.int .i64 (d.act 7 (nm (nmv % 6)) (nm (tov % 6)) n bs).2) ∧ DiskTo w L db (d.act 7 (nm (nmv % 6)) (nm (tov % 6)) n bs).1 w' := by
  have hq' : (op : Int) % 12 = 7 := by omega
  have HN0 := Lib.hid (And.intro hn0 hn1)
  have h0 : (0 : Int) ≤ (op : Int) := by omega
  have h1 : (op : Int) ≤ 255 := by omega
  have h2 : (0 : Int) ≤ (nmv : Int) := by omega
  have h3 : (nmv : Int) ≤ 255 := by omega
  have h4 : (0 : Int) ≤ (tov : Int) := by omega
  have h5 : (tov : Int) ≤ 255 := by omega
  have hb := fun o => (Below.refl w.heap.size w).alloc (Nat.le_refl _) o
  have HD := Lib.hid (h.below (hb (.cells #[.int .u8 op, .int .u8 nmv, .int .u8 tov, .slice va vl vc, .int .i16 n] 35)))
  have HOK := Lib.hid (hI.ok names6_len (by omega))
  have HSZ := Lib.hid (Nat.le_trans hI.size names6_len)
  have HC := Lib.hid (show d.calls ≤ 1099511627776 from Nat.le_trans hI.calls (by omega))
  have HNM := Lib.hid (nm_max _ (nm_mem nmv))
  have HTO := Lib.hid (nm_max _ (nm_mem tov))
  have HU := Lib.hid (used_small hI)
  have HR := Lib.hid ((hr.alloc (Nat.le_refl _) (.cells #[.int .u8 op, .int .u8 nmv, .int .u8 tov, .slice va vl vc, .int .i16 n] 35)).more (B' := (w.alloc (.cells #[.int .u8 op, .int .u8 nmv, .int .u8 tov, .slice va vl vc, .int .i16 n] 35)).heap.size) (hb _).size)
  have HSEP := Lib.hid hsep
  have HBS := Lib.hid hbs
  have HT := Lib.hid (Turned.below (L := L) (hb (.cells #[.int .u8 op, .int .u8 nmv, .int .u8 tov, .slice va vl vc, .int .i16 n] 35)))
  have HA := Lib.hid (show d.act 7 (nm (nmv % 6)) (nm (tov % 6)) n bs = d.append (nm (nmv % 6)) bs from rfl)
  have HNV := Lib.hid hnm
  have HTV := Lib.hid hto
  clear h hI hk hop hnm hto hr hsep hbs hq hb
  unfold actVal
  go_enter Try.func9, Try.ntmps9
  go_wp2_with fail
  refine (name_any _ nmv HNV.out).mono ?_
  rintro e w1 ⟨rfl, rfl⟩
  go_wp2_with fail
  refine (append_disk _ L db nb sb wv φ fv cv d HD.out HOK.out HU.out HC.out _ HNM.out A cc bs HR.out HSEP.out HBS.out).mono ?_
  rintro e w2 ⟨rfl, hD⟩
  have HX := Lib.hid hD
  clear hD
  go_wp2
  go_ret
  exact ⟨by rw [HA.out]; rfl, by rw [HA.out]; exact HX.out.trans2 HT.out⟩

set_option maxHeartbeats 2000000 in
theorem do_disk8 (hq : op % 12 = 8) :
    Calls Try.prog 9 #[.pointer (some ⟨db, 0, none⟩), actVal op nmv tov (.slice va vl vc) n, .slice A bs.length cc] w fun e w' => e = .returned (.int .i64 (d.act 8 (nm (nmv % 6)) (nm (tov % 6)) n bs).2) ∧ DiskTo w L db (d.act 8 (nm (nmv % 6)) (nm (tov % 6)) n bs).1 w' := by
  have hq' : (op : Int) % 12 = 8 := by omega
  have HN0 := Lib.hid (And.intro hn0 hn1)
  have h0 : (0 : Int) ≤ (op : Int) := by omega
  have h1 : (op : Int) ≤ 255 := by omega
  have h2 : (0 : Int) ≤ (nmv : Int) := by omega
  have h3 : (nmv : Int) ≤ 255 := by omega
  have h4 : (0 : Int) ≤ (tov : Int) := by omega
  have h5 : (tov : Int) ≤ 255 := by omega
  have hb := fun o => (Below.refl w.heap.size w).alloc (Nat.le_refl _) o
  have HD := Lib.hid (h.below (hb (.cells #[.int .u8 op, .int .u8 nmv, .int .u8 tov, .slice va vl vc, .int .i16 n] 35)))
  have HOK := Lib.hid (hI.ok names6_len (by omega))
  have HSZ := Lib.hid (Nat.le_trans hI.size names6_len)
  have HC := Lib.hid (show d.calls ≤ 1099511627776 from Nat.le_trans hI.calls (by omega))
  have HNM := Lib.hid (nm_max _ (nm_mem nmv))
  have HTO := Lib.hid (nm_max _ (nm_mem tov))
  have HU := Lib.hid (used_small hI)
  have HR := Lib.hid ((hr.alloc (Nat.le_refl _) (.cells #[.int .u8 op, .int .u8 nmv, .int .u8 tov, .slice va vl vc, .int .i16 n] 35)).more (B' := (w.alloc (.cells #[.int .u8 op, .int .u8 nmv, .int .u8 tov, .slice va vl vc, .int .i16 n] 35)).heap.size) (hb _).size)
  have HSEP := Lib.hid hsep
  have HBS := Lib.hid hbs
  have HT := Lib.hid (Turned.below (L := L) (hb (.cells #[.int .u8 op, .int .u8 nmv, .int .u8 tov, .slice va vl vc, .int .i16 n] 35)))
  have HA := Lib.hid (show d.act 8 (nm (nmv % 6)) (nm (tov % 6)) n bs = d.append (nm (nmv % 6)) bs from rfl)
  have HNV := Lib.hid hnm
  have HTV := Lib.hid hto
  clear h hI hk hop hnm hto hr hsep hbs hq hb
  unfold actVal
  go_enter Try.func9, Try.ntmps9
  go_wp2_with fail
  refine (name_any _ nmv HNV.out).mono ?_
  rintro e w1 ⟨rfl, rfl⟩
  go_wp2_with fail
  refine (append_disk _ L db nb sb wv φ fv cv d HD.out HOK.out HU.out HC.out _ HNM.out A cc bs HR.out HSEP.out HBS.out).mono ?_
  rintro e w2 ⟨rfl, hD⟩
  have HX := Lib.hid hD
  clear hD
  go_wp2
  go_ret
  exact ⟨by rw [HA.out]; rfl, by rw [HA.out]; exact HX.out.trans2 HT.out⟩

set_option maxHeartbeats 2000000 in
theorem do_disk9 (hq : op % 12 = 9) :
    Calls Try.prog 9 #[.pointer (some ⟨db, 0, none⟩), actVal op nmv tov (.slice va vl vc) n, .slice A bs.length cc] w fun e w' => e = .returned (.int .i64 (d.act 9 (nm (nmv % 6)) (nm (tov % 6)) n bs).2) ∧ DiskTo w L db (d.act 9 (nm (nmv % 6)) (nm (tov % 6)) n bs).1 w' := by
  have hq' : (op : Int) % 12 = 9 := by omega
  have HN0 := Lib.hid (And.intro hn0 hn1)
  have h0 : (0 : Int) ≤ (op : Int) := by omega
  have h1 : (op : Int) ≤ 255 := by omega
  have h2 : (0 : Int) ≤ (nmv : Int) := by omega
  have h3 : (nmv : Int) ≤ 255 := by omega
  have h4 : (0 : Int) ≤ (tov : Int) := by omega
  have h5 : (tov : Int) ≤ 255 := by omega
  have hb := fun o => (Below.refl w.heap.size w).alloc (Nat.le_refl _) o
  have HD := Lib.hid (h.below (hb (.cells #[.int .u8 op, .int .u8 nmv, .int .u8 tov, .slice va vl vc, .int .i16 n] 35)))
  have HOK := Lib.hid (hI.ok names6_len (by omega))
  have HSZ := Lib.hid (Nat.le_trans hI.size names6_len)
  have HC := Lib.hid (show d.calls ≤ 1099511627776 from Nat.le_trans hI.calls (by omega))
  have HNM := Lib.hid (nm_max _ (nm_mem nmv))
  have HTO := Lib.hid (nm_max _ (nm_mem tov))
  have HU := Lib.hid (used_small hI)
  have HR := Lib.hid ((hr.alloc (Nat.le_refl _) (.cells #[.int .u8 op, .int .u8 nmv, .int .u8 tov, .slice va vl vc, .int .i16 n] 35)).more (B' := (w.alloc (.cells #[.int .u8 op, .int .u8 nmv, .int .u8 tov, .slice va vl vc, .int .i16 n] 35)).heap.size) (hb _).size)
  have HSEP := Lib.hid hsep
  have HBS := Lib.hid hbs
  have HT := Lib.hid (Turned.below (L := L) (hb (.cells #[.int .u8 op, .int .u8 nmv, .int .u8 tov, .slice va vl vc, .int .i16 n] 35)))
  have HA := Lib.hid (show d.act 9 (nm (nmv % 6)) (nm (tov % 6)) n bs = d.sync (nm (nmv % 6)) from rfl)
  have HNV := Lib.hid hnm
  have HTV := Lib.hid hto
  clear h hI hk hop hnm hto hr hsep hbs hq hb
  unfold actVal
  go_enter Try.func9, Try.ntmps9
  go_wp2_with fail
  refine (name_any _ nmv HNV.out).mono ?_
  rintro e w1 ⟨rfl, rfl⟩
  go_wp2_with fail
  refine (sync_disk _ L db nb sb wv φ fv cv d HD.out HOK.out HC.out _ HNM.out).mono ?_
  rintro e w2 ⟨rfl, hD⟩
  have HX := Lib.hid hD
  clear hD
  go_wp2
  go_ret
  exact ⟨by rw [HA.out]; rfl, by rw [HA.out]; exact HX.out.trans2 HT.out⟩

set_option maxHeartbeats 2000000 in
theorem do_disk10 (hq : op % 12 = 10) :
    Calls Try.prog 9 #[.pointer (some ⟨db, 0, none⟩), actVal op nmv tov (.slice va vl vc) n, .slice A bs.length cc] w fun e w' => e = .returned (.int .i64 (d.act 10 (nm (nmv % 6)) (nm (tov % 6)) n bs).2) ∧ DiskTo w L db (d.act 10 (nm (nmv % 6)) (nm (tov % 6)) n bs).1 w' := by
  have hq' : (op : Int) % 12 = 10 := by omega
  have HN0 := Lib.hid (And.intro hn0 hn1)
  have h0 : (0 : Int) ≤ (op : Int) := by omega
  have h1 : (op : Int) ≤ 255 := by omega
  have h2 : (0 : Int) ≤ (nmv : Int) := by omega
  have h3 : (nmv : Int) ≤ 255 := by omega
  have h4 : (0 : Int) ≤ (tov : Int) := by omega
  have h5 : (tov : Int) ≤ 255 := by omega
  have hb := fun o => (Below.refl w.heap.size w).alloc (Nat.le_refl _) o
  have HD := Lib.hid (h.below (hb (.cells #[.int .u8 op, .int .u8 nmv, .int .u8 tov, .slice va vl vc, .int .i16 n] 35)))
  have HOK := Lib.hid (hI.ok names6_len (by omega))
  have HSZ := Lib.hid (Nat.le_trans hI.size names6_len)
  have HC := Lib.hid (show d.calls ≤ 1099511627776 from Nat.le_trans hI.calls (by omega))
  have HNM := Lib.hid (nm_max _ (nm_mem nmv))
  have HTO := Lib.hid (nm_max _ (nm_mem tov))
  have HU := Lib.hid (used_small hI)
  have HR := Lib.hid ((hr.alloc (Nat.le_refl _) (.cells #[.int .u8 op, .int .u8 nmv, .int .u8 tov, .slice va vl vc, .int .i16 n] 35)).more (B' := (w.alloc (.cells #[.int .u8 op, .int .u8 nmv, .int .u8 tov, .slice va vl vc, .int .i16 n] 35)).heap.size) (hb _).size)
  have HSEP := Lib.hid hsep
  have HBS := Lib.hid hbs
  have HT := Lib.hid (Turned.below (L := L) (hb (.cells #[.int .u8 op, .int .u8 nmv, .int .u8 tov, .slice va vl vc, .int .i16 n] 35)))
  have HA := Lib.hid (show d.act 10 (nm (nmv % 6)) (nm (tov % 6)) n bs = d.remove (nm (nmv % 6)) from rfl)
  have HNV := Lib.hid hnm
  have HTV := Lib.hid hto
  clear h hI hk hop hnm hto hr hsep hbs hq hb
  unfold actVal
  go_enter Try.func9, Try.ntmps9
  go_wp2_with fail
  refine (name_any _ nmv HNV.out).mono ?_
  rintro e w1 ⟨rfl, rfl⟩
  go_wp2_with fail
  refine (remove_disk _ L db nb sb wv φ fv cv d HD.out HOK.out HSZ.out HC.out _ HNM.out).mono ?_
  rintro e w2 ⟨rfl, hD⟩
  have HX := Lib.hid hD
  clear hD
  go_wp2
  go_ret
  exact ⟨by rw [HA.out]; rfl, by rw [HA.out]; exact HX.out.trans2 HT.out⟩

set_option maxHeartbeats 2000000 in
theorem do_disk11 (hq : op % 12 = 11) :
    Calls Try.prog 9 #[.pointer (some ⟨db, 0, none⟩), actVal op nmv tov (.slice va vl vc) n, .slice A bs.length cc] w fun e w' => e = .returned (.int .i64 (d.act 11 (nm (nmv % 6)) (nm (tov % 6)) n bs).2) ∧ DiskTo w L db (d.act 11 (nm (nmv % 6)) (nm (tov % 6)) n bs).1 w' := by
  have hq' : (op : Int) % 12 = 11 := by omega
  have HN0 := Lib.hid (And.intro hn0 hn1)
  have h0 : (0 : Int) ≤ (op : Int) := by omega
  have h1 : (op : Int) ≤ 255 := by omega
  have h2 : (0 : Int) ≤ (nmv : Int) := by omega
  have h3 : (nmv : Int) ≤ 255 := by omega
  have h4 : (0 : Int) ≤ (tov : Int) := by omega
  have h5 : (tov : Int) ≤ 255 := by omega
  have hb := fun o => (Below.refl w.heap.size w).alloc (Nat.le_refl _) o
  have HD := Lib.hid (h.below (hb (.cells #[.int .u8 op, .int .u8 nmv, .int .u8 tov, .slice va vl vc, .int .i16 n] 35)))
  have HOK := Lib.hid (hI.ok names6_len (by omega))
  have HSZ := Lib.hid (Nat.le_trans hI.size names6_len)
  have HC := Lib.hid (show d.calls ≤ 1099511627776 from Nat.le_trans hI.calls (by omega))
  have HNM := Lib.hid (nm_max _ (nm_mem nmv))
  have HTO := Lib.hid (nm_max _ (nm_mem tov))
  have HU := Lib.hid (used_small hI)
  have HR := Lib.hid ((hr.alloc (Nat.le_refl _) (.cells #[.int .u8 op, .int .u8 nmv, .int .u8 tov, .slice va vl vc, .int .i16 n] 35)).more (B' := (w.alloc (.cells #[.int .u8 op, .int .u8 nmv, .int .u8 tov, .slice va vl vc, .int .i16 n] 35)).heap.size) (hb _).size)
  have HSEP := Lib.hid hsep
  have HBS := Lib.hid hbs
  have HT := Lib.hid (Turned.below (L := L) (hb (.cells #[.int .u8 op, .int .u8 nmv, .int .u8 tov, .slice va vl vc, .int .i16 n] 35)))
  have HA := Lib.hid (show d.act 11 (nm (nmv % 6)) (nm (tov % 6)) n bs = d.remove (nm (nmv % 6)) from rfl)
  have HNV := Lib.hid hnm
  have HTV := Lib.hid hto
  clear h hI hk hop hnm hto hr hsep hbs hq hb
  unfold actVal
  go_enter Try.func9, Try.ntmps9
  go_wp2_with fail
  refine (name_any _ nmv HNV.out).mono ?_
  rintro e w1 ⟨rfl, rfl⟩
  go_wp2_with fail
  refine (remove_disk _ L db nb sb wv φ fv cv d HD.out HOK.out HSZ.out HC.out _ HNM.out).mono ?_
  rintro e w2 ⟨rfl, hD⟩
  have HX := Lib.hid hD
  clear hD
  go_wp2
  go_ret
  exact ⟨by rw [HA.out]; rfl, by rw [HA.out]; exact HX.out.trans2 HT.out⟩
end
end Go.Proofs.Ytombehaaaojhdaa
