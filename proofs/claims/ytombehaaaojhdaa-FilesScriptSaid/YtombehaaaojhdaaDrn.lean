/- (*Disk).Rename -/
import Derived.Test.YtombehaaaojhdaaDrm
set_option linter.unusedVariables false
namespace Go.Proofs.Ytombehaaaojhdaa
open Go.Maps Go.RowKit

theorem loop_eq (b : ByteArray) : ∀ (n i : Nat) (r : List UInt8), b.size - i = n → ByteArray.toList.loop b i r = r.reverse ++ b.data.toList.drop i := by
  have hs : b.data.toList.length = b.size := rfl
  intro n
  induction n with
  | zero =>
    intro i r h
    unfold ByteArray.toList.loop
    rw [if_neg (by omega), List.drop_eq_nil_of_le (by omega), List.append_nil]
  | succ n ih =>
    intro i r h
    unfold ByteArray.toList.loop
    have hi : i < b.size := by omega
    rw [if_pos hi, ih (i + 1) _ (by omega)]
    have hi' : i < b.data.toList.length := by omega
    rw [List.drop_eq_getElem_cons hi']
    have e : b.get! i = b.data.toList[i] := getElem!_pos b.data i hi
    rw [e, List.reverse_cons, List.append_assoc]
    rfl
theorem bs_toList (b : ByteArray) : b.toList = b.data.toList := by
  unfold ByteArray.toList
  rw [loop_eq b _ 0 [] rfl]; rfl
theorem run_eql_str {P : Program} (t : TypeId) (S T : ByteArray) (w : World) (h : ¬ S = T) : (binOp .eql t (.string S) (.string T)).run P w = .ok (.bool false) w := by
  have e : (S.toList == T.toList) = false := by
    rw [bs_toList, bs_toList, beq_eq_false_iff_ne]
    exact fun he => h (ByteArray.ext (Array.toList_inj.1 he))
  simp only [binOp, Op.stringOp, e]
  rfl

set_option maxHeartbeats 4000000 in
theorem rename_disk (w : World) (L : Lab) (db nb sb : Nat) (wv : Value) (φ : List Nat) (fv cv : List Value) (d : DV) (h : DiskAt w L db nb sb wv φ fv cv d) (hok : d.ok) (hsz : size d.now ≤ 64) (hc : d.calls ≤ 1099511627776) (s t : Nm) (hs : s.length ≤ maxLen) (ht : t.length ≤ maxLen) :
    Calls Try.prog 28 #[.pointer (some ⟨db, 0, none⟩), .string ⟨s.toArray⟩, .string ⟨t.toArray⟩] w fun e w' => e = .returned (.int .i64 (d.rename s t).2) ∧ DiskTo w L db (d.rename s t).1 w' := by
  have c0 : w.cell? ⟨db, 0, none⟩ = some (.map (some nb)) := (Blk.cell h.cells 0).trans rfl
  have c5 : w.cell? ⟨db, 5, none⟩ = some (.bool d.down) := (Blk.cell h.cells 5).trans rfl
  have hlk := look_run w h hs
  have H := Lib.hid h
  have HOK := Lib.hid hok
  have HC := Lib.hid hc
  have HS := Lib.hid (show DiskTo w L db d w from ⟨L, nb, sb, wv, φ, fv, cv, h, Turned.refl _ _⟩)
  clear h hok hc
  cases hd : d.down with
  | true =>
    rw [hd] at c5
    have hr : d.rename s t = (d, eCrash) := by simp [DV.rename, hd]
    rw [hr]
    obtain ⟨pv, hpv⟩ := ptrOf_shape φ (look d.now s)
    rw [hpv] at hlk
    go_enter Try.func28, Try.ntmps28
    go_wp2
    go_ret
    exact ⟨rfl, HS.out⟩
  | false =>
    rw [hd] at c5
    cases hl : look d.now s with
    | none =>
      rw [hl] at hlk
      simp only [ptrOf, Option.isSome_none] at hlk
      have hr : d.rename s t = (d, eUnknown) := by simp [DV.rename, hd, hl]
      rw [hr]
      go_enter Try.func28, Try.ntmps28
      go_wp2
      go_ret
      exact ⟨rfl, HS.out⟩
    | some i =>
      have hi := look_lt H.out.hnow hl
      obtain ⟨fb, hfb⟩ : ∃ fb, φ[i]? = some fb := ⟨_, List.getElem?_eq_getElem hi⟩
      rw [hl] at hlk
      simp only [ptrOf, hfb, Option.isSome_some] at hlk
      have hst : (⟨s.toArray⟩ : ByteArray) = ⟨t.toArray⟩ ↔ s = t := by constructor <;> intro h <;> simp_all
      by_cases he : s = t
      · subst he
        have hr : d.rename s s = (d, eArgument) := by simp [DV.rename, hd, hl]
        rw [hr]
        clear hst
        go_enter Try.func28, Try.ntmps28
        go_wp2
        go_ret
        exact ⟨rfl, HS.out⟩
      have HE := Lib.hid he
      have hne : ¬ ((⟨s.toArray⟩ : ByteArray) = ⟨t.toArray⟩) := fun h => he (hst.1 h)
      clear hst he
      generalize hS : (⟨s.toArray⟩ : ByteArray) = S at hlk hne ⊢
      generalize hT : (⟨t.toArray⟩ : ByteArray) = T at hne ⊢
      have HSS := Lib.hid hS
      have HTT := Lib.hid hT
      have hb : (S.toList == T.toList) = false := by
        rw [bs_toList, bs_toList, beq_eq_false_iff_ne]
        exact fun he => hne (ByteArray.ext (Array.toList_inj.1 he))
      clear hS hT hne
      cases ho : d.on with
      | false =>
        have hr : d.rename s t = (d.tick, eCrash) := by simp [DV.rename, hd, hl, ho, HE.out]
        rw [hr]
        go_enter Try.func28, Try.ntmps28
        go_wp2_with fail
        refine (call_disk w L db nb sb wv φ fv cv d H.out HOK.out HC.out).mono ?_
        rintro e w1 ⟨rfl, h1, ht1⟩
        rw [ho]
        go_wp2
        go_ret
        exact ⟨rfl, L, nb, sb, wv, φ, fv, cv, h1, ht1⟩
      | true =>
        have hr : d.rename s t = (d.tick.set [(s, none), (t, some i)], 0) := by simp [DV.rename, hd, hl, ho, HE.out]
        rw [hr]
        go_enter Try.func28, Try.ntmps28
        go_wp2_with fail
        refine (call_disk w L db nb sb wv φ fv cv d H.out HOK.out HC.out).mono ?_
        rintro e w1 ⟨rfl, h1, ht1⟩
        rw [ho]
        have H1 := Lib.hid h1
        have HT := Lib.hid ht1
        clear h1 ht1
        go_wp2_with fail
        refine (set_new w1 L db nb sb wv φ fv cv d.tick H1.out [(s, none), (t, some i)] _ (by simp [chCells, ptrOf, hfb, HSS.out, HTT.out]) (fun c hc => by simp at hc; rcases hc with rfl | rfl; exact ⟨(fun i h => nomatch h), hs⟩; exact ⟨(fun j h => by cases h; exact hi), ht⟩) (by show size d.now + 2 < _; omega) (by simp) (Nat.le_trans HOK.out.waits HC.out)).mono ?_
        rintro e w2 ⟨rfl, h2⟩
        have H2 := Lib.hid h2
        clear h2
        go_wp2
        go_ret
        exact ⟨rfl, H2.out.trans HT.out⟩
end Go.Proofs.Ytombehaaaojhdaa
