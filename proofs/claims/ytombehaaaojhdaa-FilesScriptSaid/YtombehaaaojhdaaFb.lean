/- a disk and a model of it in one world -/
import Derived.Test.YtombehaaaojhdaaMz
import Derived.Test.YtombehaaaojhdaaFa
set_option linter.unusedVariables false
namespace Go.Proofs.Ytombehaaaojhdaa
open Go.Maps Go.RowKit Go.Sort

/-- a disk, a model of it, apart; a deed's box beside them -/
def Two (w0 w : World) (db mb ab : Nat) (cs : Array Value) (d1 d2 : DV) : Prop :=
  ∃ L nb sb wv φ fv cv ML mnb mkb mwv mxv mφ mnv mxs, DiskAt w L db nb sb wv φ fv cv d1 ∧ ModelAt w ML mb mnb mkb mwv mxv mφ mnv mxs d2 ∧ (∀ k, L k ≠ none → ML k = none) ∧ (∀ k, k < w0.heap.size → L k = none ∧ ML k = none) ∧
    Below w0.heap.size w0 w ∧ L ab = none ∧ ML ab = none ∧ Blk w ab 35 cs

section
variable {w0 w w' : World} {db mb ab : Nat} {cs : Array Value} {d1 d2 d1' d2' : DV}

theorem two_disk {L : Lab} {nb sb : Nat} {wv : Value} {φ : List Nat} {fv cv : List Value} {ML : MLab} {mnb mkb : Nat} {mwv mxv : Value} {mφ : List Nat} {mnv mxs : List Value}
    (hD : DiskAt w L db nb sb wv φ fv cv d1) (hM : ModelAt w ML mb mnb mkb mwv mxv mφ mnv mxs d2) (hdis : ∀ k, L k ≠ none → ML k = none) (hfree : ∀ k, k < w0.heap.size → L k = none ∧ ML k = none) (hb : Below w0.heap.size w0 w)
    (hLa : L ab = none) (hMa : ML ab = none) (hB : Blk w ab 35 cs) (h : DiskTo w L db d1' w') : Two w0 w' db mb ab cs d1' d2 := by
  obtain ⟨L', nb', sb', wv', φ', fv', cv', hD', hT⟩ := h
  have hLM : ∀ k, ML k ≠ none → L k = none := fun k hk => by
    cases e : L k with
    | none => rfl
    | some x => exact absurd (hdis k (by rw [e]; simp)) hk
  refine ⟨L', nb', sb', wv', φ', fv', cv', ML, mnb, mkb, mwv, mxv, mφ, mnv, mxs, hD', hM.keep hT.size (fun k hk => hT.block k (hM.dom k hk) (hLM k hk)), fun k hk => ?_, fun k hk => ⟨?_, (hfree k hk).2⟩, ⟨hT.os.trans hb.os, hT.tape.trans hb.tape, hT.output.trans hb.output, Nat.le_trans hb.size hT.size, fun k hk => (hT.block k (Nat.lt_of_lt_of_le hk hb.size) (hfree k hk).1).trans (hb.block k hk)⟩, ?_, hMa, (hT.block ab hB.lt hLa).trans hB⟩
  · cases e : ML k with
    | none => rfl
    | some x =>
      have h1 := hM.dom k (by rw [e]; simp)
      have h2 := hdis k (hT.dom k h1 hk)
      rw [e] at h2; cases h2
  · cases e : L' k with
    | none => rfl
    | some x => exact absurd (hfree k hk).1 (hT.dom k (Nat.lt_of_lt_of_le hk hb.size) (by rw [e]; simp))
  · cases e : L' ab with
    | none => rfl
    | some x => exact absurd hLa (hT.dom ab hB.lt (by rw [e]; simp))

theorem two_model {L : Lab} {nb sb : Nat} {wv : Value} {φ : List Nat} {fv cv : List Value} {ML : MLab} {mnb mkb : Nat} {mwv mxv : Value} {mφ : List Nat} {mnv mxs : List Value}
    (hD : DiskAt w L db nb sb wv φ fv cv d1) (hM : ModelAt w ML mb mnb mkb mwv mxv mφ mnv mxs d2) (hdis : ∀ k, L k ≠ none → ML k = none) (hfree : ∀ k, k < w0.heap.size → L k = none ∧ ML k = none) (hb : Below w0.heap.size w0 w)
    (hLa : L ab = none) (hMa : ML ab = none) (hB : Blk w ab 35 cs) (h : ModelTo w ML mb d2' w') : Two w0 w' db mb ab cs d1 d2' := by
  obtain ⟨ML', nb', kb', wv', xv', φ', nv', xs', hM', hT⟩ := h
  refine ⟨L, nb, sb, wv, φ, fv, cv, ML', nb', kb', wv', xv', φ', nv', xs', hD.keep hT.size (fun k hk => hT.block k (hD.dom k hk) (hdis k hk)), hM', fun k hk => ?_, fun k hk => ⟨(hfree k hk).1, ?_⟩, ⟨hT.os.trans hb.os, hT.tape.trans hb.tape, hT.output.trans hb.output, Nat.le_trans hb.size hT.size, fun k hk => (hT.block k (Nat.lt_of_lt_of_le hk hb.size) (hfree k hk).2).trans (hb.block k hk)⟩, hLa, ?_, (hT.block ab hB.lt hMa).trans hB⟩
  · cases e : ML' k with
    | none => rfl
    | some x => exact absurd (hdis k hk) (hT.dom k (hD.dom k hk) (by rw [e]; simp))
  · cases e : ML' k with
    | none => rfl
    | some x => exact absurd (hfree k hk).2 (hT.dom k (Nat.lt_of_lt_of_le hk hb.size) (by rw [e]; simp))
  · cases e : ML' ab with
    | none => rfl
    | some x => exact absurd hMa (hT.dom ab hB.lt (by rw [e]; simp))

theorem Two.below (h : Two w0 w db mb ab cs d1 d2) (hb : Below w.heap.size w w') : Two w0 w' db mb ab cs d1 d2 := by
  obtain ⟨L, nb, sb, wv, φ, fv, cv, ML, mnb, mkb, mwv, mxv, mφ, mnv, mxs, hD, hM, hdis, hfree, hb0, hLa, hMa, hB⟩ := h
  exact ⟨L, nb, sb, wv, φ, fv, cv, ML, mnb, mkb, mwv, mxv, mφ, mnv, mxs, hD.below hb, hM.below hb, hdis, hfree, hb0.trans (hb.mono hb0.size), hLa, hMa, (hb.block ab hB.lt).trans hB⟩

theorem Two.drewN (h : Two w0 w db mb ab cs d1 d2) (n : Nat) : Two w0 (w.drewN n) db mb ab cs d1 d2 := h.below ⟨rfl, rfl, rfl, Nat.le_refl _, fun _ _ => rfl⟩

theorem Two.base (h : Two w0 w db mb ab cs d1 d2) : Below w0.heap.size w0 w := by
  obtain ⟨L, nb, sb, wv, φ, fv, cv, ML, mnb, mkb, mwv, mxv, mφ, mnv, mxs, hD, hM, hdis, hfree, hb0, hLa, hMa, hB⟩ := h
  exact hb0
theorem Two.box (h : Two w0 w db mb ab cs d1 d2) : Blk w ab 35 cs := by
  obtain ⟨L, nb, sb, wv, φ, fv, cv, ML, mnb, mkb, mwv, mxv, mφ, mnv, mxs, hD, hM, hdis, hfree, hb0, hLa, hMa, hB⟩ := h
  exact hB

/-- a new box -/
theorem Two.newBox (h : Two w0 w db mb ab cs d1 d2) (cs' : Array Value) : Two w0 (w.alloc (.cells cs' 35)) db mb w.heap.size cs' d1 d2 := by
  obtain ⟨L, nb, sb, wv, φ, fv, cv, ML, mnb, mkb, mwv, mxv, mφ, mnv, mxs, hD, hM, hdis, hfree, hb0, hLa, hMa, hB⟩ := h
  have hb : Below w.heap.size w (w.alloc (.cells cs' 35)) := (Below.refl _ w).alloc (Nat.le_refl _) _
  refine ⟨L, nb, sb, wv, φ, fv, cv, ML, mnb, mkb, mwv, mxv, mφ, mnv, mxs, hD.below hb, hM.below hb, hdis, hfree, hb0.trans (hb.mono hb0.size), ?_, hM.free (Nat.le_refl _), Blk.new w _ _⟩
  cases e : L w.heap.size with
  | none => rfl
  | some x => have := hD.dom w.heap.size (by rw [e]; simp); omega

/-! the calls -/
variable (h : Two w0 w db mb ab cs d1 d2)
include h

theorem two_arm (n : Int) : Calls Try.prog 6 #[.pointer (some ⟨db, 0, none⟩), .int .i64 n] w fun e w' => e = .returned (.tuple #[]) ∧ Two w0 w' db mb ab cs (d1.arm n) d2 := by
  obtain ⟨L, nb, sb, wv, φ, fv, cv, ML, mnb, mkb, mwv, mxv, mφ, mnv, mxs, hD, hM, hdis, hfree, hb0, hLa, hMa, hB⟩ := h
  refine (arm_disk w L db nb sb wv φ fv cv d1 hD n).mono ?_
  rintro e w' ⟨rfl, hD', hT⟩
  exact ⟨rfl, two_disk hD hM hdis hfree hb0 hLa hMa hB ⟨L, nb, sb, wv, φ, fv, cv, hD', hT⟩⟩

theorem two_restart (k : Nat) (hI : d1.Inv names6 k) (names bytes : Int) (hb1 : bytes ≤ 1099511627776) : Calls Try.prog 7 #[.pointer (some ⟨db, 0, none⟩), .int .i64 names, .int .i64 bytes] w fun e w' => e = .returned (.tuple #[]) ∧ Two w0 w' db mb ab cs (d1.restart names bytes) d2 := by
  obtain ⟨L, nb, sb, wv, φ, fv, cv, ML, mnb, mkb, mwv, mxv, mφ, mnv, mxs, hD, hM, hdis, hfree, hb0, hLa, hMa, hB⟩ := h
  refine (restart_disk w L db nb sb wv φ fv cv d1 hD names6 k hI names6_len nm_max names bytes hb1).mono ?_
  rintro e w' ⟨rfl, hD'⟩
  exact ⟨rfl, two_disk hD hM hdis hfree hb0 hLa hMa hB hD'⟩

theorem two_mrestart (k : Nat) (hI : d2.Inv names6 k) (names bytes : Int) (hb1 : bytes ≤ 1099511627776) : Calls Try.prog 8 #[.pointer (some ⟨mb, 0, none⟩), .int .i64 names, .int .i64 bytes] w fun e w' => e = .returned (.tuple #[]) ∧ Two w0 w' db mb ab cs d1 (d2.restart names bytes) := by
  obtain ⟨L, nb, sb, wv, φ, fv, cv, ML, mnb, mkb, mwv, mxv, mφ, mnv, mxs, hD, hM, hdis, hfree, hb0, hLa, hMa, hB⟩ := h
  refine (mrestart_model w ML mb mnb mkb mwv mxv mφ mnv mxs d2 hM names6 k hI names6_len nm_max names bytes hb1).mono ?_
  rintro e w' ⟨rfl, hM'⟩
  exact ⟨rfl, two_model hD hM hdis hfree hb0 hLa hMa hB hM'⟩

theorem two_do (op nmv tov : Nat) (hop : op < 256) (hnm : nmv < 256) (hto : tov < 256) (n : Int) (hn0 : -32768 ≤ n) (hn1 : n ≤ 32767) (va : Option Addr) (vl vc : Nat) (A : Option Addr) (cc : Nat) (bs : List UInt8) (hbs : bs.length ≤ 1099511627776) (k : Nat) (hI : d1.Inv names6 k) (hk : k ≤ 1099511627775)
    (hr : Reads w0 w0.heap.size 1 A bs.length (bcells bs)) (hA : 0 < bs.length → ∀ ad, A = some ad → ad.block < w0.heap.size) :
    Calls Try.prog 9 #[.pointer (some ⟨db, 0, none⟩), actVal op nmv tov (.slice va vl vc) n, .slice A bs.length cc] w fun e w' => e = .returned (.int .i64 (d1.act (op % 12) (nm (nmv % 6)) (nm (tov % 6)) n bs).2) ∧ Two w0 w' db mb ab cs (d1.act (op % 12) (nm (nmv % 6)) (nm (tov % 6)) n bs).1 d2 := by
  obtain ⟨L, nb, sb, wv, φ, fv, cv, ML, mnb, mkb, mwv, mxv, mφ, mnv, mxs, hD, hM, hdis, hfree, hb0, hLa, hMa, hB⟩ := h
  refine (do_any op nmv tov hop hnm hto n hn0 hn1 va vl vc A cc bs hbs d1 k hI hk w L db nb sb wv φ fv cv hD ((hr.below hb0).more hb0.size) (fun hp ad e => (hfree _ (hA hp ad e)).1)).mono ?_
  rintro e w' ⟨rfl, hD'⟩
  exact ⟨rfl, two_disk hD hM hdis hfree hb0 hLa hMa hB hD'⟩

theorem two_mdo (op nmv tov : Nat) (hop : op < 256) (hnm : nmv < 256) (hto : tov < 256) (n : Int) (hn0 : -32768 ≤ n) (hn1 : n ≤ 32767) (va : Option Addr) (vl vc : Nat) (A : Option Addr) (cc : Nat) (bs : List UInt8) (hbs : bs.length ≤ 1099511627776) (k : Nat) (hI : d2.Inv names6 k) (hk : k ≤ 1099511627775)
    (hr : Reads w0 w0.heap.size 1 A bs.length (bcells bs)) (hA : 0 < bs.length → ∀ ad, A = some ad → ad.block < w0.heap.size) :
    Calls Try.prog 10 #[.pointer (some ⟨mb, 0, none⟩), actVal op nmv tov (.slice va vl vc) n, .slice A bs.length cc] w fun e w' => e = .returned (.int .i64 (d2.act (op % 12) (nm (nmv % 6)) (nm (tov % 6)) n bs).2) ∧ Two w0 w' db mb ab cs d1 (d2.act (op % 12) (nm (nmv % 6)) (nm (tov % 6)) n bs).1 := by
  obtain ⟨L, nb, sb, wv, φ, fv, cv, ML, mnb, mkb, mwv, mxv, mφ, mnv, mxs, hD, hM, hdis, hfree, hb0, hLa, hMa, hB⟩ := h
  refine (mdo_any op nmv tov hop hnm hto n hn0 hn1 va vl vc A cc bs hbs d2 k hI hk w ML mb mnb mkb mwv mxv mφ mnv mxs hM ((hr.below hb0).more hb0.size) (fun hp ad e => (hfree _ (hA hp ad e)).2)).mono ?_
  rintro e w' ⟨rfl, hM'⟩
  exact ⟨rfl, two_model hD hM hdis hfree hb0 hLa hMa hB hM'⟩

theorem two_down : Calls Try.prog 11 #[.pointer (some ⟨db, 0, none⟩)] w fun e w' => e = .returned (.bool d1.down) ∧ w' = w := by
  obtain ⟨L, nb, sb, wv, φ, fv, cv, ML, mnb, mkb, mwv, mxv, mφ, mnv, mxs, hD, hM, hdis, hfree, hb0, hLa, hMa, hB⟩ := h
  exact down_disk w L db nb sb wv φ fv cv d1 hD
theorem two_calls : Calls Try.prog 12 #[.pointer (some ⟨db, 0, none⟩)] w fun e w' => e = .returned (.int .i64 d1.calls) ∧ w' = w := by
  obtain ⟨L, nb, sb, wv, φ, fv, cv, ML, mnb, mkb, mwv, mxv, mφ, mnv, mxs, hD, hM, hdis, hfree, hb0, hLa, hMa, hB⟩ := h
  exact calls_disk w L db nb sb wv φ fv cv d1 hD
theorem two_used (k : Nat) (hI : d1.Inv names6 k) : Calls Try.prog 13 #[.pointer (some ⟨db, 0, none⟩)] w fun e w' => e = .returned (.int .i64 d1.used) ∧ Below w.heap.size w w' := by
  obtain ⟨L, nb, sb, wv, φ, fv, cv, ML, mnb, mkb, mwv, mxv, mφ, mnv, mxs, hD, hM, hdis, hfree, hb0, hLa, hMa, hB⟩ := h
  exact used_disk w L db nb sb wv φ fv cv d1 hD (used_small hI)
theorem two_mused (k : Nat) (hI : d2.Inv names6 k) : Calls Try.prog 14 #[.pointer (some ⟨mb, 0, none⟩)] w fun e w' => e = .returned (.int .i64 d2.used) ∧ Below w.heap.size w w' := by
  obtain ⟨L, nb, sb, wv, φ, fv, cv, ML, mnb, mkb, mwv, mxv, mφ, mnv, mxs, hD, hM, hdis, hfree, hb0, hLa, hMa, hB⟩ := h
  exact mused_model w ML mb mnb mkb mwv mxv mφ mnv mxs d2 hM (used_small hI)
theorem two_names (k : Nat) (hI : d1.Inv names6 k) : Calls Try.prog 15 #[.pointer (some ⟨db, 0, none⟩)] w fun e w' => ∃ ao c, ∃ ns : List Nm, e = .returned (.slice ao ns.length c) ∧ Reads w' w'.heap.size 1 ao ns.length (ns.map encStr) ∧ ns.Perm (strKeys d1.now) ∧ ns.Pairwise (fun x y => decide (x ≤ y) = true) ∧ Below w.heap.size w w' := by
  obtain ⟨L, nb, sb, wv, φ, fv, cv, ML, mnb, mkb, mwv, mxv, mφ, mnv, mxs, hD, hM, hdis, hfree, hb0, hLa, hMa, hB⟩ := h
  exact names_disk w L db nb sb wv φ fv cv d1 hD (Nat.le_trans hI.size names6_len)
theorem two_read (k : Nat) (hI : d1.Inv names6 k) (hk : k ≤ 1099511627776) (s : Nm) (hs : s.length ≤ maxLen) : Calls Try.prog 16 #[.pointer (some ⟨db, 0, none⟩), .string ⟨s.toArray⟩] w fun e w' => ∃ ao' c', e = .returned (.tuple #[.slice ao' (d1.read s).1.length c', .int .i64 (d1.read s).2]) ∧ Reads w' w'.heap.size 1 ao' (d1.read s).1.length (bcells (d1.read s).1) ∧ Below w.heap.size w w' := by
  obtain ⟨L, nb, sb, wv, φ, fv, cv, ML, mnb, mkb, mwv, mxv, mφ, mnv, mxs, hD, hM, hdis, hfree, hb0, hLa, hMa, hB⟩ := h
  exact read_disk w L db nb sb wv φ fv cv d1 hD (hI.ok names6_len hk) s hs

/-- what the law sees of the model -/
theorem two_cells : ∃ mnb, w.cell? ⟨mb, 0, none⟩ = some (.map (some mnb)) ∧ w.cell? ⟨mb, 5, none⟩ = some (.int .i64 d2.left) ∧ w.frozen? ⟨mb, 5, none⟩ = false ∧ w.cell? ⟨mb, 6, none⟩ = some (.bool d2.down) ∧ w.cell? ⟨mb, 7, none⟩ = some (.int .i64 d2.calls) ∧
    (Builtin.len_ #[27] 3 #[.map (some mnb)]).run Try.prog w = .ok (.int .i64 (Maps.size d2.now)) w ∧
    (∃ φ : List Nat, MapAt Try.prog 9 w φ mnb d2.now) := by
  obtain ⟨L, nb, sb, wv, φ, fv, cv, ML, mnb, mkb, mwv, mxv, mφ, mnv, mxs, hD, hM, hdis, hfree, hb0, hLa, hMa, hB⟩ := h
  exact ⟨mnb, (Blk.cell hM.cells 0).trans rfl, (Blk.cell hM.cells 5).trans rfl, Blk.frozen hM.cells 5, (Blk.cell hM.cells 6).trans rfl, (Blk.cell hM.cells 7).trans rfl, World.ownsMap.len hM.now Try.underlying27 _, mφ, hM.now⟩

/-- a name's file, in the model -/
theorem two_file {s : Nm} {i : Nat} (hl : look d2.now s = some i) (hs : s.length ≤ maxLen) {mnb : Nat} (hc : w.cell? ⟨mb, 0, none⟩ = some (.map (some mnb))) :
    ∃ fb f, d2.files[i]? = some f ∧ (Instr.lookup 27 (.map (some mnb)) (.string ⟨s.toArray⟩) false).run Try.prog w = .ok (.pointer (some ⟨fb, 0, none⟩)) w ∧ w.cell? ⟨fb, 0, none⟩ = some (.string ⟨f.b.toArray⟩) := by
  obtain ⟨L, nb, sb, wv, φ, fv, cv, ML, mnb', mkb, mwv, mxv, mφ, mnv, mxs, hD, hM, hdis, hfree, hb0, hLa, hMa, hB⟩ := h
  have e : mnb' = mnb := by
    have := (Blk.cell hM.cells 0).symm.trans hc
    simpa using this
  subst e
  have hi := look_lt hM.hnow hl
  have hfb : mφ[i]? = some mφ[i] := List.getElem?_eq_getElem hi
  obtain ⟨f, hf, hF⟩ := hM.file_at hfb
  have hlk := mlook_run w hM hs
  rw [hl] at hlk
  simp only [ptrOf, hfb] at hlk
  exact ⟨_, f, hf, hlk, (Blk.cell hF.cells 0).trans rfl⟩

/-- the model's stop turns -/
theorem two_mstop (n : Int) : Two w0 (w.setCell ⟨mb, 5, none⟩ (.int .i64 (max (-1) n))) db mb ab cs d1 (d2.arm n) := by
  obtain ⟨L, nb, sb, wv, φ, fv, cv, ML, mnb, mkb, mwv, mxv, mφ, mnv, mxs, hD, hM, hdis, hfree, hb0, hLa, hMa, hB⟩ := h
  have hg : w.grownBy (w.setCell ⟨mb, 5, none⟩ (.int .i64 (max (-1) n))) (some mb) := grown_set (World.grownBy.refl _ _) _ _
  exact two_model hD hM hdis hfree hb0 hLa hMa hB ⟨ML, mnb, mkb, mwv, mxv, mφ, mnv, mxs, hM.nums hg.size (fun k hk hne => hg.block k (hM.dom k hk) (by simpa using hne)) d2.room (max (-1) n) d2.down d2.calls (Blk.set_ hM.cells 5 _), hg.os, hg.tape, hg.output, hg.size, fun k hk hl => hg.block k hk (fun e => by cases e; rw [hM.lmodel] at hl; cases hl), fun _ _ h => h⟩
end
end Go.Proofs.Ytombehaaaojhdaa
