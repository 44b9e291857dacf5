/- view.State -/
import Derived.Lib.FrozenHead
import Derived.Sort.CutIn
import Derived.Test.YtombehaaaojhdaaDoorVp
set_option linter.unusedVariables false
namespace Go.Proofs.YtombehaaaojhdaaDoor
open Go.RowKit
attribute [local go_sem] Oper.semAt_some

def headText (idx term : Int) : List UInt8 := rowText [[115, 116, 97, 116, 101], Lib.itoa idx, Lib.itoa term]
def stateText (idx term : Int) (ps : List PairV) : List UInt8 := headText idx term ++ ps.flatMap PairV.text

def accText (h : List UInt8) (ps : List PV) : List UInt8 := h ++ ps.flatMap (fun p => p.1.text)
theorem accText_snoc (h : List UInt8) (ps : List PV) (p : PV) : accText h (ps ++ [p]) = accText h ps ++ p.1.text := by simp [accText]
theorem accText_le (h : List UInt8) (ps : List PV) : (accText h ps).length ≤ h.length + ps.length * 50000000 := by
  induction ps with
  | nil => simp [accText]
  | cons p ps ih =>
    have := pairText_le p.1 p.2
    simp only [accText, List.flatMap_cons, List.length_append, List.length_cons] at ih ⊢
    omega

theorem builder_own {T e : TypeId} {B b : Nat} {p : Value} {C : Nat} (f : List PV → List Value) : OwnFrom C (fun pre W => Lib.BuilderAt T e B b p (f pre) W) := by
  intro s W W' row hs hg hr
  obtain ⟨hB, v, hb, hown, hne⟩ := hs
  have hnb : some b ≠ row := fun e => by
    obtain ⟨_, o, ho, hc⟩ := hr b e.symm
    rw [hb] at ho; cases ho; cases hc
  refine ⟨hB, v, (hg.block b (Array.getElem?_eq_some_iff.1 hb).1 hnb).trans hb, hown.kept hg ?_, hne⟩
  rcases hown.2 with ⟨hv, _⟩ | ⟨g, cap, cur, hv, _, hh, _⟩
  · exact .inl (by rw [hv]; rfl)
  · refine .inr fun e => ?_
    rw [hv] at e
    obtain ⟨_, o, ho, hc⟩ := hr g e.symm
    rw [hh] at ho; cases ho; cases hc

theorem builder_keep {T e : TypeId} {B b : Nat} {p : Value} {bs : List Value} {w w' : World} (h : Lib.BuilderAt T e B b p bs w) (hb : Below w.heap.size w w') : Lib.BuilderAt T e B b p bs w' := by
  obtain ⟨hB, v, hbk, hown, hne⟩ := h
  exact ⟨hB, v, (hb.block b (Array.getElem?_eq_some_iff.1 hbk).1).trans hbk, hown.kept (grown_of_below hb) (by
    rcases hown.2 with ⟨hv, _⟩ | ⟨g, cap, cur, hv, _⟩
    · exact .inl (by rw [hv]; rfl)
    · exact .inr (by rw [hv]; simp [Value.ownBlock])), hne⟩

theorem blk_others {w w' : World} {g b : Nat} {t e : TypeId} {cs : Array Value} (h : Blk w g t cs) (ho : Lib.OthersKept e (some b) w w') (hg : g ≠ b) (ht : t ≠ e) : Blk w' g t cs :=
  ho g _ h (fun x => hg (by injection x)) (fun c fz x => by cases x; exact ht rfl)

theorem pairs_call (a0 a1 a2 a3 : Value) (n : Nat) (w : World) : CallsIn Fence.wide n Tryd.prog 13 #[.agg #[a0, a1, a2, a3]] w fun e w' => e = .returned (.func (.func 23) #[] #[.pointer (some ⟨w.heap.size, 0, none⟩)]) ∧ w' = w.alloc (.cells #[a0, a1, a2, a3] 36) := by
  refine callsIn_of_wp Tryd.func13 rfl trivial ?_ rfl
  simp only [Tryd.ntmps13, List.size_toArray, List.length_cons, List.length_nil, Nat.reduceAdd, Nat.reduceSub, Array.replicate_succ, Array.replicate_zero, List.push_toArray, List.append_toArray, List.nil_append, List.cons_append]
  gi_wp2
  go_ret
  exact ⟨rfl, rfl⟩

theorem strCells_mk (l : List UInt8) : Lib.strCells ⟨l.toArray⟩ = Lib.byteCells l := by simp [Lib.strCells, Lib.byteCells]
theorem byteCells_app (a b : List UInt8) : Lib.byteCells (a ++ b) = Lib.byteCells a ++ Lib.byteCells b := by simp [Lib.byteCells]
theorem byteCells_len (a : List UInt8) : (Lib.byteCells a).length = a.length := by simp [Lib.byteCells]

theorem headText_le (idx term : Int) (hi0 : -9223372036854775808 ≤ idx) (hi1 : idx ≤ 9223372036854775807) (hm0 : -9223372036854775808 ≤ term) (hm1 : term ≤ 9223372036854775807) : (headText idx term).length ≤ 1000 := by
  have l1 := Lib.itoa_length_le idx hi0 hi1
  have l2 := Lib.itoa_length_le term hm0 hm1
  simp only [headText, rowText, join3, List.length_append, List.length_cons, List.length_nil]; omega

set_option maxRecDepth 100000 in
set_option maxHeartbeats 4000000 in
theorem state_any (idx term : Int) (hi0 : -9223372036854775808 ≤ idx) (hi1 : idx ≤ 9223372036854775807) (hm0 : -9223372036854775808 ≤ term) (hm1 : term ≤ 9223372036854775807)
    (sv ss : Value) (ps : List PV) (hlen : ps.length ≤ 64) (w : World) (hT : TabsW w) (hP : PairsV w.heap.size w sv ps) :
    Calls Tryd.prog 11 #[.agg #[.int .i64 idx, .int .i64 term, sv, ss]] w fun e w' => e = .returned (.string ⟨(accText (headText idx term) ps).toArray⟩) ∧ Below w.heap.size w w' := by
  refine (callsIn_wide (n := 9)).1 ?_
  refine callsIn_of_wp_marks Tryd.func11 rfl trivial ?_ rfl
  simp only [Tryd.ntmps11, List.size_toArray, List.length_cons, List.length_nil, Nat.reduceAdd, Nat.reduceSub, Array.replicate_succ, Array.replicate_zero, List.push_toArray, List.append_toArray, List.nil_append, List.cons_append]
  gi_upto_region 2 with fail
  gi_cut [] from 4 (fun wc => Lib.BuilderAt 66 5 w.heap.size (w.heap.size + 1) (.pointer (some ⟨w.heap.size + 1, 0, none⟩)) (Lib.byteCells (rowText [[115, 116, 97, 116, 101], Lib.itoa idx, Lib.itoa term])) wc ∧ Below w.heap.size w wc ∧ Blk wc w.heap.size 36 #[.int .i64 idx, .int .i64 term, sv, ss])
  case first =>
    have hb1 : Below w.heap.size w ((w.alloc (.cells #[.int .i64 idx, .int .i64 term, sv, ss] 36)).alloc (.cells #[.pointer none, .slice none 0 0] 66)) := ((Below.refl _ _).alloc (Nat.le_refl _) _).alloc (by simp) _
    have hB := (Blk.new w 36 #[.int .i64 idx, .int .i64 term, sv, ss]).alloc (.cells #[.pointer none, .slice none 0 0] 66)
    have hBd : Lib.BuilderAt 66 5 w.heap.size (w.heap.size + 1) (.pointer none) [] ((w.alloc (.cells #[.int .i64 idx, .int .i64 term, sv, ss] 36)).alloc (.cells #[.pointer none, .slice none 0 0] 66)) :=
      ⟨Nat.le_succ _, .slice none 0 0, heap_alloc2_new w _ _, World.ownsRow_nil _ _ _ _, by simp [Value.ownBlock]⟩
    generalize ((w.alloc (.cells #[.int .i64 idx, .int .i64 term, sv, ss] 36)).alloc (.cells #[.pointer none, .slice none 0 0] 66)) = w1 at *
    have HT := Lib.hid (hT.1.below hb1)
    have c0 := hB.cell 0
    have c1 := hB.cell 1
    simp at c0 c1
    have hcc : ∀ w', Below w1.heap.size w1 w' → w'.cell? ⟨w.heap.size, 1, none⟩ = some (.int .i64 term) := fun w' hb => cell_keep hb c1
    have HC := Lib.hid hcc
    have HBd := Lib.hid hBd
    have l1 := Lib.itoa_length_le idx hi0 hi1
    have l2 := Lib.itoa_length_le term hm0 hm1
    have hlen3 : (Lib.join [[115, 116, 97, 116, 101], Lib.itoa idx, Lib.itoa term] [32]).length ≤ 1000000000 := by
      simp only [join3, List.length_append, List.length_cons, List.length_nil]; omega
    have HL3 := Lib.hid hlen3
    have hlen4 : (rowText [[115, 116, 97, 116, 101], Lib.itoa idx, Lib.itoa term]).length ≤ 1000000000 := by
      simp only [rowText, join3, List.length_append, List.length_cons, List.length_nil]; omega
    have HL4 := Lib.hid hlen4
    have HS := Lib.hid (Nat.le_trans (Nat.le_refl _) hb1.size)
    clear hT hcc hBd hlen3 hlen4 hP l1 l2
    refine wpIn_mono (Q := NoPanic _) ?_ NoPanic.imp
    gi_region_with (first 
       | (refine ⟨trivial, ?_⟩; gi_at_call 17; refine (callsIn_wide.2 (itoa_any _ (by assumption) (by assumption) _ ?_)).mono ?_; (first | exact HT.out.below hB2 | exact HT.out.below (Below.refl _ _).drew); rintro e w2 ⟨rfl, hb2⟩; have hB2 : Below w1.heap.size w1 w2 := (by first | exact below_then hB2 hb2 | exact below_of_drew hb2); have hcx := HC.out _ hB2)
       | (refine ⟨trivial, ?_⟩; gi_at_call 16; refine (callsIn_wide.2 (row_any _ 0 3 [[115, 116, 97, 116, 101], Lib.itoa idx, Lib.itoa term] _ (cells3 _ _ _ _ _) (by simp) (by simp) (by simp) HL3.out)).mono ?_; rintro e w4 ⟨rfl, hb4⟩; have hB4 : Below w1.heap.size w1 w4 := below_then (hB2.alloc hB2.size _) hb4)
       | (refine ⟨trivial, ?_⟩; gi_at_call 20; refine (callsIn_wide.2 (writeString_any w.heap.size _ [] ⟨(rowText [[115, 116, 97, 116, 101], Lib.itoa idx, Lib.itoa term]).toArray⟩ _ (.inl (builder_keep HBd.out hB4)) (by have := HL4.out; simp [ByteArray.size]; omega) (Nat.le_trans HS.out hB4.size))).mono ?_; rintro e w5 ⟨rfl, hb5, hb6, hb7⟩))
    all_goals refine NoPanic.normal ?_
    all_goals gi_wp2
    all_goals gi_meet
    all_goals case rel => exact ⟨by rw [← strCells_mk]; exact hb5, hb1.trans ((hB4.mono hb1.size).trans hb6), blk_others (hB.keep hB4) hb7 (by omega) (by decide)⟩
  case rest =>
    obtain ⟨hBd, hb1, hB⟩ := hcut
    have c0 := hB.cell 0
    have c1 := hB.cell 1
    have c2 := hB.cell 2
    have c3 := hB.cell 3
    simp at c0 c1 c2 c3
    have hP1 := hP.below hb1 (Nat.le_refl _)
    gi_wp2_with fail
    refine ⟨trivial, ?_⟩
    refine (pairs_call _ _ _ _ _ _).mono ?_
    rintro e w' ⟨rfl, rfl⟩
    gi_wp2
    have hl1 := headText_le idx term hi0 hi1 hm0 hm1
    have HL1 := Lib.hid hl1
    have hHd : headText idx term = rowText [[115, 116, 97, 116, 101], Lib.itoa idx, Lib.itoa term] := rfl
    rw [← hHd] at hBd
    generalize hHD : headText idx term = hd at *
    have HHD := Lib.hid hHD
    clear hHd hl1 hHD
    have hbA : Below wc.heap.size wc (wc.alloc (.cells #[.int .i64 idx, .int .i64 term, sv, ss] 36)) := (Below.refl _ _).alloc (Nat.le_refl _) _
    have hBA := Blk.new wc 36 #[.int .i64 idx, .int .i64 term, sv, ss]
    have hBd := builder_keep hBd hbA
    have hb2 := hb1.trans (hbA.mono hb1.size)
    have hP2 := hP1.below hbA hb1.size
    have hszA : wc.heap.size < (wc.alloc (.cells #[.int .i64 idx, .int .i64 term, sv, ss] 36)).heap.size := hBA.lt
    have hsz0 : w.heap.size ≤ wc.heap.size := hb1.size
    generalize (wc.alloc (.cells #[.int .i64 idx, .int .i64 term, sv, ss] 36)) = wa at *
    have cA := hBA.cell 2
    simp at cA
    refine wpIn_rangeFunc_ownF (α := PV) rfl (by decide) (gf := 23) (lb := #[.pointer (some ⟨wc.heap.size, 0, none⟩)]) rfl trivial (enters_of Tryd.func23 (by kernel_rfl) rfl)
      (pairs_stops 8 (by decide) wc.heap.size w.heap.size sv ps (by omega) w wa hT hb2 (Nat.le_refl _) hszA (by omega) cA hP2)
      belowK_t (belowK_b (by omega)) (Below.refl _ _) (fun _ => rfl)
      (fun pre W => Lib.BuilderAt 66 5 w.heap.size (w.heap.size + 1) (.pointer (some ⟨w.heap.size + 1, 0, none⟩)) (Lib.byteCells (accText hd pre)) W ∧ Below w.heap.size w W)
      (fun _ _ _ => False)
      (OwnFrom.and (builder_own (fun pre => Lib.byteCells (accText hd pre))) (ownFrom_below (Nat.le_refl _) (by omega)))
      (fun _ _ _ _ _ hs _ _ => hs)
      ⟨by simpa [accText] using hBd, hb2⟩
      (fun x => { tmps := #[.agg #[.int .i64 idx, .int .i64 term, sv, ss], .pointer (some ⟨w.heap.size, 0, none⟩), .string ⟨#[]⟩, .pointer (some ⟨w.heap.size + 1, 0, none⟩), .string ⟨x.1.text.toArray⟩, u5, u6, u7, u8, u9, u10, u11, u12, u13,
          .agg #[.int .i64 idx, .int .i64 term, sv, ss], .func (.func 23) #[] #[.pointer (some ⟨wc.heap.size, 0, none⟩)], .string ⟨x.1.text.toArray⟩, u17, u18, u19], defers := [] }) ?assign ?body ?done ?stop
    case assign =>
      intro l x W K hK
      gi_wp2
      exact hK
    case body =>
      rintro l pre x W ⟨hBW, hW⟩ hpre
      have hxl := pairText_le x.1 x.2
      have hal := accText_le hd pre
      have : pre.length * 50000000 ≤ 64 * 50000000 := Nat.mul_le_mul_right _ (by omega)
      have hsize : (Lib.byteCells (accText hd pre)).length + ByteArray.size ⟨x.1.text.toArray⟩ ≤ 140737488355328 := by
        have := HL1.out
        simp only [byteCells_len, ByteArray.size, List.size_toArray]; omega
      have HSZ := Lib.hid hsize
      have HSN := Lib.hid (accText_snoc hd pre x)
      clear hxl hal hsize this
      have HB := Lib.hid hBW
      have HW := Lib.hid hW
      clear hBW hW
      gi_wp2_with fail
      refine ⟨trivial, ?_⟩
      refine (CallsIn.inRound l (callsIn_wide.2 (writeString_any w.heap.size _ _ ⟨x.1.text.toArray⟩ W (.inr HB.out) HSZ.out HW.out.size))).mono ?_
      rintro e W2 ⟨rfl, h5, h6, h7⟩
      gi_wp2
      obtain ⟨_, v, hbk, _⟩ := HB.out
      exact ⟨keepsOthers_of h7 h6.size hbk, h6, ⟨by rw [HSN.out, byteCells_app, ← strCells_mk x.1.text]; exact h5, HW.out.trans h6⟩⟩
    case done =>
      rintro D ys W hD rfl ⟨hBW, hW⟩ hK
      have HB := Lib.hid hBW
      have HW := Lib.hid hW
      have HK := Lib.hid hK
      clear hBW hW hK
      gi_wp2_with fail
      refine ⟨trivial, ?_⟩
      refine (callsIn_wide.2 (Tryd.Builder_String_any_k w.heap.size _ _ W (Lib.IsBuilderF.of (.inr HB.out)) HW.out.size)).mono ?_
      rintro e W2 ⟨rfl, h1, h2, h3⟩
      gi_wp2
      obtain ⟨_, v, hbk, _⟩ := HB.out
      have hK2 : W2.heap[D]? = some (.deferred (some [])) := h3 D _ HK.out (fun e => by cases e; have := HK.out; rw [hbk] at this; cases this) (fun c fz e => by cases e)
      refine ⟨by simp, .inl ⟨_, _, rfl, run_takeDeferred hK2, ?_⟩⟩
      exact ⟨_, results_tmp rfl _ _ _, by rw [HHD.out]; rfl, (HW.out.trans h2).trans (belowK_b (w := w) (Nat.le_refl _) _ D _ _ (by omega) hK2 rfl rfl)⟩
    case stop =>
      rintro D c pre W _ _ h _
      exact h.elim
#print axioms state_any
end Go.Proofs.YtombehaaaojhdaaDoor
