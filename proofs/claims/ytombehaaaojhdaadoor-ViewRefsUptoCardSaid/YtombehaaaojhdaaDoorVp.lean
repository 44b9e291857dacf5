/- view.Pairs's iterator -/
import Derived.RangeFuncNested
import Derived.RangeFuncBound
import Derived.RangeFuncCalls
import Derived.RangeFuncLeaves
import Derived.RangeFuncFrom
import Derived.OwnWalkIn
import Derived.TacticsInMore
import Derived.LoopNIn
import Derived.LoopIn
import Derived.Stop.RegionWithIn
import Derived.Lib.PrintData
import Derived.Test.YtombehaaaojhdaaDoorVb
set_option linter.unusedVariables false
namespace Go.Proofs.YtombehaaaojhdaaDoor
open Go.RowKit
attribute [local go_sem] Oper.semAt_some

theorem tabSlice_below {g : Nat} {k : IntKind} {t : List Nat} {w w' : World} (h : Lib.TabSlice g k t w) (hb : Below w.heap.size w w') : Lib.TabSlice g k t w' := by
  obtain ⟨R, o, c, h1, h2⟩ := h
  exact ⟨R, o, c, cell_keep hb h1, fun j hj => cell_keep hb (h2 j hj)⟩

/-- the tables that strconv reads, as their initialisers lay them -/
def TabsW (w : World) : Prop := TabW w ∧ Lib.PrintTabsAt 4 5 6 7 Lib.goPrintTabs w ∧ Lib.Utf8Tabs 2 3 w

theorem TabsW.below {w w' : World} (h : TabsW w) (hb : Below w.heap.size w w') : TabsW w' := by
  obtain ⟨h1, ⟨a, b, c, d, r⟩, h3⟩ := h
  exact ⟨h1.below hb, ⟨tabSlice_below a hb, tabSlice_below b hb, tabSlice_below c hb, tabSlice_below d hb, r⟩, ⟨fun c hc => cell_keep hb (h3.1 c hc), fun i hi => ⟨cell_keep hb (h3.2 i hi).1, cell_keep hb (h3.2 i hi).2⟩⟩⟩

def quoteText (s : List UInt8) : List UInt8 := (strOfNums (Lib.quoteZ Lib.goPrintTabs ⟨s.toArray⟩)).data.toList

theorem quoteText_le (s : List UInt8) : (quoteText s).length ≤ 10 * s.length + 2 := by
  have h := Lib.quoteZ_length_le Lib.goPrintTabs ⟨s.toArray⟩
  have e : (quoteText s).length = (strOfNums (Lib.quoteZ Lib.goPrintTabs ⟨s.toArray⟩)).size := Array.length_toList
  rw [e, strOfNums_size]
  exact h

theorem quote_any (s : List UInt8) (w : World) (hs : s.length ≤ 2000000) (ht : TabsW w) :
    Calls Tryd.prog 24 #[.string ⟨s.toArray⟩] w fun e w' => e = .returned (.string ⟨(quoteText s).toArray⟩) ∧ Below w.heap.size w w' :=
  (Tryd.strconv_Quote Lib.goPrintTabs ⟨s.toArray⟩ w (by simp [ByteArray.size]; omega) ht.2.1 ht.2.2).mono fun e w' ⟨he, hb⟩ => ⟨by rw [he]; rfl, hb⟩

structure PairV where
  key : List UInt8
  val : List UInt8
  gone : Bool
def PairV.ok (p : PairV) : Prop := p.key.length ≤ 2000000 ∧ p.val.length ≤ 2000000
def PairV.text (p : PairV) : List UInt8 := rowText [quoteText p.key, [61], quoteText p.val]

abbrev PV := { p : PairV // p.ok }
def PairsAt (w : World) (b o : Nat) (ps : List PV) : Prop := ∀ (k : Nat) p, ps[k]? = some p →
  w.cell? ⟨b, o + k * 3, none⟩ = some (.string ⟨p.1.key.toArray⟩) ∧ w.cell? ⟨b, o + k * 3 + 1, none⟩ = some (.string ⟨p.1.val.toArray⟩) ∧ w.cell? ⟨b, o + k * 3 + 2, none⟩ = some (.bool p.1.gone)
theorem PairsAt.below {w w' : World} {b o B : Nat} {ps : List PV} (h : PairsAt w b o ps) (hb : Below B w w') (hB : b < B) : PairsAt w' b o ps := fun k p hp =>
  let ⟨c0, c1, c2⟩ := h k p hp
  ⟨(hb.cell (p := ⟨b, _, none⟩) hB).trans c0, (hb.cell (p := ⟨b, _, none⟩) hB).trans c1, (hb.cell (p := ⟨b, _, none⟩) hB).trans c2⟩

theorem join3 (a b c : List UInt8) : Lib.join [a, b, c] [32] = a ++ [32] ++ b ++ [32] ++ c := by simp [Lib.join]
theorem pairText_le (p : PairV) (h : p.ok) : p.text.length ≤ 50000000 := by
  have h1 := quoteText_le p.key
  have h2 := quoteText_le p.val
  obtain ⟨a, b⟩ := h
  simp only [PairV.text, rowText, join3, List.length_append, List.length_cons, List.length_nil]
  omega

theorem grown_of_below {w w' : World} (h : Below w.heap.size w w') : w.grownBy w' none := ⟨h.os, h.tape, h.output, h.size, fun i hi _ => h.block i hi⟩
theorem cells3 (w : World) (t : TypeId) (a b c : List UInt8) : ∀ (j : Nat) x, [a, b, c][j]? = some x → (w.alloc (.cells #[.string ⟨a.toArray⟩, .string ⟨b.toArray⟩, .string ⟨c.toArray⟩] t)).cell? ⟨w.heap.size, 0 + j, none⟩ = some (.string ⟨x.toArray⟩) := by
  intro j x hx
  rw [Nat.zero_add, (Blk.new w t _).cell j]
  match j, hx with
  | 0, hx => simp at hx; subst hx; rfl
  | 1, hx => simp at hx; subst hx; rfl
  | 2, hx => simp at hx; subst hx; rfl

theorem wideCall {f : FuncId} {args : Array Value} {w : World} {R : Ending → World → Prop} {n l : Nat} (h : Calls Tryd.prog f args w R) : CallsIn (Fence.wide.inRound l) n Tryd.prog f args w R := CallsIn.inRound l (callsIn_wide.2 h)

def PairsPost (ps : List PV) (J Jx : List PV → World → Prop) (e : Ending) (W' : World) : Prop := (∃ v, e = .returned v) ∧
      ((∃ ys, ys = ps ∧ J ys W') ∨ (∃ pre, (pre <+: ps) ∧ Jx pre W'))

theorem yieldSay {A B : World → Prop} : ∀ (e : Ending) (W : World), ((e = .returned (.bool true) ∧ A W) ∨ (e = .returned (.bool false) ∧ B W)) → ∃ bb, e = .returned (.bool bb) ∧ ((bb = true ∧ A W) ∨ (bb = false ∧ B W)) :=
  fun e W h => h.elim (fun h => ⟨true, h.1, .inl ⟨rfl, h.2⟩⟩) (fun h => ⟨false, h.1, .inr ⟨rfl, h.2⟩⟩)

set_option maxRecDepth 100000 in
set_option maxHeartbeats 2000000 in
theorem pairs1_in (n : Nat) (hn : 3 ≤ n) (l Bs n₀ b off cap : Nat) (ps : List PV) (hlen : ps.length ≤ 1000) (hb : b < n₀) (J Jx : List PV → World → Prop)
    (hY : ∀ pre x W, J pre W → pre.length < ps.length → YieldAt Fence.wide (n - 1) Tryd.prog l #[.string ⟨x.1.text.toArray⟩] W fun e W' =>
      (e = .returned (.bool true) ∧ J (pre ++ [x]) W' ∧ Below n₀ W W') ∨ (e = .returned (.bool false) ∧ Jx (pre ++ [x]) W'))
    (W : World) (hn₀ : n₀ ≤ W.heap.size) (hBs : W.cell? ⟨Bs, 2, none⟩ = some (.slice (some ⟨b, off, none⟩) ps.length cap)) (hc : PairsAt W b off ps) (hT : TabsW W) (hn0 : ∀ w', Below n₀ W w' → TabsW w') (hJ : ∀ s W1 W2, J s W1 → Below W1.heap.size W1 W2 → J s W2) (h0 : J [] W) :
    CallsIn Fence.wide n Tryd.prog 23 #[.func (.yield l) #[] #[], .pointer (some ⟨Bs, 0, none⟩)] W (PairsPost ps J Jx) := by
  refine callsIn_of_wp Tryd.func23 rfl trivial ?_ rfl
  simp only [Tryd.ntmps23, List.size_toArray, List.length_cons, List.length_nil, Nat.reduceAdd, Nat.reduceSub, Array.replicate_succ, Array.replicate_zero, List.push_toArray, List.append_toArray, List.nil_append, List.cons_append]
  gi_wp2_with fail
  gi_loopw [8] (fun i wr => ∃ k : Nat, k ≤ ps.length ∧ i = .int .i64 k ∧ J (ps.take k) wr ∧ Below n₀ W wr) (fun i _ => ps.length - (intOf i).toNat)
  case atStart => exact ⟨0, Nat.zero_le _, rfl, h0, Below.refl _ _⟩
  case round =>
    obtain ⟨k, hk, rfl, hJs, hnx⟩ := hrel
    by_cases hlt : k < ps.length
    · obtain ⟨p, hpk⟩ : ∃ p, ps[k]? = some p := ⟨_, List.getElem?_eq_getElem hlt⟩
      obtain ⟨c0, c1, c2⟩ := (hc.below hnx hb) k p hpk
      have hsn : ps.take (k + 1) = ps.take k ++ [p] := by
        rw [List.take_add_one, hpk]; rfl
      have HSN := Lib.hid hsn
      have hsn2 : ps.take (k + 1) <+: ps := List.take_prefix _ _
      have HSN2 := Lib.hid hsn2
      clear hsn hsn2
      clear hpk
      obtain ⟨⟨ky, vl, gn⟩, hok⟩ := p
      simp only at c0 c1 c2
      gi_wp2_with fail
      have hT1 : TabsW wr := hn0 _ hnx
      have hb1 : Below wr.heap.size wr (wr.alloc (.cells #[.string ⟨ky.toArray⟩, .string ⟨vl.toArray⟩, .bool gn] 38)) := (Below.refl _ _).alloc (Nat.le_refl _) _
      have hB := Blk.new wr 38 #[.string ⟨ky.toArray⟩, .string ⟨vl.toArray⟩, .bool gn]
      have hT1 := hT1.below hb1
      generalize (wr.alloc (.cells #[.string ⟨ky.toArray⟩, .string ⟨vl.toArray⟩, .bool gn] 38)) = w1 at *
      have c0 := hB.cell 0
      have c1 := hB.cell 1
      simp at c0 c1
      have HT := Lib.hid hT1
      clear hT1 hT hn0 hc
      have hcc : ∀ w', Below w1.heap.size w1 w' → w'.cell? ⟨wr.heap.size, 1, none⟩ = some (.string ⟨vl.toArray⟩) := fun w' hb => cell_keep hb c1
      have HC := Lib.hid hcc
      clear hcc
      have HN0 := Lib.hid (Nat.le_trans hn₀ hnx.size)
      have HLp := Lib.hid hok
      have hlen3 : (Lib.join [quoteText ky, [61], quoteText vl] [32]).length ≤ 1000000000 := by
        have h1 := quoteText_le ky
        have h2 := quoteText_le vl
        have h3 : ky.length ≤ 2000000 := hok.1
        have h4 : vl.length ≤ 2000000 := hok.2
        simp only [join3, List.length_append, List.length_cons, List.length_nil]; omega
      have HL3 := Lib.hid hlen3
      clear hlen3
      gi_region_with (first 
         | (refine ⟨trivial, (fun h => by cases h), ?_⟩; gi_at_call 24; refine (callsIn_wide.2 (quote_any _ _ (by first | exact HLp.out.1 | exact HLp.out.2) ?_)).mono ?_; (first | exact HT.out.below hB2 | exact HT.out.below (Below.refl _ _).drew); rintro e w2 ⟨rfl, hb2⟩; have hB2 : Below w1.heap.size w1 w2 := (by first | exact below_then hB2 hb2 | exact below_of_drew hb2); have hcx := HC.out _ hB2)
         | (refine ⟨trivial, (fun h => by cases h), ?_⟩; gi_at_call 16; refine (callsIn_wide.2 (row_any _ 0 3 [quoteText ky, [61], quoteText vl] _ (cells3 _ _ _ _ _) (by simp) (by simp) (by simp) HL3.out)).mono ?_; rintro e w4 ⟨rfl, hb4⟩; have hB4 : Below w1.heap.size w1 w4 := below_then (hB2.alloc hB2.size _) hb4; have hJ4 := hJ _ _ w4 hJs (below_then hb1 hB4); obtain ⟨fn, tmps, assign, body, hy, hR⟩ := hY _ ⟨⟨ky, vl, gn⟩, HLp.out⟩ w4 hJ4 (by simp; omega); dsimp only [PairV.text] at hy)
         | (refine ⟨(fun h => by cases h), (hR.mono yieldSay).mono ?_⟩; rintro e W3 ⟨bb, rfl, hbb⟩; have HBB := Lib.hid hbb; clear hbb))
      all_goals (rcases HBB.out with ⟨rfl, hJ3, hk3⟩ | ⟨rfl, hJx3⟩)
      all_goals gi_wp2
      all_goals first
        | (refine bodyPost_ret (results_none rfl _ _ _) rfl ?_
           unfold PairsPost
           exact ⟨⟨_, rfl⟩, .inr ⟨_, by rw [← HSN.out]; exact HSN2.out, hJx3⟩⟩)
        | (go_roundw
           case rel => (first | exact ⟨k + 1, by omega, by go_num, by rw [HSN.out]; exact hJ3, hnx.trans ((below_then hb1 hB4).mono HN0.out |>.trans hk3)⟩)
           case measure => simp [intOf]; omega)
    · obtain rfl : k = ps.length := by omega
      gi_wp2
      go_end0
      unfold PairsPost
      exact ⟨⟨_, rfl⟩, .inl ⟨_, rfl, by simpa using hJs⟩⟩

set_option maxRecDepth 100000 in
set_option maxHeartbeats 1000000 in
theorem pairs1_none (n : Nat) (l Bs cap : Nat) (ao : Option Addr) (J : List PV → World → Prop) (W : World) (hBs : W.cell? ⟨Bs, 2, none⟩ = some (.slice ao 0 cap)) (h0 : J [] W) :
    CallsIn Fence.wide n Tryd.prog 23 #[.func (.yield l) #[] #[], .pointer (some ⟨Bs, 0, none⟩)] W fun e W' => (∃ v, e = .returned v) ∧ J [] W' := by
  refine callsIn_of_wp Tryd.func23 rfl trivial ?_ rfl
  simp only [Tryd.ntmps23, List.size_toArray, List.length_cons, List.length_nil, Nat.reduceAdd, Nat.reduceSub, Array.replicate_succ, Array.replicate_zero, List.push_toArray, List.append_toArray, List.nil_append, List.cons_append]
  gi_wp2_with fail
  gi_loopw [8] (fun i wr => i = .int .i64 0 ∧ J [] wr) (fun _ _ => 0)
  case atStart => exact ⟨rfl, h0⟩
  case round =>
    obtain ⟨rfl, hJs⟩ := hrel
    gi_wp2
    go_end0
    exact ⟨⟨_, rfl⟩, hJs⟩

/-- the slice value of a state's pairs -/
def PairsV (n₀ : Nat) (w : World) (sv : Value) (ps : List PV) : Prop :=
  (∃ ao cap, sv = .slice ao 0 cap ∧ ps = []) ∨ (∃ b off cap, sv = .slice (some ⟨b, off, none⟩) ps.length cap ∧ b < n₀ ∧ PairsAt w b off ps)
theorem PairsV.below {n₀ B : Nat} {w w' : World} {sv : Value} {ps : List PV} (h : PairsV n₀ w sv ps) (hb : Below B w w') (hB : n₀ ≤ B) : PairsV n₀ w' sv ps := by
  rcases h with h | ⟨b, off, cap, h1, h2, h3⟩
  · exact .inl h
  · exact .inr ⟨b, off, cap, h1, h2, h3.below hb (by omega)⟩

theorem pairs_stops (n : Nat) (hn : 3 ≤ n) (Bs n₀ : Nat) (sv : Value) (ps : List PV) (hlen : ps.length ≤ 1000) (w0 w : World) (hT : TabsW w0) (hw : Below w0.heap.size w0 w) (h00 : w0.heap.size ≤ n₀) (hBs : Bs < w.heap.size) (hn₀ : n₀ ≤ w.heap.size)
    (hc : w.cell? ⟨Bs, 2, none⟩ = some sv) (hP : PairsV n₀ w sv ps) :
    SeqStopsK Fence.wide n Tryd.prog 23 #[.pointer (some ⟨Bs, 0, none⟩)] (fun x : PV => #[Value.string ⟨x.1.text.toArray⟩]) (Below n₀) (fun ys => ys = ps) (fun pre => pre <+: ps) ps.length w := fun l J Jx W hW hJ hJx hY h0 => by
  have hc' := (hW.cell (p := ⟨Bs, 2, none⟩) hBs).trans hc
  rcases hP.below hW hn₀ with ⟨ao, cap, rfl, rfl⟩ | ⟨b, off, cap, rfl, hb, hcs⟩
  · exact (pairs1_none n l Bs cap ao J W hc' h0).mono fun e W' ⟨he, hj⟩ => ⟨he, .inl ⟨_, rfl, hj⟩⟩
  · have hw' : Below w0.heap.size w0 W := hw.trans (hW.mono (by omega))
    exact pairs1_in n hn l Bs n₀ b off cap ps hlen hb J Jx hY W (Nat.le_trans hn₀ hW.size) hc' hcs (hT.below hw') (fun w' hb => hT.below (hw'.trans (hb.mono h00)))
      (fun s W1 W2 hs hb => hJ s W1 W2 none hs (grown_of_below hb) (fun r e => by cases e)) h0

#print axioms pairs_stops
end Go.Proofs.YtombehaaaojhdaaDoor
