/- PROVED: tephralaw20.ViewRefs returns true and leaves its input as it was (the second form: inputs of bulk at most 1048576; the ten package variables holding what their initialisers lay). Conditions: those of the given statement, no other. -/
import Derived.Test.YtombehaaaojhdaaDoorCards
import Derived.Test.YtombehaaaojhdaaDoorTie
import Derived.Test.YtombehaaaojhdaaDoorLd
import Derived.Test.YtombehaaaojhdaaDoorBulk
import Derived.Test.YtombehaaaojhdaaDoorVrefs
import Derived.OpenShut
import Derived.Deep.Slices
import Derived.Deep.Fields
import Derived.ChangeSame
import Derived.Below
import Derived.Carry
set_option linter.unusedVariables false
namespace Go.Proofs.YtombehaaaojhdaaDoor
open Go.ChangeShapes Go.WideShapes Go.RowKit Go.Deep

section
variable {H : Type} {enc : TypeId × Value → H} {P : Program} {w : World} {base : Nat} {spare : Nat → Bool} {held : Bool}
theorem open_slice_fields {t e : TypeId} {fs : Array Field} {fuel : Nat} {cs : List Value} {x : DataW H × List MemPlace} (ht : P.underlying t = some (.slice e)) (he : P.underlying e = some (.struct fs))
    (hone : oneCellFields P fs = true) (hC : P.cellsOf e = fs.size) (h : DataW.trod enc P w base spare held fuel t cs = some x) :
    (cs = [.slice none 0 0] ∧ x = (.nil, [])) ∨
    ∃ (a : Addr) (len cap m : Nat) (D : Nat → DataW H) (Pl : Nat → List MemPlace), cs = [.slice (some a) len cap] ∧ base ≤ a.block ∧ len ≤ cap ∧ cap ≤ maxLen ∧ m = (if spare a.block then cap else len) ∧
      x = (.slice ((List.range len).map D) ((List.range (m - len)).map fun j => D (len + j)), MemPlace.row a (m * fs.size) ++ (List.range m).flatMap Pl) ∧
      ∀ i, i < m → ∃ (ys : List (DataW H × List MemPlace)) (n : Nat), D i = .agg (ys.map (·.1)) ∧ Pl i = ys.flatMap (·.2) ∧ ys.length = fs.size ∧
        ∀ (j : Nat) (f : Field), fs[j]? = some f → ∃ (v : Value) (y : DataW H × List MemPlace), w.cell? (a.add (i * fs.size + j)) = some v ∧ ys[j]? = some y ∧ DataW.trod enc P w base spare held n f.type [v] = some y := by
  rcases open_slice ht h with h0 | ⟨a, len, cap, m, n, D, Pl, hcs, hb, hl, hm, hmm, hx, hi⟩
  · exact .inl h0
  · refine .inr ⟨a, len, cap, m, D, Pl, hcs, hb, hl, hm, hmm, by rw [hC] at hx; exact hx, fun i him => ?_⟩
    obtain ⟨cs', hc, ht'⟩ := hi i him
    rw [hC] at hc
    obtain ⟨ys, n', hn', hy, hlen, hyl, hf⟩ := DataW.trod_struct he ht'
    obtain ⟨_, hcl, hat⟩ := World.cells?_some hc
    simp only [Prod.mk.injEq] at hy
    refine ⟨ys, n', hy.1, hy.2, hyl, fun j f hj => ?_⟩
    obtain ⟨ho, hk⟩ := hone_of hone j f hj
    have hjl : j < fs.size := (Array.getElem?_eq_some_iff.1 hj).1
    have hcell := hat j hjl
    have hv : cs'[j]? = some (cs'[j]'(by omega)) := List.getElem?_eq_getElem (by omega)
    have h1 := hf j f hj
    rw [ho, hk] at h1
    have hone' : (cs'.drop j).take 1 = [cs'[j]'(by omega)] := by
      rw [List.drop_eq_getElem_cons (by omega)]
      rfl
    rw [hone'] at h1
    have hys : ys[j]? = some (ys[j]'(by omega)) := List.getElem?_eq_getElem (by omega)
    refine ⟨_, _, ?_, hys, h1.trans hys⟩
    rw [← Go.Deep.add_add, hcell, hv]

theorem post_of_below {f : Func} {s : ChangeSpec} {apart fresh handsOn again : Bool} {W W' : World} {args : Array Value} {v : Value} {ds gs : List (DataW H)} {before pa pv : List MemPlace}
    (hW : DataW.Whole enc P f.params.toList s.vars apart W args.toList ds gs before)
    (hres : ∀ (b : Nat) (sp : Nat → Bool) (hd : Bool), DataW.TrodAll enc P W' b sp hd f.resultTypes.toList (v.resultList f.resultTypes.size) (s.fn H (ds ++ gs)).results [])
    (hargs : ∀ sp : Nat → Bool, (∀ p ∈ before, sp p.block = true) → DataW.TrodAll enc P W' 0 sp true f.params.toList args.toList (s.fn H (ds ++ gs)).args pa)
    (hvars : ∀ sp : Nat → Bool, (∀ p ∈ before, sp p.block = true) → DataW.TrodVars enc P W' sp s.vars (s.fn H (ds ++ gs)).vars pv)
    (hps : before = pa ++ pv) (hb : Below W.heap.size W W')
    (hok : ∀ (j : Nat) (t : TypeId) (r : Value), f.resultTypes[j]? = some t → (v.resultList f.resultTypes.size)[j]? = some r → Value.okWide P W' .any 0 t r) :
    s.post enc P f apart fresh handsOn again W args v W' := by
  have hlt : ∀ p ∈ before, p.block < W.heap.size := fun p hp => hW.lt p hp
  have hold : ∀ p ∈ before, (fun b => decide (b < W.heap.size)) p.block = true := fun p hp => by simpa using hlt p hp
  refine ⟨ds, gs, before, [], pa, pv, hW, hres _ _ _, hargs _ hold, hvars _ hold, World.keptBut_mono (fun p hp => ⟨hp, ?_⟩) (hb.frame (· ∈ before)), fun _ => ?_⟩
  · rw [hps, List.mem_append] at hp
    exact Or.inr hp
  · obtain ⟨_, _, _, _, _, hz, hn⟩ := hW
    refine ⟨hok, _, _, ([] ++ pa) ++ pv, ⟨[] ++ pa, pv, trodAll_append (hargs _ (fun _ _ => rfl)) (hres _ _ _), hvars _ (fun _ _ => rfl), rfl, ?_, ?_⟩, ?_⟩
    · intro b off hp
      have hin : MemPlace.cell b off ∈ before := by rw [hps]; simpa using hp
      rw [hb.frozen (hlt _ hin)]
      exact hz b off hin
    · intro ha
      have := hn ha
      rw [hps] at this
      simpa using this
    · intro p hp _
      rw [hps]
      simpa using hp
end

theorem exists_list {α : Type} {P : Nat → α → Prop} : ∀ n, (∀ i, i < n → ∃ a, P i a) → ∃ l : List α, l.length = n ∧ ∀ k a, l[k]? = some a → P k a
  | 0, _ => ⟨[], rfl, fun _ _ h => by cases h⟩
  | n + 1, h => by
    obtain ⟨l, hl, hp⟩ := exists_list n (fun i hi => h i (by omega))
    obtain ⟨a, ha⟩ := h n (by omega)
    refine ⟨l ++ [a], by simp [hl], fun k b hb => ?_⟩
    rcases Nat.lt_or_ge k l.length with hk | hk
    · rw [List.getElem?_append_left hk] at hb; exact hp k b hb
    · rw [List.getElem?_append_right hk] at hb
      have h0 : k - l.length = 0 := by
        rcases Nat.eq_zero_or_pos (k - l.length) with h0 | h0
        · exact h0
        · rw [List.getElem?_eq_none (by simp; omega)] at hb; cases hb
      rw [h0] at hb
      simp at hb; subst hb
      obtain rfl : k = n := by omega
      exact ha

theorem own : ownKnob Tryd.prog.godebug = none := by kernel_rfl
theorem laidOut : laidOutB Tryd.prog = true := by kernel_rfl

theorem i64_wf {n : Int} (h : (Lit.int .i64 n).wf = true) : i64 n := by
  simp [Lit.wf, IntKind.min, IntKind.max, IntKind.signed, IntKind.bits] at h
  exact ⟨by omega, by omega⟩

set_option maxRecDepth 100000 in
theorem refs_open {H : Type} {enc : TypeId × Value → H} {W : World} {v : Value} {d : DataW H} {p : List MemPlace} {base : Nat} {spare : Nat → Bool} {held : Bool} {base2 : Nat}
    (hv : Value.okWide Tryd.prog W .any base2 22 v) (h : DataW.Trod enc Tryd.prog W base spare held 22 v d p) (hk : Rows.uptoBulk d ≤ 1048576) :
    v = .slice none 0 0 ∨ ∃ (a : Addr) (len cap : Nat), v = .slice (some a) len cap ∧ len ≤ cap ∧ cap ≤ maxLen ∧ (0 < len → ∃ (b o : Nat) (rs : List RefV), a = ⟨b, o, none⟩ ∧ rs.length = len ∧ RefsAt W b o rs) := by
  obtain ⟨fuel, hf⟩ := h
  obtain ⟨a0, len0, cap0, rfl⟩ := okWide_slice Tryd.underlying22 hv
  rcases open_slice_fields Tryd.underlying22 Tryd.underlying29 (by kernel_rfl) (by kernel_rfl) hf with ⟨h0, _⟩ | ⟨a, len, cap, m, D, Pl, hcs, hb, hl, hm, hmm, hx, hi⟩
  · simp [Value.cells] at h0
    obtain ⟨rfl, rfl, rfl⟩ := h0
    exact .inl rfl
  · simp [Value.cells] at hcs
    obtain ⟨rfl, rfl, rfl⟩ := hcs
    refine .inr ⟨a, _, _, rfl, hl, hm, fun hpos => ?_⟩
    simp only [Prod.mk.injEq] at hx
    have hel := bulks.slice_elems ((List.range len0).map D) ((List.range (m - len0)).map fun j => D (len0 + j))
    rw [← hx.1] at hel
    have hlm : len0 ≤ m := by rw [hmm]; split <;> omega
    have hone : ∀ i, i < len0 → ∃ r : RefV, r.ok ∧ W.cell? (a.add (i * 4)) = some (.string ⟨r.name.toArray⟩) ∧ W.cell? (a.add (i * 4 + 1)) = some (.int .i64 r.kind) ∧
        W.cell? (a.add (i * 4 + 2)) = some (.int .i64 r.fr) ∧ W.cell? (a.add (i * 4 + 3)) = some (.int .i64 r.tt) := by
      intro i hil
      obtain ⟨ys, n, hD, _, hyl, hfs⟩ := hi i (by omega)
      have hmem : D i ∈ (List.range len0).map D := List.mem_map_of_mem (List.mem_range.2 hil)
      have hDi := bulks.part_le hmem
      obtain ⟨v0, y0, hc0, hy0, ht0⟩ := hfs 0 _ rfl
      obtain ⟨v1, y1, hc1, hy1, ht1⟩ := hfs 1 _ rfl
      obtain ⟨v2, y2, hc2, hy2, ht2⟩ := hfs 2 _ rfl
      obtain ⟨v3, y3, hc3, hy3, ht3⟩ := hfs 3 _ rfl
      obtain ⟨s, hs, hys, _⟩ := DataW.trod_string Tryd.underlying9 ht0
      obtain ⟨n1, hn1, _, hw1⟩ := DataW.trod_int Tryd.underlying27 ht1
      obtain ⟨n2, hn2, _, hw2⟩ := DataW.trod_int Tryd.underlying3 ht2
      obtain ⟨n3, hn3, _, hw3⟩ := DataW.trod_int Tryd.underlying3 ht3
      simp only [List.cons.injEq, and_true] at hs hn1 hn2 hn3
      subst hs hn1 hn2 hn3
      have hy0m : y0.1 ∈ ys.map (·.1) := List.mem_map_of_mem (List.mem_of_getElem? hy0)
      have hsb := bulks.part_le hy0m
      rw [hys, bulks.string_eq] at hsb
      rw [hD] at hDi
      simp only [Rows.uptoBulk] at hDi
      have hsl : s.data.toList.length ≤ 1048576 := by omega
      exact ⟨⟨s.data.toList, n1, n2, n3⟩, ⟨by show s.data.toList.length ≤ 2000000; omega, i64_wf hw2, i64_wf hw3⟩, hc0, hc1, hc2, hc3⟩
    obtain ⟨rs, hrl, hrs⟩ := exists_list len0 hone
    have hsp : a.spot = none := by
      obtain ⟨r, _, hc, _⟩ := hone 0 hpos
      unfold World.cell? at hc
      split at hc
      · rename_i hq
        cases hs : a.spot with
        | none => rfl
        | some x =>
          have : (a.add (0 * 4)).spot.isSome = true := by simp [Addr.add, hs]
          rw [if_pos this] at hc
          cases hc
      · cases hc
    obtain ⟨b, o, sp⟩ := a
    simp only at hsp
    subst hsp
    refine ⟨b, o, rs, rfl, hrl, fun k r hr => ?_⟩
    obtain ⟨hok, c0, c1, c2, c3⟩ := hrs k r hr
    refine ⟨hok, ?_, c1, c2, c3⟩
    rcases Nat.eq_zero_or_pos k with rfl | hk0
    · simpa [Addr.add] using c0
    · have hne : k * 4 ≠ 0 := by omega
      simpa [Addr.add, hne] using c0

set_option maxRecDepth 100000 in
/-- the contract at the row -/
theorem refs_contract (H : Type) (enc : TypeId × Value → H) (W : World) (base : Nat) (args : Array Value) (ds gs : List (DataW H)) (before : List MemPlace)
    (hval : ∀ (j : Nat) t v, Tryd.f3.params[j]? = some t → args[j]? = some v → Value.okWide Tryd.prog W .any base t v)
    (hW : DataW.Whole enc Tryd.prog Tryd.f3.params.toList Rows.viewRefsSpec.vars false W args.toList ds gs before)
    (hk : Rows.uptoSmall H (ds ++ gs) = true) (hL : laidMetH Tryd.prog laidList W) :
    Calls Tryd.prog 3 args W fun e W' => ∃ v, e = .returned v ∧ Rows.viewRefsSpec.post enc Tryd.prog Tryd.f3 false true false false W args v W' := by
  have hW' := hW
  have hT := tabs_of_laid hL
  obtain ⟨p, q, hA0, hV, rfl, hfz, hnd⟩ := hW
  have hA : DataW.TrodAll enc Tryd.prog W 0 (fun _ => true) true Tryd.f3.params.toList args.toList ds p := hA0
  rw [Tryd.params3] at hA hval
  obtain ⟨v0, vs0, d0, ds0, p0, q0, hargs, rfl, rfl, h0, r0⟩ := trodAll_cons hA
  obtain ⟨v1, vs1, d1, ds1, p1, q1, hargs1, rfl, rfl, h1, r1⟩ := trodAll_cons r0
  obtain ⟨rfl, rfl, rfl⟩ := trodAll_nil r1
  obtain rfl : args = #[v0, v1] := by cases args; simp_all
  obtain ⟨rfl, rfl⟩ := trodVars_none hV
  obtain ⟨fl, rfl, rfl, rfl, hfw⟩ := open_int Tryd.underlying3 (hval 1 3 v1 rfl rfl) h1
  have h0k := h0
  simp only [List.append_nil] at hW' hk
  have hbd := bulks.bound hk
  have hd0 : Rows.uptoBulk d0 ≤ 1048576 := by simp only [Rows.uptoBulkAll] at hbd; omega
  have hfl := i64_wf hfw
  have hlt0 : ∀ x ∈ p0, x.block < W.heap.size := fun x hx => hW'.lt x (by simp [hx])
  have walk : Calls Tryd.prog 3 #[v0, .int .i64 fl] W fun e w' => e = .returned (.bool true) ∧ Below W.heap.size W w' := by
    rcases refs_open (hval 0 22 v0 rfl rfl) h0 hd0 with rfl | ⟨a, len, cap, rfl, hlc, hcm, hne⟩
    · exact refs_walk_none none 0 fl hfl.1 hfl.2 W hT
    · rcases Nat.eq_zero_or_pos len with rfl | hpos
      · exact refs_walk_none (some a) cap fl hfl.1 hfl.2 W hT
      · obtain ⟨b, o, rs, rfl, rfl, hR⟩ := hne hpos
        exact refs_walk b o cap rs fl hfl.1 hfl.2 W hT hR hlc (by unfold maxLen at hcm; omega)
  refine walk.mono fun e W' ⟨he, hg⟩ => ?_
  subst he
  exact ⟨_, rfl, post_of_below (pa := p0 ++ ([] ++ [])) (pv := []) hW' (fun _ _ _ => trodAll_cons_mk (shut_bool Tryd.underlying4 _) trodAll_mk0)
    (fun sp hsp => trodAll_cons_mk (WideElems.Trod_stays laidOut (by kernel_rfl) (of_decide_eq_true (by kernel_rfl)) h0k (fun x hx => hg.same (hlt0 x hx)) (fun x hx => hsp x (by simpa using hx))) (trodAll_cons_mk (shut_int Tryd.underlying3 hfw) trodAll_mk0)) (fun _ _ => rfl) (by simp)
    hg (ok_one (by kernel_rfl) rfl (okWide_bool_mk Tryd.underlying4 _))⟩

theorem refs_reads (os : Os) {H : Type} (enc : TypeId × Value → H) : ∃ places, DataW.whole enc Tryd.prog (memW os #[.slice none 0 0, .int .i64 0]) Tryd.f3.params.toList Rows.viewRefsSpec.vars false #[Value.slice none 0 0, .int .i64 0].toList 8 = some ([.nil, .lit (.int .i64 0)], [], places) :=
  ⟨[], by kernel_rfl⟩

set_option maxRecDepth 100000 in
theorem refs_liftedUpto (os : Os) (started : os.Started) (H : Type) (enc : TypeId × Value → H) (F : Stop.Interp) :
    ReturnsInHanded {} Tryd.checked os 3 .any ((Rows.OpenSpec.upto Rows.viewRefsSpec).preRow enc Tryd.prog Tryd.f3 Rows.viewRefsUptoRow.domain false Rows.viewRefsUptoRow.laid) (((Rows.OpenSpec.upto Rows.viewRefsSpec).at F).post enc Tryd.prog Tryd.f3 false true false false) := by
  obtain ⟨places, hx⟩ := refs_reads os enc
  refine returnsInHanded_of_row (C := Tryd.checked) (s := Rows.OpenSpec.upto Rows.viewRefsSpec) own started (by kernel_rfl) Tryd.func3
    (witness_row_atRef (enc := enc) (C := Tryd.checked) false (laidWorld os) #[.slice none 0 0, .int .i64 0] rfl (by kernel_rfl) (by kernel_rfl) (by kernel_rfl)
      (OpenSpec.preRow_of_cond 8 hx (by kernel_rfl) (fun k hk => by cases hk; kernel_rfl) (by kernel_rfl) (laid_met os _))) ?_
  intro W base args ds gs before hval hW _ hcond _ hL _ _
  exact refs_contract H enc W base args ds gs before hval hW (hcond _ rfl) hL

theorem refs_saidUpto : Rows.ViewRefsUptoSaid :=
  OpenClaim.holds_of_cond 3 Tryd.f3 rfl rfl rfl rfl rfl rfl rfl ⟨rfl, rfl, rfl, rfl, rfl⟩ rfl rfl rfl rfl rfl (by kernel_rfl) Tryd.func3 (by kernel_rfl)
    (of_decide_eq_true (by kernel_rfl)) (by unfold Func.isWrapper; rw [if_neg (of_decide_eq_false (by kernel_rfl))]; exact ⟨rfl, rfl⟩)
    (fun os started H enc _ F => by rw [OpenClaim.pre_eq_preRow]; exact refs_liftedUpto os started H enc F)

theorem refs_plain (f : FuncId) (fn : Func) (hf : Tryd.pinned.checked.prog.funcNamed "tephra/tephralaw20.ViewRefs" = some f) (hfn : Tryd.pinned.checked.prog.funcs[f]? = some fn) :
    false = Tryd.pinned.checked.prog.looks [] ∧ ∀ (j : Nat) t, fn.params[j]? = some t → Tryd.pinned.checked.prog.wantsStandIn t = false := by
  obtain rfl : f = 3 := Option.some.inj ((show Tryd.prog.funcNamed "tephra/tephralaw20.ViewRefs" = some 3 by kernel_rfl).symm.trans hf) |>.symm
  obtain rfl : fn = Tryd.f3 := (Option.some.inj (Tryd.func3.symm.trans hfn)).symm
  refine ⟨by kernel_rfl, fun j t ht => ?_⟩
  rw [Tryd.params3] at ht
  have hm := Array.mem_of_getElem? ht
  simp only [List.mem_toArray, List.mem_cons, List.not_mem_nil, or_false] at hm
  rcases hm with rfl | rfl
  · exact (show Tryd.prog.wantsStandIn 22 = false by kernel_rfl)
  · exact (show Tryd.prog.wantsStandIn 3 = false by kernel_rfl)

/-- THE CARD -/
theorem refs_cardUpto : Rows.ViewRefsUptoCardSaid :=
  Claim7.holds_tied_plain_at .later [] _ _ _ _ refs_saidUpto (fun _ h => by cases h) (by kernel_rfl) (fun _ h => by cases h) viewRefsUpto_row_tie rfl ⟨rfl, rfl⟩ (by kernel_rfl) rfl refs_plain (by kernel_rfl)
#print axioms refs_cardUpto
end Go.Proofs.YtombehaaaojhdaaDoor
