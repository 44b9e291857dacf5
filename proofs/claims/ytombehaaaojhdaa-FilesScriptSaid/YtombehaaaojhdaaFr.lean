/- PROVED: tephralaw04.FilesScript returns true and leaves its input as it was. Conditions: those of the given statement, no other. -/
import Derived.Test.YtombehaaaojhdaaFd
import Derived.Test.YtombehaaaojhdaaRows
import Derived.OpenShut
import Derived.Deep.Slices
import Derived.Deep.Fields
import Derived.ChangeSame
import Derived.JoinedOf
import Derived.JoinedAt
import Derived.RowKit3
import Derived.Below
import Derived.Carry
set_option linter.unusedVariables false
namespace Go.Proofs.Ytombehaaaojhdaa
open Go.ChangeShapes Go.WideShapes Go.ChangeAt Go.RowKit Go.Deep

section
variable {H : Type} {enc : TypeId × Value → H} {P : Program} {w : World} {base : Nat} {spare : Nat → Bool} {held : Bool}
theorem open_slice_fields {t e : TypeId} {fs : Array Field} {fuel : Nat} {cs : List Value} {x : DataW H × List MemPlace} (ht : P.underlying t = some (.slice e)) (he : P.underlying e = some (.struct fs))
    (hone : oneCellFields P fs = true) (hC : P.cellsOf e = fs.size) (h : DataW.trod enc P w base spare held fuel t cs = some x) :
    (cs = [.slice none 0 0] ∧ x = (.nil, [])) ∨
    ∃ (a : Addr) (len cap m : Nat) (D : Nat → DataW H) (Pl : Nat → List MemPlace), cs = [.slice (some a) len cap] ∧ base ≤ a.block ∧ len ≤ cap ∧ cap ≤ maxLen ∧ m = (if spare a.block then cap else len) ∧
      x = (.slice ((List.range len).map D) ((List.range (m - len)).map fun j => D (len + j)), MemPlace.row a (m * fs.size) ++ (List.range m).flatMap Pl) ∧
      ∀ i, i < m → ∃ (ys : List (DataW H × List MemPlace)) (n : Nat), D i = .agg (ys.map (·.1)) ∧ Pl i = ys.flatMap (·.2) ∧ ys.length = fs.size ∧
        ∀ (j : Nat) (f : Field), fs[j]? = some f → ∃ (v : Value) (y : DataW H × List MemPlace), w.cell? (a.add (i * fs.size + j)) = some v ∧ ys[j]? = some y ∧ DataW.trod enc P w base spare held n f.type [v] = some y := by
  rcases open_slice ht h with h0 | ⟨a, len, cap, m, n, D, Pl, hcs, hb, hl, hm, hmm, hx, hi⟩
  · exact .inl h0
  · refine .inr ⟨a, len, cap, m, D, Pl, hcs, hb, hl, hm, hmm, by rw [hC] at hx; exact hx, fun i him => ?_⟩
    obtain ⟨cs', hc, ht'⟩ := hi i him
    rw [hC] at hc
    obtain ⟨ys, n', hn', hy, hlen, hyl, hf⟩ := DataW.trod_struct he ht'
    obtain ⟨_, hcl, hat⟩ := World.cells?_some hc
    simp only [Prod.mk.injEq] at hy
    refine ⟨ys, n', hy.1, hy.2, hyl, fun j f hj => ?_⟩
    obtain ⟨ho, hk⟩ := hone_of hone j f hj
    have hjl : j < fs.size := (Array.getElem?_eq_some_iff.1 hj).1
    have hcell := hat j hjl
    have hv : cs'[j]? = some (cs'[j]'(by omega)) := List.getElem?_eq_getElem (by omega)
    have h1 := hf j f hj
    rw [ho, hk] at h1
    have hone' : (cs'.drop j).take 1 = [cs'[j]'(by omega)] := by
      rw [List.drop_eq_getElem_cons (by omega)]
      rfl
    rw [hone'] at h1
    have hys : ys[j]? = some (ys[j]'(by omega)) := List.getElem?_eq_getElem (by omega)
    refine ⟨_, _, ?_, hys, h1.trans hys⟩
    rw [← Go.Deep.add_add, hcell, hv]

theorem post_of_below {f : Func} {s : ChangeSpec} {apart fresh handsOn again : Bool} {W W' : World} {args : Array Value} {v : Value} {ds gs : List (DataW H)} {before pa pv : List MemPlace}
    (hW : DataW.Whole enc P f.params.toList s.vars apart W args.toList ds gs before)
    (hres : ∀ (b : Nat) (sp : Nat → Bool) (hd : Bool), DataW.TrodAll enc P W' b sp hd f.resultTypes.toList (v.resultList f.resultTypes.size) (s.fn H (ds ++ gs)).results [])
    (hargs : ∀ sp : Nat → Bool, (∀ p ∈ before, sp p.block = true) → DataW.TrodAll enc P W' 0 sp true f.params.toList args.toList (s.fn H (ds ++ gs)).args pa)
    (hvars : ∀ sp : Nat → Bool, (∀ p ∈ before, sp p.block = true) → DataW.TrodVars enc P W' sp s.vars (s.fn H (ds ++ gs)).vars pv)
    (hps : before = pa ++ pv) (hb : Below W.heap.size W W')
    (hok : ∀ (j : Nat) (t : TypeId) (r : Value), f.resultTypes[j]? = some t → (v.resultList f.resultTypes.size)[j]? = some r → Value.okWide P W' .any 0 t r) :
    s.post enc P f apart fresh handsOn again W args v W' := by
  have hlt : ∀ p ∈ before, p.block < W.heap.size := fun p hp => hW.lt p hp
  have hold : ∀ p ∈ before, (fun b => decide (b < W.heap.size)) p.block = true := fun p hp => by simpa using hlt p hp
  refine ⟨ds, gs, before, [], pa, pv, hW, hres _ _ _, hargs _ hold, hvars _ hold, World.keptBut_mono (fun p hp => ⟨hp, ?_⟩) (hb.frame (· ∈ before)), fun _ => ?_⟩
  · rw [hps, List.mem_append] at hp
    exact Or.inr hp
  · obtain ⟨_, _, _, _, _, hz, hn⟩ := hW
    refine ⟨hok, _, _, ([] ++ pa) ++ pv, ⟨[] ++ pa, pv, trodAll_append (hargs _ (fun _ _ => rfl)) (hres _ _ _), hvars _ (fun _ _ => rfl), rfl, ?_, ?_⟩, ?_⟩
    · intro b off hp
      have hin : MemPlace.cell b off ∈ before := by rw [hps]; simpa using hp
      rw [hb.frozen (hlt _ hin)]
      exact hz b off hin
    · intro ha
      have := hn ha
      rw [hps] at this
      simpa using this
    · intro p hp _
      rw [hps]
      simpa using hp
end

theorem exists_list {α : Type} {P : Nat → α → Prop} : ∀ n, (∀ i, i < n → ∃ a, P i a) → ∃ l : List α, l.length = n ∧ ∀ k a, l[k]? = some a → P k a
  | 0, _ => ⟨[], rfl, fun _ _ h => by cases h⟩
  | n + 1, h => by
    obtain ⟨l, hl, hp⟩ := exists_list n (fun i hi => h i (by omega))
    obtain ⟨a, ha⟩ := h n (by omega)
    refine ⟨l ++ [a], by simp [hl], fun k b hb => ?_⟩
    rcases Nat.lt_or_ge k l.length with hk | hk
    · rw [List.getElem?_append_left hk] at hb; exact hp k b hb
    · rw [List.getElem?_append_right hk] at hb
      have h0 : k - l.length = 0 := by
        rcases Nat.eq_zero_or_pos (k - l.length) with h0 | h0
        · exact h0
        · rw [List.getElem?_eq_none (by simp; omega)] at hb; cases hb
      rw [h0] at hb
      simp at hb; subst hb
      obtain rfl : k = n := by omega
      exact ha

theorem own : ownKnob Try.prog.godebug = none := by kernel_rfl
theorem laidOut : laidOutB Try.prog = true := by kernel_rfl

theorem add_mk (b o : Nat) (i : Nat) : (⟨b, o, none⟩ : Addr).add i = ⟨b, o + i, none⟩ := by
  unfold Addr.add; split <;> simp_all

/-- a deed's bytes -/
theorem bytes_open {H : Type} {enc : TypeId × Value → H} {W : World} {base : Nat} {spare : Nat → Bool} {held : Bool} {fuel : Nat} {v : Value} {x : DataW H × List MemPlace} (h : DataW.trod enc Try.prog W base spare held fuel 32 [v] = some x) :
    ∃ (A : Option Addr) (c : Nat) (bs : List UInt8), v = .slice A bs.length c ∧ bs.length ≤ c ∧ c ≤ maxLen ∧ Reads W W.heap.size 1 A bs.length (bcells bs) := by
  rcases open_slice Try.underlying32 h with ⟨h0, _⟩ | ⟨a, len, cap, m, n, D, Pl, hcs, hb, hl, hm, hmm, hx, hi⟩
  · simp only [List.cons.injEq, and_true] at h0
    subst h0
    exact ⟨none, 0, [], rfl, Nat.le_refl _, Nat.zero_le _, Reads.none_⟩
  · simp only [List.cons.injEq, and_true] at hcs
    subst hcs
    have hlm : len ≤ m := by rw [hmm]; split <;> omega
    have hC : Try.prog.cellsOf 5 = 1 := by kernel_rfl
    have hone : ∀ i, i < len → ∃ u : UInt8, W.cell? (a.add i) = some (.int .u8 u.toNat) := fun i hil => by
      obtain ⟨cs', hc, ht'⟩ := hi i (by omega)
      rw [hC, Nat.mul_one] at hc
      obtain ⟨_, hcl, hat⟩ := World.cells?_some hc
      have h0 := hat 0 (by omega)
      obtain ⟨z, hz, _, hw⟩ := DataW.trod_int Try.underlying5 ht'
      subst hz
      simp only [List.getElem?_cons_zero] at h0
      have hwf : 0 ≤ z ∧ z ≤ 255 := by simpa [Lit.wf, IntKind.min, IntKind.max, IntKind.signed, IntKind.bits] using hw
      refine ⟨UInt8.ofNat z.toNat, ?_⟩
      have e : ((UInt8.ofNat z.toNat).toNat : Int) = z := by
        rw [UInt8.toNat_ofNat']
        omega
      rw [e, ← h0, Go.Deep.add_add]; rfl
    obtain ⟨bs, hbl, hbs⟩ := exists_list len hone
    subst hbl
    refine ⟨some a, cap, bs, rfl, hl, hm, by rw [bcells_length]; omega, fun hpos => ⟨a, rfl, ?_, fun j u hu => ?_⟩⟩
    · obtain ⟨u, hu⟩ := hone 0 hpos
      have := World.block_lt_of_cell? W _ hu
      rwa [block_of_add] at this
    · unfold bcells at hu
      rw [List.getElem?_map] at hu
      cases e : bs[j]? with
      | none => rw [e] at hu; cases hu
      | some y =>
        rw [e] at hu
        simp only [Option.map_some, Option.some.injEq] at hu
        rw [← hu]; exact hbs j y e

set_option maxRecDepth 100000 in
theorem acts_open {H : Type} {enc : TypeId × Value → H} {W : World} {v : Value} {d : DataW H} {p : List MemPlace} {base : Nat} {spare : Nat → Bool} {held : Bool} {base2 : Nat}
    (hv : Value.okWide Try.prog W .any base2 22 v) (h : DataW.Trod enc Try.prog W base spare held 22 v d p) :
    ∃ (av : Option Addr) (cap : Nat) (acts : List ActV), v = .slice av acts.length cap ∧ acts.length ≤ cap ∧ cap ≤ maxLen ∧ ActsAt W av acts := by
  obtain ⟨fuel, hf⟩ := h
  obtain ⟨a0, len0, cap0, rfl⟩ := okWide_slice Try.underlying22 hv
  rcases open_slice_fields Try.underlying22 Try.underlying35 (by kernel_rfl) (by kernel_rfl) hf with ⟨h0, _⟩ | ⟨a, len, cap, m, D, Pl, hcs, hb, hl, hm, hmm, hx, hi⟩
  · simp [Value.cells] at h0
    obtain ⟨rfl, rfl, rfl⟩ := h0
    exact ⟨none, 0, [], rfl, Nat.le_refl _, Nat.zero_le _, fun k a ha => by cases ha⟩
  · simp [Value.cells] at hcs
    obtain ⟨rfl, rfl, rfl⟩ := hcs
    have hlm : len0 ≤ m := by rw [hmm]; split <;> omega
    have hone : ∀ i, i < len0 → ∃ r : ActV, r.ok W ∧ W.cell? (a.add (i * 5)) = some (.int .u8 r.op) ∧ W.cell? (a.add (i * 5 + 1)) = some (.int .u8 r.nmv) ∧
        W.cell? (a.add (i * 5 + 2)) = some (.int .u8 r.tov) ∧ W.cell? (a.add (i * 5 + 3)) = some (.slice r.A r.b.length r.c) ∧ W.cell? (a.add (i * 5 + 4)) = some (.int .i16 r.n) := by
      intro i hil
      obtain ⟨ys, n, hD, _, hyl, hfs⟩ := hi i (by omega)
      obtain ⟨v0, y0, hc0, hy0, ht0⟩ := hfs 0 _ rfl
      obtain ⟨v1, y1, hc1, hy1, ht1⟩ := hfs 1 _ rfl
      obtain ⟨v2, y2, hc2, hy2, ht2⟩ := hfs 2 _ rfl
      obtain ⟨v3, y3, hc3, hy3, ht3⟩ := hfs 3 _ rfl
      obtain ⟨v4, y4, hc4, hy4, ht4⟩ := hfs 4 _ rfl
      obtain ⟨n0, hn0, _, hw0⟩ := DataW.trod_int Try.underlying5 ht0
      obtain ⟨n1, hn1, _, hw1⟩ := DataW.trod_int Try.underlying5 ht1
      obtain ⟨n2, hn2, _, hw2⟩ := DataW.trod_int Try.underlying5 ht2
      obtain ⟨A, c, bs, rfl, hbc, hcm, hR⟩ := bytes_open ht3
      obtain ⟨n4, hn4, _, hw4⟩ := DataW.trod_int Try.underlying33 ht4
      simp only [List.cons.injEq, and_true] at hn0 hn1 hn2 hn4
      subst hn0 hn1 hn2 hn4
      have x0 : 0 ≤ n0 ∧ n0 ≤ 255 := by simpa [Lit.wf, IntKind.min, IntKind.max, IntKind.signed, IntKind.bits] using hw0
      have x1 : 0 ≤ n1 ∧ n1 ≤ 255 := by simpa [Lit.wf, IntKind.min, IntKind.max, IntKind.signed, IntKind.bits] using hw1
      have x2 : 0 ≤ n2 ∧ n2 ≤ 255 := by simpa [Lit.wf, IntKind.min, IntKind.max, IntKind.signed, IntKind.bits] using hw2
      have x4 : -32768 ≤ n4 ∧ n4 ≤ 32767 := by simpa [Lit.wf, IntKind.min, IntKind.max, IntKind.signed, IntKind.bits] using hw4
      obtain ⟨m0, rfl⟩ := Int.eq_ofNat_of_zero_le x0.1
      obtain ⟨m1, rfl⟩ := Int.eq_ofNat_of_zero_le x1.1
      obtain ⟨m2, rfl⟩ := Int.eq_ofNat_of_zero_le x2.1
      exact ⟨⟨m0, m1, m2, A, c, bs, n4⟩, ⟨by show m0 < 256; omega, by show m1 < 256; omega, by show m2 < 256; omega, x4.1, x4.2, hR, hbc, hcm⟩, hc0, hc1, hc2, hc3, hc4⟩
    obtain ⟨acts, hal, hacts⟩ := exists_list len0 hone
    subst hal
    refine ⟨some a, _, acts, rfl, hl, hm, fun k r hr => ?_⟩
    have hpos : 0 < acts.length := Nat.lt_of_le_of_lt (Nat.zero_le _) (List.getElem?_eq_some_iff.1 hr).1
    have hsp : a.spot = none := by
      obtain ⟨r, _, hc, _⟩ := hone 0 hpos
      unfold World.cell? at hc
      split at hc
      · rename_i hq
        cases hs : a.spot with
        | none => rfl
        | some x =>
          have : (a.add (0 * 5)).spot.isSome = true := by simp [Addr.add, hs]
          rw [if_pos this] at hc
          cases hc
      · cases hc
    obtain ⟨b, o, sp⟩ := a
    simp only at hsp
    subst hsp
    obtain ⟨hok, c0, c1, c2, c3, c4⟩ := hacts k r hr
    rw [add_mk] at c0 c1 c2 c3 c4
    exact ⟨b, o, rfl, hok, c0, c1, c2, c3, c4⟩

set_option maxRecDepth 100000 in
/-- the contract at the row -/
theorem script_contract (H : Type) (enc : TypeId × Value → H) (W : World) (base : Nat) (args : Array Value) (ds gs : List (DataW H)) (before : List MemPlace)
    (hval : ∀ (j : Nat) t v, Try.f3.params[j]? = some t → args[j]? = some v → Value.okWide Try.prog W .any base t v)
    (hW : DataW.Whole enc Try.prog Try.f3.params.toList Rows.filesScriptSpec.vars false W args.toList ds gs before) :
    Calls Try.prog 3 args W fun e W' => ∃ v, e = .returned v ∧ Rows.filesScriptSpec.post enc Try.prog Try.f3 false true false false W args v W' := by
  have hW' := hW
  obtain ⟨p, q, hA0, hV, rfl, hfz, hnd⟩ := hW
  have hA : DataW.TrodAll enc Try.prog W 0 (fun _ => true) true Try.f3.params.toList args.toList ds p := hA0
  rw [Try.params3] at hA hval
  obtain ⟨v0, vs0, d0, ds0, p0, q0, hargs, rfl, rfl, h0, r0⟩ := trodAll_cons hA
  obtain ⟨v1, vs1, d1, ds1, p1, q1, hargs1, rfl, rfl, h1, r1⟩ := trodAll_cons r0
  obtain ⟨rfl, rfl, rfl⟩ := trodAll_nil r1
  obtain rfl : args = #[v0, v1] := by cases args; simp_all
  obtain ⟨rfl, rfl⟩ := trodVars_none hV
  obtain ⟨rm, rfl, rfl, rfl, hfw⟩ := open_int Try.underlying5 (hval 1 5 v1 rfl rfl) h1
  have h0k := h0
  simp only [List.append_nil] at hW'
  have x1 : 0 ≤ rm ∧ rm ≤ 255 := by simpa [Lit.wf, IntKind.min, IntKind.max, IntKind.signed, IntKind.bits] using hfw
  have hlt0 : ∀ x ∈ p0, x.block < W.heap.size := fun x hx => hW'.lt x (by simp [hx])
  obtain ⟨av, cap, acts, rfl, hlc, hcm, hacts⟩ := acts_open (hval 0 22 v0 rfl rfl) h0
  obtain ⟨room, rfl⟩ := Int.eq_ofNat_of_zero_le x1.1
  refine (script_walk W av cap acts room (by omega) hacts hlc hcm).mono fun e W' ⟨he, hg⟩ => ?_
  subst he
  exact ⟨_, rfl, post_of_below (pa := p0 ++ ([] ++ [])) (pv := []) hW' (fun _ _ _ => trodAll_cons_mk (shut_bool Try.underlying4 _) trodAll_mk0)
    (fun sp hsp => trodAll_cons_mk (WideElems.Trod_stays laidOut (by kernel_rfl) (of_decide_eq_true (by kernel_rfl)) h0k (fun x hx => hg.same (hlt0 x hx)) (fun x hx => hsp x (by simpa using hx))) (trodAll_cons_mk (shut_int Try.underlying5 hfw) trodAll_mk0)) (fun _ _ => rfl) (by simp)
    hg (ok_one (by kernel_rfl) rfl (okWide_bool_mk Try.underlying4 _))⟩

set_option maxHeartbeats 1600000 in
set_option maxRecDepth 100000 in
theorem script_lifted (os : Os) (started : os.Started) (H : Type) (enc : TypeId × Value → H) :
    ReturnsInHanded {} Try.checked os 3 .any (Rows.filesScriptSpec.pre6 enc Try.prog Try.f3 Rows.filesScriptRow.domain false) (Rows.filesScriptSpec.post enc Try.prog Try.f3 false true false false) := by
  refine returnsInHanded_of_change (C := Try.checked) own started (by kernel_rfl) Try.func3
    (ChangeSpec.witness6 (enc := enc) (C := Try.checked) false ⟨#[], #[.slice none 0 0, .int .u8 0], []⟩ 8 (by kernel_rfl) (by kernel_rfl) (by kernel_rfl) (by kernel_rfl)) ?_
  intro W base args ds gs before hval hW _ _
  exact script_contract H enc W base args ds gs before hval hW

theorem script_said : Rows.FilesScriptSaid :=
  OpenClaim.holds_of_wide 3 Try.f3 rfl rfl rfl rfl rfl rfl rfl ⟨rfl, rfl, rfl, rfl, rfl⟩ rfl rfl rfl rfl rfl (by kernel_rfl) Try.func3 (by kernel_rfl)
    (of_decide_eq_true (by kernel_rfl)) (by unfold Func.isWrapper; rw [if_neg (of_decide_eq_false (by kernel_rfl))]; exact ⟨rfl, rfl⟩)
    (fun os started H enc _ => script_lifted os started H enc)
#print axioms script_said
end Go.Proofs.Ytombehaaaojhdaa
