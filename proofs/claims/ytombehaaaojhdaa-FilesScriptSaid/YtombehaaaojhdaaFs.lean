/- what the script asks of a disk and of the model behind each deed -/
import Derived.Test.YtombehaaaojhdaaFc
set_option linter.unusedVariables false
namespace Go.Proofs.Ytombehaaaojhdaa
open Go.Maps Go.RowKit Go.Sort

/-- the name that stands before number i of a row -/
def lastOf (ns : List Nm) (i : Nat) : Nm := if i = 0 then [] else (ns[i - 1]?).getD []

/-- what is seen of the disk's names, one by one -/
structure SeeName (w0 w : World) (db mnb : Nat) (down : Bool) (ns : List Nm) (i : Nat) (s : Nm) : Prop where
  leq : leqB s (lastOf ns i) = false
  file : ∃ fb, ∃ fbs : List UInt8, ∀ V, Below w.heap.size w V → (Instr.lookup 27 (.map (some mnb)) (.string ⟨s.toArray⟩) false).run Try.prog V = .ok (.pointer (some ⟨fb, 0, none⟩)) V ∧ V.cell? ⟨fb, 0, none⟩ = some (.string ⟨fbs.toArray⟩) ∧
    Calls Try.prog 16 #[.pointer (some ⟨db, 0, none⟩), .string ⟨s.toArray⟩] V fun e w' => ∃ ao' c', ∃ xs : List UInt8, ∃ er : Int, e = .returned (.tuple #[.slice ao' xs.length c', .int .i64 er]) ∧ Below V.heap.size V w' ∧
      (∀ n, (convert 32 9 (.slice ao' xs.length c')).run Try.prog (w'.drewN n) = .ok (.string ⟨xs.toArray⟩) (w'.drewN n)) ∧ ((down = true ∧ er = 7) ∨ (down = false ∧ er = 0 ∧ xs = fbs))

variable {w0 w : World} {db mb ab : Nat} {cs : Array Value} {d : DV}

theorem out_inj {α : Type} {a b : α} {u v : World} (h : Go.Result.ok a u = Go.Result.ok b v) : a = b := by
  injection h

theorem two_seen (h : Two w0 w db mb ab cs d d) (k : Nat) (hI : d.Inv names6 k) (hk : k ≤ 1099511627775) : ∃ mnb z : Nat, z ≤ 6 ∧
    (∀ V, Below w.heap.size w V → V.cell? ⟨mb, 0, none⟩ = some (.map (some mnb)) ∧ V.cell? ⟨mb, 6, none⟩ = some (.bool d.down) ∧ V.cell? ⟨mb, 7, none⟩ = some (.int .i64 d.calls) ∧ (Builtin.len_ #[27] 3 #[.map (some mnb)]).run Try.prog V = .ok (.int .i64 z) V) ∧
    (∀ V, Below w.heap.size w V → Calls Try.prog 11 #[.pointer (some ⟨db, 0, none⟩)] V fun e w' => e = .returned (.bool d.down) ∧ w' = V) ∧
    (∀ V, Below w.heap.size w V → Calls Try.prog 12 #[.pointer (some ⟨db, 0, none⟩)] V fun e w' => e = .returned (.int .i64 d.calls) ∧ w' = V) ∧
    (∀ V, Below w.heap.size w V → Calls Try.prog 13 #[.pointer (some ⟨db, 0, none⟩)] V fun e w' => e = .returned (.int .i64 d.used) ∧ Below w.heap.size w w') ∧
    (∀ V, Below w.heap.size w V → Calls Try.prog 14 #[.pointer (some ⟨mb, 0, none⟩)] V fun e w' => e = .returned (.int .i64 d.used) ∧ Below w.heap.size w w') ∧
    (∀ V, Below w.heap.size w V → Calls Try.prog 15 #[.pointer (some ⟨db, 0, none⟩)] V fun e w' => ∃ ao c, e = .returned (.slice ao z c) ∧ Below w.heap.size w w' ∧
      ∃ ns : List Nm, ns.length = z ∧ Reads w' w'.heap.size 1 ao z (ns.map encStr) ∧ ∀ i s, ns[i]? = some s → SeeName w0 w db mnb d.down ns i s) ∧
    (∀ V, Below w.heap.size w V → TwoN w0 V db mb d d) := by
  obtain ⟨mnb, c0, _, _, c6, c7, _, φ, hmap⟩ := two_cells h
  refine ⟨mnb, Maps.size d.now, hI.size, fun V hb => ⟨cell_keep hb c0, cell_keep hb c6, cell_keep hb c7, ?_⟩, fun V hb => two_down (h.below hb), fun V hb => two_calls (h.below hb), fun V hb => ?_, fun V hb => ?_, fun V hb => ?_, fun V hb => (h.below hb).noBox⟩
  · obtain ⟨mnb', c0', _, _, _, _, elen, _⟩ := two_cells (h.below hb)
    have : mnb' = mnb := by
      have := c0'.symm.trans (cell_keep hb c0)
      simpa using this
    subst this
    exact elen
  · refine (two_used (h.below hb) k hI).mono ?_
    rintro e w' ⟨rfl, hb'⟩
    exact ⟨rfl, hb.trans (hb'.mono hb.size)⟩
  · refine (two_mused (h.below hb) k hI).mono ?_
    rintro e w' ⟨rfl, hb'⟩
    exact ⟨rfl, hb.trans (hb'.mono hb.size)⟩
  · refine (two_names (h.below hb) k hI).mono ?_
    rintro e w' ⟨ao, c, ns, rfl, hR, hp, hs, hb'⟩
    obtain ⟨f1, f2, f3, f4⟩ := names_facts hI hp hs
    have hbb := hb.trans (hb'.mono hb.size)
    rw [f1] at hR ⊢
    refine ⟨ao, c, rfl, hbb, ns, f1, hR, fun i s hi => ?_⟩
    obtain ⟨hmem, id, hlk⟩ := f2 s (List.mem_of_getElem? hi)
    have hmax := nm_max s hmem
    obtain ⟨fb, f, hf, hl1, hc1⟩ := two_file h hlk hmax c0
    refine ⟨?_, fb, f.b, fun V' hb2 => ?_⟩
    · unfold lastOf
      by_cases h0 : i = 0
      · rw [if_pos h0]; exact names6_pos s hmem
      · rw [if_neg h0]
        have hlt := (List.getElem?_eq_some_iff.1 hi).1
        have hp1 : ns[i - 1]? = some ns[i - 1] := List.getElem?_eq_getElem (by omega)
        rw [hp1]
        exact f3 (i - 1) _ s hp1 (by rw [show i - 1 + 1 = i by omega]; exact hi)
    · obtain ⟨fb', f', hf', hl1', hc1'⟩ := two_file (h.below hb2) hlk hmax (cell_keep hb2 c0)
      have e1 : f' = f := by rw [hf] at hf'; cases hf'; rfl
      subst e1
      have e2 : fb' = fb := by
        have a1 : (Instr.lookup 27 (.map (some mnb)) (.string ⟨s.toArray⟩) false).run Try.prog V' = .ok (.pointer (some ⟨fb, 0, none⟩)) V' := by
          obtain ⟨L, nb, sb, wv, φ1, fv, cv, ML, mnb1, mkb, mwv, mxv, mφ, mnv, mxs, hD, hM, hdis, hfree, hb0, hLa, hMa, hB⟩ := h
          have em : mnb1 = mnb := by
            have := (Blk.cell hM.cells 0).symm.trans c0
            simpa using this
          subst em
          have r1 := mlook_run w hM hmax
          have r2 := mlook_run V' (hM.below hb2) hmax
          rw [hl1] at r1
          have r3 := out_inj r1
          rw [r2, ← r3]
        rw [hl1'] at a1
        have a2 := out_inj a1
        simpa using a2
      subst e2
      refine ⟨hl1', hc1', (two_read (h.below hb2) k hI (by omega) s hmax).mono ?_⟩
      rintro e w2 ⟨ao', c', rfl, hR2, hb3⟩
      refine ⟨ao', c', _, _, rfl, hb3, fun n => run_convert_reads (w2.drewN n) _ ao' c' _ (hR2.below ⟨rfl, rfl, rfl, Nat.le_refl _, fun _ _ => rfl⟩), ?_⟩
      cases hd : d.down with
      | true => exact .inl ⟨rfl, by simp [DV.read, hd, eCrash]⟩
      | false =>
        refine .inr ⟨rfl, ?_, ?_⟩
        · simp [DV.read, hd, hlk]
        · simp [DV.read, hd, hlk, hf]
end Go.Proofs.Ytombehaaaojhdaa
