/- a restart: which files have been trimmed; a disk whose maps turn -/
import Derived.Test.YtombehaaaojhdaaDnm
set_option linter.unusedVariables false
namespace Go.Proofs.Ytombehaaaojhdaa
open Go.Maps Go.RowKit

def isHeld (i : Nat) : NMap → Bool
  | .held j => i == j
  | _ => false

def holdsBut (left : Lit → Bool) (D : NMap) (i : Nat) : Bool := (entries D).any fun p => !left p.1 && isHeld i p.2

def trimBut (bytes : Int) (left : Lit → Bool) (D : NMap) (fs : List FileV) : List FileV := fs.mapIdx fun i f => if holdsBut left D i then trim bytes f else f

theorem trim_trim (bytes : Int) (f : FileV) : trim bytes (trim bytes f) = trim bytes f := by
  simp only [trim]
  have h : ∀ (l : List UInt8) (k : Nat), l.take (min l.length (l.length + k)) = l := fun l k => by
    rw [show min l.length (l.length + k) = l.length by omega]; exact List.take_length
  simp only [h]

theorem entry_of_look {D : NMap} (ht : Tidy D) {s : Nm} {i : Nat} (hi : look D s = some i) : (∀ p ∈ entries D, p.1 = .string s → p.2 = .held i) ∧ ∃ p ∈ entries D, p.1 = .string s ∧ p.2 = .held i := by
  obtain ⟨es, rfl, hp⟩ := ht
  unfold look DataW.atKey at hi
  simp only [] at hi
  cases hf : es.find? (fun p => p.1.sameKey (.string s)) with
  | none => rw [hf] at hi; cases hi
  | some q =>
    rw [hf] at hi
    simp only [] at hi
    have hq := List.mem_of_find?_eq_some hf
    have hs : q.1 = .string s := by
      have := List.find?_some hf
      cases hq1 : q.1 <;> rw [hq1] at this <;> simp [Lit.sameKey] at this ⊢
      exact this
    have hh : q.2 = .held i := by
      split at hi
      · rename_i j hj
        cases hi; exact hj
      · cases hi
    refine ⟨fun p hpm e => ?_, q, hq, hs, hh⟩
    have : p = q := by
      have key : ∀ l : List (Lit × NMap), l.Pairwise (fun p q => p.1 ≠ q.1) → p ∈ l → q ∈ l → p = q := by
        intro l
        induction l with
        | nil => intro _ h; cases h
        | cons x r ih =>
          intro hpw h1 h2
          rw [List.pairwise_cons] at hpw
          rcases List.mem_cons.1 h1 with e1 | e1 <;> rcases List.mem_cons.1 h2 with e2 | e2
          · rw [e1, e2]
          · exact absurd (e.trans hs.symm) (by rw [e1]; exact hpw.1 q e2)
          · exact absurd (hs.trans e.symm) (by rw [e2]; exact hpw.1 p e1)
          · exact ih hpw.2 e1 e2
      exact key es hp hpm hq
    rw [this]; exact hh

theorem holdsBut_step {left : Lit → Bool} {D : NMap} (ht : Tidy D) {s : Nm} {i : Nat} (hi : look D s = some i) (j : Nat) :
    holdsBut (fun z => left z && !z.sameKey (.string s)) D j = (holdsBut left D j || j == i) := by
  obtain ⟨h1, p0, hp0, hk0, hv0⟩ := entry_of_look ht hi
  rw [Bool.eq_iff_iff, Bool.or_eq_true]
  unfold holdsBut
  simp only [List.any_eq_true, Bool.and_eq_true, Bool.not_eq_true', Bool.and_eq_false_iff, Bool.not_eq_false']
  constructor
  · rintro ⟨p, hp, hl | hl, hv⟩
    · exact .inl ⟨p, hp, hl, hv⟩
    · have hs : p.1 = .string s := by
        cases hq1 : p.1 <;> rw [hq1] at hl <;> simp [Lit.sameKey] at hl ⊢
        exact hl
      right
      rw [h1 p hp hs] at hv
      exact hv
  · rintro (⟨p, hp, hl, hv⟩ | he)
    · exact ⟨p, hp, .inl hl, hv⟩
    · refine ⟨p0, hp0, .inr (by rw [hk0]; simp [Lit.sameKey]), ?_⟩
      rw [hv0]; exact he

theorem trimBut_step (bytes : Int) {left : Lit → Bool} {D : NMap} (ht : Tidy D) {s : Nm} {i : Nat} (hi : look D s = some i) (fs : List FileV) :
    trimBut bytes (fun z => left z && !z.sameKey (.string s)) D fs = (trimBut bytes left D fs).modify i (trim bytes) := by
  refine List.ext_getElem? fun j => ?_
  rw [List.getElem?_modify]
  unfold trimBut
  rw [List.getElem?_mapIdx, List.getElem?_mapIdx]
  cases fs[j]? with
  | none => simp
  | some f =>
    simp only [Option.map_some, holdsBut_step ht hi]
    by_cases e : i = j
    · subst e
      by_cases hb : holdsBut left D i = true <;> simp [hb, trim_trim]
    · have : (j == i) = false := by simp; omega
      simp [this, e]

theorem trimBut_start (bytes : Int) (D : NMap) (hk : ∀ p ∈ entries D, WideAt.IsKeyLit p.1) (fs : List FileV) : trimBut bytes (has D) D fs = fs := by
  refine List.ext_getElem? fun j => ?_
  unfold trimBut
  rw [List.getElem?_mapIdx]
  have : holdsBut (has D) D j = false := by
    unfold holdsBut
    rw [List.any_eq_false]
    intro p hp
    have : has D p.1 = true := by
      cases D with
      | map es =>
        rw [has_eq, List.any_eq_true]
        exact ⟨p, hp, WideAt.sameKey_self (hk p hp)⟩
      | _ => cases hp
    simp [this]
  cases fs[j]? <;> simp [this]

theorem trimBut_end (bytes : Int) {left : Lit → Bool} (h : ∀ k, left k = false) (D : NMap) (fs : List FileV) : trimBut bytes left D fs = trimAll bytes D fs := by
  unfold trimBut trimAll
  congr 1
  funext i f
  have : holdsBut left D i = holds D i := by
    unfold holdsBut holds
    congr 1
    funext p
    rw [h]
    cases p.2 <;> rfl
  rw [this]

theorem modify_nth (d : DV) (fs : List FileV) (i : Nat) (F : FileV → FileV) : ({ d with files := fs } : DV).file i F = { d with files := fs.modify i F } := rfl

/-- the safe names' map has turned -/
theorem DiskAt.remap {w w' : World} {L : Lab} {db nb sb : Nat} {wv : Value} {φ : List Nat} {fv cv : List Value} {d : DV} (h : DiskAt w L db nb sb wv φ fv cv d) (hg : w.grownBy w' (some sb)) {D : NMap}
    (hm : MapAt Try.prog 9 w' φ sb D) (hD : Held φ.length D) : DiskAt w' L db nb sb wv φ fv cv { d with safe := D } := by
  have hkeep : ∀ k l, L k = some l → l ≠ .safe → w'.heap[k]? = w.heap[k]? := fun k l hl hne => hg.block k (h.dom k (by rw [hl]; simp)) (fun e => by cases e; rw [h.lsafe] at hl; cases hl; exact hne rfl)
  exact {
    dom := fun k hl => Nat.lt_of_lt_of_le (h.dom k hl) hg.size
    ldisk := h.ldisk
    cells := (hkeep db _ h.ldisk (by simp)).trans h.cells
    lnow := h.lnow
    lsafe := h.lsafe
    now := h.now.block (hkeep nb _ h.lnow (by simp))
    safe := hm
    hnow := h.hnow
    hsafe := hD
    nfiles := h.nfiles
    nvals := h.nvals
    files := fun i f hf => by
      obtain ⟨fb, v, h1, h2, h3⟩ := h.files i f hf
      exact ⟨fb, v, h1, h2, h3.lab, (hkeep fb _ h3.lab (by simp)).trans h3.cells, h3.bytes.keep (fun g hg => hkeep g _ (h3.row g hg) (by simp)), h3.row⟩
    wait := by
      obtain ⟨hl, hw⟩ := h.wait
      refine ⟨hl, ?_⟩
      rcases hw with hw | ⟨g, cap, cur, rfl, h0, hg, rest⟩
      · exact .inl hw
      · exact .inr ⟨g, cap, cur, rfl, h0, (hkeep g _ (h.lwait g rfl) (by simp)).trans hg, rest⟩
    lwait := h.lwait
    chs := fun i cs hc => by
      obtain ⟨v, h1, ⟨g, cur, rfl, hg, hcur, hl⟩⟩ := h.chs i cs hc
      exact ⟨_, h1, ⟨g, cur, rfl, (hkeep g _ hl (by simp)).trans hg, hcur, hl⟩⟩
    hchs := h.hchs }

theorem DiskAt.remap_turned {w w' : World} {L : Lab} {db nb sb : Nat} {wv : Value} {φ : List Nat} {fv cv : List Value} {d : DV} (h : DiskAt w L db nb sb wv φ fv cv d) (hg : w.grownBy w' (some sb)) : Turned L L w w' :=
  ⟨hg.os, hg.tape, hg.output, hg.size, fun k hk hl => hg.block k hk (fun e => by cases e; rw [h.lsafe] at hl; cases hl), fun _ _ h => h⟩

/-- a file was cut to its first bytes, and clipped -/
theorem DiskAt.retrim {w1 : World} {L : Lab} {db nb sb : Nat} {wv : Value} {φ : List Nat} {fv cv : List Value} {d : DV} (h : DiskAt w1 L db nb sb wv φ fv cv d) {i fb : Nat} {f : FileV} {ao : Option Addr} {cp n m : Nat} (hfb : φ[i]? = some fb) (hf : d.files[i]? = some f)
    (hF : FileAt w1 L i fb (.slice ao f.b.length cp) f) (F : FileV → FileV) (hn : n ≤ f.b.length) (hb : (F f).b = f.b.take n) (hs : (F f).safe = m) :
    DiskAt ((w1.setCell ⟨fb, 0, none⟩ (.slice ao n n)).setCell ⟨fb, 1, none⟩ (.int .i64 m)) (fun k => if (Value.slice ao n n).ownBlock = some k then some (.row i) else L k) db nb sb wv φ (fv.set i (.slice ao n n)) cv (d.file i F) ∧
      Turned L (fun k => if (Value.slice ao n n).ownBlock = some k then some (.row i) else L k) w1 ((w1.setCell ⟨fb, 0, none⟩ (.slice ao n n)).setCell ⟨fb, 1, none⟩ (.int .i64 m)) := by
  obtain ⟨hc1, hc2, hc3⟩ := bytes_cap hF.bytes
  have hkl : (f.b.take n).length = n := by simp; omega
  have hnew : BytesAt w1 (.slice ao n n) (f.b.take n) := by
    rcases hc3 with ⟨rfl, rfl⟩ | ⟨g, rfl⟩
    · have hl0 : f.b.length = 0 := by omega
      have hk0 : n = 0 := by omega
      have : f.b.take n = [] := by rw [List.eq_nil_of_length_eq_zero hl0]; simp
      rw [this, hk0]
      exact .inl (World.ownsRow_nil _ _ _ _)
    · have h9 := take_clip (w := w1) (g := g) (c := cp) (b := f.b) hF.bytes hn
      rw [hkl] at h9
      exact h9
  have hbs := Blk.set_ (Blk.set_ hF.cells 0 (.slice ao n n)) 1 (.int .i64 m)
  have hkeep : ∀ j, j ≠ fb → ((w1.setCell ⟨fb, 0, none⟩ (.slice ao n n)).setCell ⟨fb, 1, none⟩ (.int .i64 m)).heap[j]? = w1.heap[j]? := fun j hj => by
    rw [Below.heap_setCell _ _ _ _ hj, Below.heap_setCell _ _ _ _ hj]
  have hgn : ∀ g, (Value.slice ao n n).ownBlock = some g → (Value.slice ao f.b.length cp).ownBlock = some g := fun g hg => by cases ao <;> exact hg
  refine ⟨h.upd hfb hf F (.slice ao n n) (by simp [World.setCell]) (fun j _ hne _ => hkeep j hne) ?_ ?_ ?_, ?_⟩
  · rw [hs]; exact hbs
  · rw [hb]
    refine hnew.keep fun g hg => hkeep g fun e => ?_
    have h1 := hF.row g (hgn g hg)
    rw [e, hF.lab] at h1
    cases h1
  · exact fun g hg => .inl (hF.row g (hgn g hg))
  · refine Turned.trans (w' := w1.setCell ⟨fb, 0, none⟩ (.slice ao n n)) (turned_set (v := .slice ao n n) (i := i) (fun hn => by rw [hF.lab] at hn; cases hn) (fun g hg => by rw [hF.row g (hgn g hg)]; simp)) ?_
    refine ⟨rfl, rfl, rfl, by simp [World.setCell], fun j _ hl => Below.heap_setCell _ _ _ _ fun e => ?_, fun _ _ h => h⟩
    have e : j = fb := e
    have hl' : (if (Value.slice ao n n).ownBlock = some j then some (Lbl.row i) else L j) = none := hl
    split at hl'
    · cases hl'
    · rw [e, hF.lab] at hl'; cases hl'

/-- the names are those that are safe; nothing waits -/
theorem DiskAt.renow {w w' : World} {L : Lab} {db nb sb : Nat} {wv : Value} {φ : List Nat} {fv cv : List Value} {d : DV} (h : DiskAt w L db nb sb wv φ fv cv d) (hs : w.heap.size < w'.heap.size)
    (hk : ∀ k, k < w.heap.size → k ≠ db → w'.heap[k]? = w.heap[k]?) (down : Bool) (left : Int)
    (hb : Blk w' db 56 #[.map (some w.heap.size), .map (some sb), .slice none 0 0, .int .i64 d.room, .int .i64 left, .bool down, .int .i64 d.calls]) (hm : MapAt Try.prog 9 w' φ w.heap.size d.safe) :
    DiskAt w' (fun k => if k = w.heap.size then some .now else L k) db w.heap.size sb (.slice none 0 0) φ fv [] { d with now := d.safe, wait := [], down := down, left := left } := by
  have hfl : ∀ k l, L k = some l → (if k = w.heap.size then some Lbl.now else L k) = some l := fun k l hl => by
    rw [if_neg (fun e => by have := h.dom k (by rw [hl]; simp); omega)]; exact hl
  have hkeep : ∀ k l, L k = some l → l ≠ .disk → w'.heap[k]? = w.heap[k]? := fun k l hl hne => hk k (h.dom k (by rw [hl]; simp)) (fun e => by rw [e, h.ldisk] at hl; cases hl; exact hne rfl)
  exact {
    dom := fun k hl => by
      have hl' : (if k = w.heap.size then some Lbl.now else L k) ≠ none := hl
      by_cases e : k = w.heap.size
      · omega
      · rw [if_neg e] at hl'; have := h.dom k hl'; omega
    ldisk := hfl _ _ h.ldisk
    cells := hb
    lnow := by simp
    lsafe := hfl _ _ h.lsafe
    now := hm
    safe := h.safe.block (hkeep sb _ h.lsafe (by simp))
    hnow := h.hsafe
    hsafe := h.hsafe
    nfiles := h.nfiles
    nvals := h.nvals
    files := fun i f hf => by
      obtain ⟨fb, v, h1, h2, h3⟩ := h.files i f hf
      exact ⟨fb, v, h1, h2, hfl _ _ h3.lab, (hkeep fb _ h3.lab (by simp)).trans h3.cells, h3.bytes.keep (fun g hg => hkeep g _ (h3.row g hg) (by simp)), fun g hg => hfl _ _ (h3.row g hg)⟩
    wait := World.ownsRow_nil _ _ _ _
    lwait := fun g hg => by cases hg
    chs := fun i cs hc => by cases hc
    hchs := fun cs hc => by cases hc }

theorem DiskAt.renow_turned {w w' : World} {L : Lab} {db nb sb : Nat} {wv : Value} {φ : List Nat} {fv cv : List Value} {d : DV} (h : DiskAt w L db nb sb wv φ fv cv d) (hs : w.heap.size < w'.heap.size)
    (hk : ∀ k, k < w.heap.size → k ≠ db → w'.heap[k]? = w.heap[k]?) (h1 : w'.os = w.os) (h2 : w'.tape = w.tape) (h3 : w'.output = w.output) : Turned L (fun k => if k = w.heap.size then some .now else L k) w w' :=
  ⟨h1, h2, h3, by omega, fun k hk' hl => hk k hk' (fun e => by rw [e, h.ldisk] at hl; cases hl), fun k hk' hl => by
    have hl' : (if k = w.heap.size then some Lbl.now else L k) ≠ none := hl
    rw [if_neg (by omega)] at hl'; exact hl'⟩
end Go.Proofs.Ytombehaaaojhdaa
