/- the pure model of a disk: what files.Disk has and does, in plain terms -/
import Derived.Maps.OwnSet
import Derived.Maps.Ext
import Derived.Maps.StringElems
set_option linter.unusedVariables false
namespace Go.Proofs.Ytombehaaaojhdaa
open Go.Maps

abbrev Nm := List UInt8
abbrev NMap := DataW Nat

/-- the file that a name has -/
def look (D : NMap) (s : Nm) : Option Nat :=
  match D.atKey (.string s) .nil with
  | .held i => some i
  | _ => none

abbrev Ch := Nm × Option Nat

/-- a name comes to a file, or goes -/
def put1 (D : NMap) (c : Ch) : NMap :=
  match c.2 with
  | none => D.del (.string c.1)
  | some i => D.put (.string c.1) (.held i)

def putAll (D : NMap) (cs : List Ch) : NMap := cs.foldl put1 D

structure FileV where
  b : List UInt8
  safe : Nat

structure DV where
  now : NMap
  safe : NMap
  wait : List (List Ch)
  files : List FileV
  room : Int
  left : Int
  down : Bool
  calls : Nat

def entries : NMap → List (Lit × NMap)
  | .map es => es
  | _ => []

def flen (fs : List FileV) : NMap → Nat
  | .held i => ((fs[i]?).map (·.b.length)).getD 0
  | _ => 0

def usedOf (fs : List FileV) (D : NMap) : Nat := ((entries D).map fun p => flen fs p.2).sum
def DV.used (d : DV) : Nat := usedOf d.files d.now

def DV.tick (d : DV) : DV := { d with calls := d.calls + 1, down := decide (d.left = 0), left := max (-1) (d.left - 1) }
def DV.on (d : DV) : Bool := decide (d.left ≠ 0)

def DV.set (d : DV) (cs : List Ch) : DV := { d with now := putAll d.now cs, wait := d.wait ++ [cs] }
def DV.file (d : DV) (i : Nat) (f : FileV → FileV) : DV := { d with files := d.files.modify i f }

/-- the document's numbers of what is wrong -/
abbrev eFull : Int := 4
abbrev eExist : Int := 5
abbrev eUnknown : Int := 6
abbrev eCrash : Int := 7
abbrev eArgument : Int := 14

def DV.create (d : DV) (s : Nm) : DV × Int :=
  if d.down then (d, eCrash) else
  if has d.now (.string s) then (d, eExist) else
  if 64 ≤ size d.now then (d, eFull) else
  if d.on then ({ (d.tick.set [(s, some d.files.length)]) with files := d.files ++ [⟨[], 0⟩] }, 0) else (d.tick, eCrash)

def DV.append (d : DV) (s : Nm) (b : List UInt8) : DV × Int :=
  if d.down then (d, eCrash) else
  match look d.now s with
  | none => (d, eUnknown)
  | some i => if d.room < d.used + b.length then (d, eFull) else
    (d.tick.file i (fun f => { f with b := f.b ++ b }), if d.on then 0 else eCrash)

def DV.flen (d : DV) (i : Nat) : Nat := ((d.files[i]?).map (·.b.length)).getD 0

def DV.cut (d : DV) (s : Nm) (n : Int) : DV × Int :=
  if d.down then (d, eCrash) else
  match look d.now s with
  | none => (d, eUnknown)
  | some i => if n < 0 ∨ (d.flen i : Int) < n then (d, eArgument) else
    if d.on then (d.tick.file i (fun f => { b := f.b.take n.toNat, safe := min f.safe n.toNat }), 0) else (d.tick, eCrash)

def DV.sync (d : DV) (s : Nm) : DV × Int :=
  if d.down then (d, eCrash) else
  match look d.now s with
  | none => (d, eUnknown)
  | some i => if d.on then (d.tick.file i (fun f => { f with safe := f.b.length }), 0) else (d.tick, eCrash)

def DV.syncDir (d : DV) : DV × Int :=
  if d.down then (d, eCrash) else
  if d.on then ({ d.tick with safe := d.now, wait := [] }, 0) else (d.tick, eCrash)

def DV.rename (d : DV) (s t : Nm) : DV × Int :=
  if d.down then (d, eCrash) else
  match look d.now s with
  | none => (d, eUnknown)
  | some i => if s = t then (d, eArgument) else
    if d.on then (d.tick.set [(s, none), (t, some i)], 0) else (d.tick, eCrash)

def DV.remove (d : DV) (s : Nm) : DV × Int :=
  if d.down then (d, eCrash) else
  match look d.now s with
  | none => (d, eUnknown)
  | some i => if d.on then (d.tick.set [(s, none)], 0) else (d.tick, eCrash)

def DV.read (d : DV) (s : Nm) : List UInt8 × Int :=
  if d.down then ([], eCrash) else
  match look d.now s with
  | none => ([], eUnknown)
  | some i => (((d.files[i]?).map (·.b)).getD [], 0)

/-- what is left of a file of which so many bytes more than the safe ones are kept -/
def trim (bytes : Int) (f : FileV) : FileV :=
  let n := min f.b.length (f.safe + (max 0 (min bytes f.b.length)).toNat)
  { b := f.b.take n, safe := (f.b.take n).length }

/-- is the file one of those that a map has -/
def holds (D : NMap) (i : Nat) : Bool := (entries D).any fun p => match p.2 with | .held j => i == j | _ => false

def trimAll (bytes : Int) (D : NMap) (fs : List FileV) : List FileV := fs.mapIdx fun i f => if holds D i then trim bytes f else f

def DV.restart (d : DV) (names bytes : Int) : DV :=
  let n := (max 0 (min names d.wait.length)).toNat
  let D := (d.wait.take n).foldl putAll d.safe
  { d with now := D, safe := D, wait := [], files := trimAll bytes D d.files, down := false, left := -1 }

def DV.arm (d : DV) (n : Int) : DV := { d with left := max (-1) n }

def DV.of (room : Int) : DV := { now := .map [], safe := .map [], wait := [], files := [], room := max 0 room, left := -1, down := false, calls := 0 }

/-! ## views -/
theorem isKey (s : Nm) : WideAt.IsKeyLit (.string s) := by simp [WideAt.IsKeyLit]

theorem look_put_same {D : NMap} (h : IsMap D) (s : Nm) (i : Nat) : look (D.put (.string s) (.held i)) s = some i := by
  unfold look; rw [atKey_put_same h (isKey s)]
theorem look_put_other {D : NMap} {s t : Nm} (hne : t ≠ s) (d : NMap) : look (D.put (.string s) d) t = look D t := by
  unfold look; rw [atKey_put_other (by simpa using hne)]
theorem look_del_same {D : NMap} (s : Nm) : look (D.del (.string s)) s = none := by
  unfold look; rw [atKey_del_same]
theorem look_del_other {D : NMap} {s t : Nm} (hne : t ≠ s) : look (D.del (.string s)) t = look D t := by
  unfold look; rw [atKey_del_other (by simpa using hne)]
theorem look_empty (s : Nm) : look (.map []) s = none := rfl

/-- every element is a file -/
def Held (n : Nat) (D : NMap) : Prop := ∀ p ∈ entries D, ∃ i, i < n ∧ p.2 = .held i

theorem Held.mono {n m : Nat} {D : NMap} (h : Held n D) (hm : n ≤ m) : Held m D := fun p hp => by
  obtain ⟨i, hi, e⟩ := h p hp
  exact ⟨i, by omega, e⟩

theorem has_look {n : Nat} {D : NMap} (hD : IsMap D) (h : Held n D) (s : Nm) : has D (.string s) = (look D s).isSome := by
  obtain ⟨es, rfl⟩ := hD
  rw [has_eq]
  unfold look DataW.atKey
  simp only []
  cases hf : es.find? (fun p => p.1.sameKey (.string s)) with
  | none =>
    simp only [Option.isSome_none]
    rw [List.find?_eq_none] at hf
    rw [List.any_eq_false]
    exact hf
  | some p =>
    obtain ⟨i, _, e⟩ := h p (List.mem_of_find?_eq_some hf)
    simp only [e, Option.isSome_some]
    rw [List.any_eq_true]
    exact ⟨p, List.mem_of_find?_eq_some hf, List.find?_some (p := fun (p : Lit × NMap) => p.1.sameKey (.string s)) hf⟩

theorem mem_insert {x p : Lit × NMap} : ∀ {l : List (Lit × NMap)}, p ∈ DataW.insert x l → p = x ∨ p ∈ l
  | [], h => by simp [DataW.insert] at h; exact .inl h
  | y :: r, h => by
    unfold DataW.insert at h
    split at h
    · simp only [List.mem_cons] at h ⊢
      exact h
    · simp only [List.mem_cons] at h ⊢
      rcases h with h | h
      · exact .inr (.inl h)
      · rcases mem_insert h with h | h
        · exact .inl h
        · exact .inr (.inr h)

theorem Held.empty (n : Nat) : Held n (.map []) := fun p hp => by cases hp
theorem Held.put {n : Nat} {D : NMap} (h : Held n D) (k : Lit) {i : Nat} (hi : i < n) : Held n (D.put k (.held i)) := by
  cases D <;> try (intro p hp; cases hp)
  intro p hp
  simp only [DataW.put, entries] at hp
  rcases mem_insert hp with rfl | hp
  · exact ⟨i, hi, rfl⟩
  · exact h p (List.mem_filter.1 hp).1
theorem Held.del {n : Nat} {D : NMap} (h : Held n D) (k : Lit) : Held n (D.del k) := by
  cases D <;> try (intro p hp; cases hp)
  intro p hp
  simp only [DataW.del, entries] at hp
  exact h p (List.mem_filter.1 hp).1

def Ch.ok (n : Nat) (c : Ch) : Prop := ∀ i, c.2 = some i → i < n
theorem Held.put1 {n : Nat} {D : NMap} (h : Held n D) {c : Ch} (hc : c.ok n) : Held n (put1 D c) := by
  obtain ⟨s, o⟩ := c
  cases o with
  | none => exact h.del _
  | some i => exact h.put _ (hc i rfl)
theorem IsMap.put1 {D : NMap} (h : IsMap D) (c : Ch) : IsMap (put1 D c) := by
  obtain ⟨s, o⟩ := c
  cases o with
  | none => exact h.del _
  | some i => exact h.put _ _
theorem Held.putAll {n : Nat} : ∀ {cs : List Ch} {D : NMap}, Held n D → (∀ c ∈ cs, c.ok n) → Held n (putAll D cs)
  | [], _, h, _ => h
  | c :: cs, D, h, hc => Held.putAll (cs := cs) (h.put1 (hc c (List.mem_cons_self ..))) (fun x hx => hc x (List.mem_cons_of_mem _ hx))

/-- a file's number is one of the files' -/
theorem look_lt {n : Nat} {D : NMap} (h : Held n D) {s : Nm} {i : Nat} (e : look D s = some i) : i < n := by
  unfold look DataW.atKey at e
  cases D with
  | map es =>
    simp only [] at e
    cases hf : es.find? (fun p => p.1.sameKey (.string s)) with
    | none => rw [hf] at e; cases e
    | some p =>
      rw [hf] at e
      obtain ⟨j, hj, ej⟩ := h p (List.mem_of_find?_eq_some hf)
      simp only [ej, Option.some.injEq] at e
      omega
  | _ => simp at e
end Go.Proofs.Ytombehaaaojhdaa
