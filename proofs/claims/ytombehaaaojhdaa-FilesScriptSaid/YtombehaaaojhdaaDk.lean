/- what every step of a disk keeps: the numbers' bounds, the names, the files -/
import Derived.Test.YtombehaaaojhdaaDset2
set_option linter.unusedVariables false
namespace Go.Proofs.Ytombehaaaojhdaa
open Go.Maps

def Names (N : List Nm) (D : NMap) : Prop := ∀ p ∈ entries D, ∃ s ∈ N, p.1 = .string s

theorem Names.put1 {N : List Nm} {D : NMap} (h : Names N D) {c : Ch} (hc : c.1 ∈ N) : Names N (put1 D c) := by
  obtain ⟨s, o⟩ := c
  cases D <;> cases o <;> try (intro p hp; cases hp)
  · intro p hp
    exact h p (List.mem_filter.1 hp).1
  · intro p hp
    rcases mem_insert hp with rfl | hp
    · exact ⟨s, hc, rfl⟩
    · exact h p (List.mem_filter.1 hp).1

theorem Names.putAll {N : List Nm} : ∀ {cs : List Ch} {D : NMap}, Names N D → (∀ c ∈ cs, c.1 ∈ N) → Names N (putAll D cs)
  | [], _, h, _ => h
  | c :: cs, D, h, hc => Names.putAll (cs := cs) (h.put1 (hc c (List.mem_cons_self ..))) (fun x hx => hc x (List.mem_cons_of_mem _ hx))

theorem Names.size {N : List Nm} {D : NMap} (h : Names N D) (ht : Tidy D) : size D ≤ N.length := by
  obtain ⟨es, rfl, hp⟩ := ht
  have h1 : (es.map (·.1)).Nodup := by
    unfold List.Nodup
    rw [List.pairwise_map]
    exact hp
  have h2 : es.map (·.1) ⊆ N.map Lit.string := fun k hk => by
    obtain ⟨p, hp, rfl⟩ := List.mem_map.1 hk
    obtain ⟨s, hs, e⟩ := h p hp
    rw [e]
    exact List.mem_map.2 ⟨s, hs, rfl⟩
  have := h1.length_le_of_subset h2
  simpa [Go.Maps.size] using this

structure DV.Inv (N : List Nm) (n : Nat) (d : DV) : Prop where
  room0 : 0 ≤ d.room
  room1 : d.room ≤ 4294967296
  left0 : -1 ≤ d.left
  left1 : d.left ≤ 9223372036854775807
  calls : d.calls ≤ n
  lens : ∀ f ∈ d.files, (f.b.length : Int) ≤ d.room ∧ f.safe ≤ f.b.length
  tsafe : Tidy d.safe
  nsafe : Names N d.safe
  nwait : ∀ cs ∈ d.wait, ∀ c ∈ cs, c.1 ∈ N
  now : d.wait.foldl putAll d.safe = d.now
  waits : d.wait.length ≤ d.calls
  hsafe : Held d.files.length d.safe
  hwait : ∀ cs ∈ d.wait, ∀ c ∈ cs, c.ok d.files.length
  wlen : ∀ cs ∈ d.wait, cs.length ≤ 2

theorem tidy_fold : ∀ (wl : List (List Ch)) (D : NMap), Tidy D → Tidy (wl.foldl putAll D)
  | [], _, h => h
  | cs :: wl, D, h => tidy_fold wl _ (size_putAll cs D h).1
theorem names_fold {N : List Nm} : ∀ (wl : List (List Ch)) (D : NMap), Names N D → (∀ cs ∈ wl, ∀ c ∈ cs, c.1 ∈ N) → Names N (wl.foldl putAll D)
  | [], _, h, _ => h
  | cs :: wl, D, h, hc => names_fold wl _ (h.putAll (hc cs (List.mem_cons_self ..))) (fun x hx => hc x (List.mem_cons_of_mem _ hx))
theorem held_fold {n : Nat} : ∀ (wl : List (List Ch)) (D : NMap), Held n D → (∀ cs ∈ wl, ∀ c ∈ cs, c.ok n) → Held n (wl.foldl putAll D)
  | [], _, h, _ => h
  | cs :: wl, D, h, hc => held_fold wl _ (h.putAll (hc cs (List.mem_cons_self ..))) (fun x hx => hc x (List.mem_cons_of_mem _ hx))

section
variable {N : List Nm} {n : Nat} {d : DV}
theorem DV.Inv.tnow (h : d.Inv N n) : Tidy d.now := h.now ▸ tidy_fold _ _ h.tsafe
theorem DV.Inv.nnow (h : d.Inv N n) : Names N d.now := h.now ▸ names_fold _ _ h.nsafe h.nwait
theorem DV.Inv.hnow (h : d.Inv N n) : Held d.files.length d.now := h.now ▸ held_fold _ _ h.hsafe h.hwait
theorem DV.Inv.size (h : d.Inv N n) : Go.Maps.size d.now ≤ N.length := h.nnow.size h.tnow
theorem DV.Inv.sizes (h : d.Inv N n) (k : Nat) : Go.Maps.size ((d.wait.take k).foldl putAll d.safe) ≤ N.length :=
  (names_fold _ _ h.nsafe (fun cs hcs => h.nwait cs (List.mem_of_mem_take hcs))).size (tidy_fold _ _ h.tsafe)
theorem DV.Inv.ok (h : d.Inv N n) (hN : N.length ≤ 64) (hn : n ≤ 1099511627776) : d.ok :=
  ⟨h.room0, h.room1, h.left0, h.left1, Nat.le_trans h.calls hn, h.lens, fun k => Nat.le_trans (h.sizes k) hN, h.now, h.waits⟩

theorem DV.Inv.mono {m : Nat} (h : d.Inv N n) (hm : n ≤ m) : d.Inv N m := { h with calls := Nat.le_trans h.calls hm }
theorem DV.Inv.tick (h : d.Inv N n) : d.tick.Inv N (n + 1) :=
  { h with
    left0 := by simp [DV.tick]; omega
    left1 := by have := h.left1; simp [DV.tick]; omega
    calls := by have := h.calls; simp [DV.tick]; omega
    waits := by have := h.waits; simp [DV.tick]; omega }
theorem DV.Inv.file (h : d.Inv N n) (i : Nat) (F : FileV → FileV) (hF : ∀ f, d.files[i]? = some f → ((F f).b.length : Int) ≤ d.room ∧ (F f).safe ≤ (F f).b.length) : (d.file i F).Inv N n :=
  { h with
    lens := fun f hf => by
      obtain ⟨j, hj⟩ := List.mem_iff_getElem?.1 hf
      have hj' : (d.files.modify i F)[j]? = some f := hj
      rw [List.getElem?_modify] at hj'
      by_cases e : i = j
      · subst e
        cases hg : d.files[i]? with
        | none => rw [hg] at hj'; cases hj'
        | some g =>
          rw [hg] at hj'
          simp at hj'
          subst hj'
          exact hF g hg
      · have : d.files[j]? = some f := by simpa [e] using hj'
        exact h.lens f (List.mem_of_getElem? this)
    hsafe := by simpa [DV.file] using h.hsafe
    hwait := by simpa [DV.file] using h.hwait }
theorem DV.Inv.set (h : d.Inv N n) (cs : List Ch) (h2 : cs.length ≤ 2) (hw : d.wait.length + 1 ≤ d.calls) (hcs : ∀ c ∈ cs, c.1 ∈ N ∧ c.ok d.files.length) : (d.set cs).Inv N n :=
  { h with
    nwait := fun x hx c hc => by
      have hx' : x ∈ d.wait ++ [cs] := hx
      rw [List.mem_append, List.mem_singleton] at hx'
      rcases hx' with hx' | rfl
      · exact h.nwait x hx' c hc
      · exact (hcs c hc).1
    now := by show (d.wait ++ [cs]).foldl putAll d.safe = putAll d.now cs; rw [List.foldl_append, h.now]; rfl
    waits := by show (d.wait ++ [cs]).length ≤ d.calls; simp; exact hw
    hwait := fun x hx c hc => by
      have hx' : x ∈ d.wait ++ [cs] := hx
      rw [List.mem_append, List.mem_singleton] at hx'
      rcases hx' with hx' | rfl
      · exact h.hwait x hx' c hc
      · exact (hcs c hc).2
    wlen := fun x hx => by
      have hx' : x ∈ d.wait ++ [cs] := hx
      rw [List.mem_append, List.mem_singleton] at hx'
      rcases hx' with hx' | rfl
      · exact h.wlen x hx'
      · exact h2 }
theorem DV.Inv.newFile (h : d.Inv N n) : DV.Inv N n { d with files := d.files ++ [⟨[], 0⟩] } :=
  { h with
    lens := fun f hf => by
      have hf' : f ∈ d.files ++ [⟨[], 0⟩] := hf
      rw [List.mem_append, List.mem_singleton] at hf'
      rcases hf' with hf' | rfl
      · exact h.lens f hf'
      · exact ⟨by simpa using h.room0, by simp⟩
    hsafe := h.hsafe.mono (by simp)
    hwait := fun x hx c hc i hi => by have := h.hwait x hx c hc i hi; simp; omega }

theorem tick_waits (h : d.Inv N n) : d.tick.wait.length + 1 ≤ d.tick.calls := by have := h.waits; simp [DV.tick]; omega

theorem DV.Inv.create (h : d.Inv N n) {s : Nm} (hs : s ∈ N) : (d.create s).1.Inv N (n + 1) := by
  unfold DV.create
  split
  · exact h.mono (by omega)
  split
  · exact h.mono (by omega)
  split
  · exact h.mono (by omega)
  split
  · have := h.tick.newFile.set [(s, some d.files.length)] (by simp) (tick_waits h) (fun c hc => by simp at hc; subst hc; exact ⟨hs, fun i hi => by cases hi; show d.files.length < (d.files ++ [_]).length; simp⟩)
    exact this
  · exact h.tick

theorem sum_ge {l : List (Lit × NMap)} (f : NMap → Nat) {p : Lit × NMap} (h : p ∈ l) : f p.2 ≤ (l.map fun p => f p.2).sum := by
  induction l with
  | nil => cases h
  | cons x r ih =>
    simp only [List.map_cons, List.sum_cons]
    rcases List.mem_cons.1 h with rfl | h
    · omega
    · have := ih h; omega

theorem look_mem {D : NMap} {s : Nm} {i : Nat} (h : look D s = some i) : ∃ p ∈ entries D, p.2 = .held i := by
  unfold look DataW.atKey at h
  cases D with
  | map es =>
    simp only [] at h
    cases hf : es.find? (fun p => p.1.sameKey (.string s)) with
    | none => rw [hf] at h; cases h
    | some p =>
      rw [hf] at h
      simp only [] at h
      split at h
      · rename_i j hj
        cases h
        exact ⟨p, List.mem_of_find?_eq_some hf, hj⟩
      · cases h
  | _ => simp at h

theorem used_ge {s : Nm} {i : Nat} (h : look d.now s = some i) : d.flen i ≤ d.used := by
  obtain ⟨p, hp, e⟩ := look_mem h
  have := sum_ge (Go.Proofs.Ytombehaaaojhdaa.flen d.files) hp
  rw [e] at this
  exact this

theorem used_le (h : d.Inv N n) : (d.used : Int) ≤ N.length * d.room := by
  have h1 := h.size
  have key : ∀ l : List (Lit × NMap), (((l.map fun p => Go.Proofs.Ytombehaaaojhdaa.flen d.files p.2).sum : Nat) : Int) ≤ l.length * d.room := by
    intro l
    induction l with
    | nil => simp
    | cons x r ih =>
      simp only [List.map_cons, List.sum_cons, List.length_cons]
      have hx : ((Go.Proofs.Ytombehaaaojhdaa.flen d.files x.2 : Nat) : Int) ≤ d.room := by
        unfold Go.Proofs.Ytombehaaaojhdaa.flen
        split
        · rename_i i _
          cases hf : d.files[i]? with
          | none => simpa using h.room0
          | some f => simpa using (h.lens f (List.mem_of_getElem? hf)).1
        · simpa using h.room0
      have e : ((r.length + 1 : Nat) : Int) * d.room = r.length * d.room + d.room := by
        rw [Int.natCast_add, Int.add_mul]; simp
      rw [e, Int.natCast_add]
      omega
  have h2 := key (entries d.now)
  obtain ⟨es, e, _⟩ := h.tnow
  rw [e] at h1
  have h3 : ((entries d.now).length : Int) ≤ N.length := by rw [e]; simpa [Go.Maps.size, entries] using h1
  exact Int.le_trans h2 (Int.mul_le_mul_of_nonneg_right h3 h.room0)

theorem DV.Inv.append (h : d.Inv N n) {s : Nm} (b : List UInt8) : (d.append s b).1.Inv N (n + 1) := by
  unfold DV.append
  split
  · exact h.mono (by omega)
  split
  · exact h.mono (by omega)
  · rename_i i hi
    split
    · exact h.mono (by omega)
    · rename_i hr
      refine h.tick.file i _ fun f hf => ?_
      have hf' : d.files[i]? = some f := hf
      have h1 := used_ge hi
      have h2 : d.flen i = f.b.length := by simp [DV.flen, hf']
      have h3 := h.lens f (List.mem_of_getElem? hf')
      refine ⟨?_, ?_⟩
      · show ((f.b ++ b).length : Int) ≤ d.room
        simp; omega
      · show f.safe ≤ (f.b ++ b).length
        simp; omega

theorem DV.Inv.cut (h : d.Inv N n) {s : Nm} (k : Int) : (d.cut s k).1.Inv N (n + 1) := by
  unfold DV.cut
  split
  · exact h.mono (by omega)
  split
  · exact h.mono (by omega)
  · rename_i i hi
    split
    · exact h.mono (by omega)
    · rename_i hr
      split
      · refine h.tick.file i _ fun f hf => ?_
        have hf' : d.files[i]? = some f := hf
        have h2 : d.flen i = f.b.length := by simp [DV.flen, hf']
        have h3 := h.lens f (List.mem_of_getElem? hf')
        refine ⟨?_, ?_⟩
        · show ((f.b.take k.toNat).length : Int) ≤ d.room
          simp; omega
        · show min f.safe k.toNat ≤ (f.b.take k.toNat).length
          simp; omega
      · exact h.tick

theorem DV.Inv.sync (h : d.Inv N n) {s : Nm} : (d.sync s).1.Inv N (n + 1) := by
  unfold DV.sync
  split
  · exact h.mono (by omega)
  split
  · exact h.mono (by omega)
  · rename_i i hi
    split
    · refine h.tick.file i _ fun f hf => ?_
      have h3 := h.lens f (List.mem_of_getElem? hf)
      exact ⟨h3.1, Nat.le_refl _⟩
    · exact h.tick

theorem DV.Inv.syncDir (h : d.Inv N n) : d.syncDir.1.Inv N (n + 1) := by
  unfold DV.syncDir
  split
  · exact h.mono (by omega)
  split
  · exact { h.tick with
      tsafe := h.tnow
      nsafe := h.nnow
      nwait := fun _ h => by cases h
      now := rfl
      waits := Nat.zero_le _
      hsafe := h.hnow
      hwait := fun _ h => by cases h
      wlen := fun _ h => by cases h }
  · exact h.tick

theorem DV.Inv.rename (h : d.Inv N n) {s t : Nm} (hs : s ∈ N) (ht : t ∈ N) : (d.rename s t).1.Inv N (n + 1) := by
  unfold DV.rename
  split
  · exact h.mono (by omega)
  split
  · exact h.mono (by omega)
  · rename_i i hi
    split
    · exact h.mono (by omega)
    split
    · refine h.tick.set _ (by simp) (tick_waits h) (fun c hc => ?_)
      simp at hc
      rcases hc with rfl | rfl
      · exact ⟨hs, fun i hi => nomatch hi⟩
      · exact ⟨ht, fun j hj => by cases hj; exact look_lt h.hnow hi⟩
    · exact h.tick

theorem DV.Inv.remove (h : d.Inv N n) {s : Nm} (hs : s ∈ N) : (d.remove s).1.Inv N (n + 1) := by
  unfold DV.remove
  split
  · exact h.mono (by omega)
  split
  · exact h.mono (by omega)
  · split
    · refine h.tick.set _ (by simp) (tick_waits h) (fun c hc => ?_)
      simp at hc
      subst hc
      exact ⟨hs, fun i hi => nomatch hi⟩
    · exact h.tick

theorem trim_lens (bytes : Int) (f : FileV) : (trim bytes f).b.length ≤ f.b.length ∧ (trim bytes f).safe ≤ (trim bytes f).b.length := by
  simp only [trim, List.length_take]
  omega

theorem DV.Inv.restart (h : d.Inv N n) (names bytes : Int) : (d.restart names bytes).Inv N n := by
  have hl : (trimAll bytes ((d.wait.take (max 0 (min names d.wait.length)).toNat).foldl putAll d.safe) d.files).length = d.files.length := by simp [trimAll]
  have hD := held_fold (d.wait.take (max 0 (min names d.wait.length)).toNat) d.safe h.hsafe (fun cs hcs => h.hwait cs (List.mem_of_mem_take hcs))
  exact {
    room0 := h.room0
    room1 := h.room1
    left0 := by simp [DV.restart]
    left1 := by simp [DV.restart]
    calls := h.calls
    lens := fun f hf => by
      obtain ⟨j, hj⟩ := List.mem_iff_getElem?.1 hf
      have hj' : (trimAll bytes ((d.wait.take (max 0 (min names d.wait.length)).toNat).foldl putAll d.safe) d.files)[j]? = some f := hj
      rw [trimAll, List.getElem?_mapIdx] at hj'
      cases hg : d.files[j]? with
      | none => rw [hg] at hj'; cases hj'
      | some g =>
        rw [hg] at hj'
        simp at hj'
        have h3 := h.lens g (List.mem_of_getElem? hg)
        subst hj'
        split
        · have := trim_lens bytes g
          exact ⟨by show _ ≤ d.room; omega, this.2⟩
        · exact h3
    tsafe := tidy_fold _ _ h.tsafe
    nsafe := names_fold _ _ h.nsafe (fun cs hcs => h.nwait cs (List.mem_of_mem_take hcs))
    nwait := fun _ h => by cases h
    now := rfl
    waits := Nat.zero_le _
    hsafe := by show Held (trimAll _ _ _).length _; rw [hl]; exact hD
    hwait := fun _ h => by cases h
    wlen := fun _ h => by cases h }

theorem DV.Inv.arm (h : d.Inv N n) {k : Int} (hk : k ≤ 9223372036854775807) : (d.arm k).Inv N n :=
  { h with left0 := by simp [DV.arm]; omega, left1 := by simp [DV.arm]; omega }

theorem DV.Inv.of {N : List Nm} {room : Int} (hr : room ≤ 4294967296) : (DV.of room).Inv N 0 where
  room0 := by simp [DV.of]; omega
  room1 := by simp [DV.of]; omega
  left0 := by simp [DV.of]
  left1 := by simp [DV.of]
  calls := Nat.le_refl _
  lens := fun f hf => by cases hf
  tsafe := ⟨[], rfl, .nil⟩
  nsafe := fun p hp => by cases hp
  nwait := fun _ h => by cases h
  now := rfl
  waits := Nat.zero_le _
  hsafe := Held.empty _
  hwait := fun _ h => by cases h
  wlen := fun _ h => by cases h
end
end Go.Proofs.Ytombehaaaojhdaa
