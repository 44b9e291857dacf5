/- sums over what a range over a map has met -/
import Derived.Test.YtombehaaaojhdaaDset2
import Derived.Maps.RangeWalk
set_option linter.unusedVariables false
namespace Go.Proofs.Ytombehaaaojhdaa
open Go.Maps Go.RowKit

/-- a sum over those entries that are no longer to come -/
def sumBut (f : NMap → Nat) (left : Lit → Bool) (D : NMap) : Nat := ((entries D).map fun p => if left p.1 then 0 else f p.2).sum

theorem sumBut_end (f : NMap → Nat) {left : Lit → Bool} (h : ∀ k, left k = false) (D : NMap) : sumBut f left D = ((entries D).map fun p => f p.2).sum := by
  simp [sumBut, h]

theorem sumBut_start (f : NMap → Nat) (D : NMap) (hk : ∀ p ∈ entries D, WideAt.IsKeyLit p.1) : sumBut f (has D) D = 0 := by
  cases D <;> try rfl
  rename_i es
  have : ∀ l : List (Lit × NMap), (∀ p ∈ l, has (.map es) p.1 = true) → (l.map fun p => if has (.map es) p.1 then 0 else f p.2).sum = 0 := by
    intro l
    induction l with
    | nil => intro _; rfl
    | cons x r ih =>
      intro h
      simp only [List.map_cons, List.sum_cons, h x (List.mem_cons_self ..), if_true]
      rw [ih (fun p hp => h p (List.mem_cons_of_mem _ hp))]
  refine this es fun p hp => ?_
  rw [has_eq, List.any_eq_true]
  exact ⟨p, hp, WideAt.sameKey_self (hk p hp)⟩

theorem sumBut_step (f : NMap → Nat) {left : Lit → Bool} {D : NMap} (ht : Tidy D) {s : Nm} (hl : left (.string s) = true) {i : Nat} (hi : look D s = some i) :
    sumBut f (fun z => left z && !z.sameKey (.string s)) D = sumBut f left D + f (.held i) := by
  obtain ⟨es, rfl, hp⟩ := ht
  have hmiss : ∀ l : List (Lit × NMap), (∀ p ∈ l, p.1 ≠ .string s) → (l.map fun p => if (left p.1 && !p.1.sameKey (.string s)) then 0 else f p.2).sum = (l.map fun p => if left p.1 then 0 else f p.2).sum := by
    intro l
    induction l with
    | nil => intro _; rfl
    | cons x r ih =>
      intro h
      simp only [List.map_cons, List.sum_cons]
      rw [ih (fun p hp => h p (List.mem_cons_of_mem _ hp)), sameKey_ne (h x (List.mem_cons_self ..))]
      simp
  have hmain : ∀ l : List (Lit × NMap), l.Pairwise (fun p q => p.1 ≠ q.1) → ∀ d, (l.find? fun p => p.1.sameKey (.string s)).map (·.2) = some d →
      (l.map fun p => if (left p.1 && !p.1.sameKey (.string s)) then 0 else f p.2).sum = (l.map fun p => if left p.1 then 0 else f p.2).sum + f d := by
    intro l
    induction l with
    | nil => intro _ d h; cases h
    | cons x r ih =>
      intro hpw d h
      simp only [List.map_cons, List.sum_cons]
      rw [List.pairwise_cons] at hpw
      by_cases hx : x.1 = .string s
      · have hs : x.1.sameKey (.string s) = true := by rw [hx]; simp [Lit.sameKey]
        simp only [List.find?_cons, hs, Option.map_some, Option.some.injEq] at h
        rw [hmiss r (fun p hp e => hpw.1 p hp (by rw [hx, e])), hs, ← h, hx, hl]
        simp
        omega
      · have hs := sameKey_ne hx
        simp only [List.find?_cons, hs] at h
        rw [ih hpw.2 d h, hs]
        simp
        omega
  refine hmain es hp _ ?_
  unfold look DataW.atKey at hi
  simp only [] at hi
  cases hf : es.find? (fun p => p.1.sameKey (.string s)) with
  | none => rw [hf] at hi; cases hi
  | some p =>
    rw [hf] at hi
    simp only [Option.map_some]
    split at hi
    · rename_i j hj
      cases hi
      exact congrArg some hj
    · cases hi

theorem MapAt.keys {w : World} {φ : List Nat} {b : Nat} {D : NMap} (h : MapAt Try.prog 9 w φ b D) : ∀ p ∈ entries D, WideAt.IsKeyLit p.1 := by
  obtain ⟨es, rfl, _, hk⟩ := World.ownsMap.canon h keyed
  exact hk

theorem key_string {key : Value} {kl : Lit} (h : keyOf Try.prog 9 key = some kl) : ∃ s : ByteArray, key = .string s ∧ kl = .string s.data.toList := by
  cases key <;> simp [keyOf, Try.underlying9, mapKey] at h
  obtain ⟨_, rfl⟩ := h
  exact ⟨_, rfl, rfl⟩

theorem fread_shape {φ : List Nat} (v : Value) (y : NMap × List MemPlace) (h : fread φ v = some y) : ∃ c, v = .pointer c := by
  rcases fread_inv (d := y.1) (ps := y.2) h with ⟨rfl, _⟩ | ⟨b, i, rfl, _⟩
  · exact ⟨_, rfl⟩
  · exact ⟨_, rfl⟩

/-- what an entry that has come is -/
theorem entry_file {φ : List Nat} {D : NMap} (hD : Held φ.length D) (hm : IsMap D) {s : Nm} {c : Option Addr} {y : NMap × List MemPlace} (hy : fread φ (.pointer c) = some y) (hat : ∀ zd, D.atKey (.string s) zd = y.1) :
    ∃ i fb, look D s = some i ∧ φ[i]? = some fb ∧ c = some ⟨fb, 0, none⟩ := by
  have hh : has D (.string s) = true := has_true_of_atKey hat
  rw [has_look hm hD] at hh
  obtain ⟨i, hi⟩ := Option.isSome_iff_exists.1 hh
  have e : y.1 = .held i := by
    have := hat .nil
    unfold look at hi
    rw [this] at hi
    split at hi
    · rename_i j hj
      cases hi; exact hj
    · cases hi
  rcases fread_inv (d := y.1) (ps := y.2) hy with ⟨_, h2⟩ | ⟨fb, j, h1, h2, h3⟩
  · rw [e] at h2; cases h2
  · rw [e] at h2
    cases h2
    cases h1
    exact ⟨_, fb, hi, h3, rfl⟩

theorem sumBut_le (f : NMap → Nat) (left : Lit → Bool) (D : NMap) : sumBut f left D ≤ ((entries D).map fun p => f p.2).sum := by
  unfold sumBut
  induction entries D with
  | nil => exact Nat.le_refl _
  | cons x r ih =>
    simp only [List.map_cons, List.sum_cons]
    split <;> omega

theorem bytes_shape {w : World} {v : Value} {b : List UInt8} (h : BytesAt w v b) : ∃ ao c, v = .slice ao b.length c := by
  rcases h with ⟨_, ⟨rfl, h⟩ | ⟨g, cap, cur, rfl, _⟩⟩ | ⟨g, cur, fz, rfl, _⟩
  · exact ⟨none, 0, by rw [h]⟩
  · exact ⟨_, _, rfl⟩
  · exact ⟨_, _, rfl⟩

theorem grown_iter {w w1 w2 : World} (h : w.grownBy w1 none) (k : w1.grownBy w2 (some w.heap.size)) : w.grownBy w2 none :=
  ⟨k.os.trans h.os, k.tape.trans h.tape, k.output.trans h.output, Nat.le_trans h.size k.size,
    fun j hj _ => (k.block j (Nat.lt_of_lt_of_le hj h.size) (fun e => by cases e; omega)).trans (h.block j hj (by simp))⟩

/-- a file by its number: its cells, its bytes' slice -/
theorem DiskAt.file_at {w : World} {L : Lab} {db nb sb : Nat} {wv : Value} {φ : List Nat} {fv cv : List Value} {d : DV} (h : DiskAt w L db nb sb wv φ fv cv d) {i fb : Nat} (hfb : φ[i]? = some fb) :
    ∃ f ao c, d.files[i]? = some f ∧ fv[i]? = some (.slice ao f.b.length c) ∧ FileAt w L i fb (.slice ao f.b.length c) f := by
  have hi : i < d.files.length := by
    have := h.nfiles
    have := (List.getElem?_eq_some_iff.1 hfb).1
    omega
  obtain ⟨fb', v, h1, h2, h3⟩ := h.files i _ (List.getElem?_eq_getElem hi)
  rw [hfb] at h1
  cases h1
  obtain ⟨ao, c, rfl⟩ := bytes_shape h3.bytes
  exact ⟨_, ao, c, List.getElem?_eq_getElem hi, h2, h3⟩

set_option maxHeartbeats 4000000 in
theorem used_disk (w : World) (L : Lab) (db nb sb : Nat) (wv : Value) (φ : List Nat) (fv cv : List Value) (d : DV) (h : DiskAt w L db nb sb wv φ fv cv d) (hu : d.used ≤ 1099511627776) :
    Calls Try.prog 13 #[.pointer (some ⟨db, 0, none⟩)] w fun e w' => e = .returned (.int .i64 d.used) ∧ Below w.heap.size w w' := by
  have c0 : w.cell? ⟨db, 0, none⟩ = some (.map (some nb)) := (Blk.cell h.cells 0).trans rfl
  have H := Lib.hid h
  have HU := Lib.hid hu
  have hown := h.now
  have HOWN := Lib.hid hown
  clear h hu hown
  go_enter Try.func13, Try.ntmps13
  go_wp2_with (first | (at_range; refine wpList_range_own _ rfl _ 53 rfl 9 58 keyed Try.underlying53 (fread φ) nb _ d.now rfl HOWN.out ?_; intro w0 hrg0 hg0 hs0) | go_in)
  go_frame
  go_loopw [3] (fun n wr => ∃ left cnt, wr.ranges Try.prog 9 (fread φ) nb w.heap.size (size d.now) d.now left cnt ∧ n = .int .i64 (sumBut (flen d.files) left d.now) ∧ w.grownBy wr none) (fun _ wr => wr.rangeLeft nb w.heap.size)
  case atStart => exact ⟨_, _, hrg0, by rw [sumBut_start _ _ (MapAt.keys HOWN.out)]; rfl, hg0⟩
  case round =>
    obtain ⟨left, cnt, hrg, rfl, hgr⟩ := hrel
    have HRG := Lib.hid hrg
    clear hrg
    go_wp2_with (first | (at_next; refine wpList_next_ranges _ rfl _ rfl 9 keyed (fread φ) Value.string Value.pointer (fun key kl hk => by obtain ⟨s, e, _⟩ := key_string hk; exact ⟨s, e⟩) fread_shape nb w.heap.size _ _ _ _ rfl HRG.out ?_ ?_) | go_in)
    · intro hc0 hl0
      have hfin : sumBut (flen d.files) left d.now = d.used := sumBut_end _ hl0 _
      have HF := Lib.hid hfin
      clear hfin
      go_wp2
      go_ret
      exact ⟨by rw [HF.out]; rfl, hgr.os, hgr.tape, hgr.output, hgr.size, fun k hk => hgr.block k hk (by simp)⟩
    · intro x c kl y1 y2 w1 cnt1 hkx hlx hy hat hrg1 hlt hg1 hs1 hen
      obtain ⟨s, e1, rfl⟩ := key_string hkx
      obtain ⟨i, fb, hi, hfb, rfl⟩ := entry_file H.out.hnow (World.ownsMap.isMap HOWN.out) (y := (y1, y2)) hy hat
      obtain ⟨f, ao, cp, hf, _, hF⟩ := H.out.file_at hfb
      have hw1 : w.grownBy w1 none := grown_iter hgr hg1
      have hB : Blk w1 fb 64 #[.slice ao f.b.length cp, .int .i64 f.safe] := (hw1.block fb (Blk.lt hF.cells) (by simp)).trans hF.cells
      have b0 : w1.cell? ⟨fb, 0, none⟩ = some (.slice ao f.b.length cp) := (Blk.cell hB 0).trans rfl
      have hstep := sumBut_step (flen d.files) (World.ownsMap.tidy HOWN.out keyed) hlx hi
      have hfl : flen d.files (.held i) = f.b.length := by simp [flen, hf]
      rw [hfl] at hstep
      have hle := sumBut_le (flen d.files) (fun z => left z && !z.sameKey (.string s.data.toList)) d.now
      have hus : ((entries d.now).map fun p => flen d.files p.2).sum ≤ 1099511627776 := HU.out
      have hle2 : sumBut (flen d.files) left d.now + f.b.length ≤ 1099511627776 := by omega
      have HST := Lib.hid hstep
      have HLE := Lib.hid hle2
      have HR1 := Lib.hid hrg1
      clear hstep hle hus hle2 hrg1 hat hy hkx hlx hB hF hf
      generalize sumBut (flen d.files) left d.now = acc at *
      go_wp2
      go_roundw
      case rel =>
        have hle := HLE.out
        have e : wrap64 ((acc : Int) + (f.b.length : Int)) = ((acc + f.b.length : Nat) : Int) := by unfold wrap64; omega
        exact ⟨_, _, HR1.out, by rw [HST.out, e], hw1⟩
      case measure => rw [HR1.out.left_eq, HRG.out.left_eq]; omega
end Go.Proofs.Ytombehaaaojhdaa
