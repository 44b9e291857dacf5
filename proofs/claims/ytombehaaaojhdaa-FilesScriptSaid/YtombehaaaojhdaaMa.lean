/- the document's model of a disk (tephralaw04.Model), how it lies in the world; set, call, used -/
import Derived.Test.YtombehaaaojhdaaDof
set_option linter.unusedVariables false
namespace Go.Proofs.Ytombehaaaojhdaa
open Go.Maps Go.RowKit

inductive MLbl where
  | model | now | kept | wait | fwait
  | ns (i : Nat)
  | fs (i : Nat)
  | file (i : Nat)
  deriving DecidableEq

abbrev MLab := Nat → Option MLbl

structure MFileAt (w : World) (L : MLab) (i fb : Nat) (f : FileV) : Prop where
  lab : L fb = some (.file i)
  cells : w.heap[fb]? = some (.cells #[.string ⟨f.b.toArray⟩, .int .i64 f.safe] 48 (0, 0))

structure MCsAt (w : World) (L : MLab) (φ : List Nat) (i : Nat) (v u : Value) (cs : List Ch) : Prop where
  at_ : ∃ g h, v = .slice (some ⟨g, 0, none⟩) cs.length cs.length ∧ Blk w g 9 (cs.map fun c => Value.string ⟨c.1.toArray⟩).toArray ∧ L g = some (.ns i) ∧
    u = .slice (some ⟨h, 0, none⟩) cs.length cs.length ∧ Blk w h 44 (cs.map fun c => ptrOf φ c.2).toArray ∧ L h = some (.fs i)

structure ModelAt (w : World) (L : MLab) (mb nb kb : Nat) (wv xv : Value) (φ : List Nat) (nv xs : List Value) (d : DV) : Prop where
  dom : ∀ k, L k ≠ none → k < w.heap.size
  lmodel : L mb = some .model
  cells : w.heap[mb]? = some (.cells #[.map (some nb), .map (some kb), wv, xv, .int .i64 d.room, .int .i64 d.left, .bool d.down, .int .i64 d.calls] 31 (0, 0))
  lnow : L nb = some .now
  lkept : L kb = some .kept
  now : MapAt Try.prog 9 w φ nb d.now
  kept : MapAt Try.prog 9 w φ kb d.safe
  hnow : Held φ.length d.now
  hkept : Held φ.length d.safe
  nfiles : φ.length = d.files.length
  files : ∀ i f, d.files[i]? = some f → ∃ fb, φ[i]? = some fb ∧ MFileAt w L i fb f
  wait : w.ownsRow 0 42 1 wv d.wait.length nv
  lwait : ∀ g, wv.ownBlock = some g → L g = some .wait
  fwait : w.ownsRow 0 67 1 xv d.wait.length xs
  lfwait : ∀ g, xv.ownBlock = some g → L g = some .fwait
  chs : ∀ i cs, d.wait[i]? = some cs → ∃ v u, nv[i]? = some v ∧ xs[i]? = some u ∧ MCsAt w L φ i v u cs
  hchs : ∀ cs ∈ d.wait, ∀ c ∈ cs, c.ok φ.length

theorem ownsRow_block {w w' : World} {e : TypeId} {v : Value} {n : Nat} {xs : List Value} (h : w.ownsRow 0 e 1 v n xs) (hk : ∀ g, v.ownBlock = some g → w'.heap[g]? = w.heap[g]?) : w'.ownsRow 0 e 1 v n xs := by
  obtain ⟨hl, hw⟩ := h
  refine ⟨hl, ?_⟩
  rcases hw with hw | ⟨g, cap, cur, rfl, h0, hg, rest⟩
  · exact .inl hw
  · exact .inr ⟨g, cap, cur, rfl, h0, (hk g rfl).trans hg, rest⟩

/-- the world has turned at the model's blocks and new ones alone -/
structure MTurned (L L' : MLab) (w w' : World) : Prop where
  os : w'.os = w.os
  tape : w'.tape = w.tape
  output : w'.output = w.output
  size : w.heap.size ≤ w'.heap.size
  block : ∀ k, k < w.heap.size → L k = none → w'.heap[k]? = w.heap[k]?
  dom : ∀ k, k < w.heap.size → L' k ≠ none → L k ≠ none

theorem MTurned.refl (L : MLab) (w : World) : MTurned L L w w := ⟨rfl, rfl, rfl, Nat.le_refl _, fun _ _ _ => rfl, fun _ _ h => h⟩
theorem MTurned.trans {L L' L'' : MLab} {w w' w'' : World} (h : MTurned L L' w w') (k : MTurned L' L'' w' w'') : MTurned L L'' w w'' :=
  ⟨k.os.trans h.os, k.tape.trans h.tape, k.output.trans h.output, Nat.le_trans h.size k.size,
    fun b hb hl => (k.block b (Nat.lt_of_lt_of_le hb h.size) (by
      cases e : L' b with
      | none => rfl
      | some x => exact absurd hl (h.dom b hb (by simp [e])))).trans (h.block b hb hl),
    fun b hb hl => h.dom b hb (k.dom b (Nat.lt_of_lt_of_le hb h.size) hl)⟩
theorem MTurned.below {L : MLab} {w w' : World} (h : Below w.heap.size w w') : MTurned L L w w' :=
  ⟨h.os, h.tape, h.output, h.size, fun k hk _ => h.block k hk, fun _ _ h => h⟩

def ModelTo (w : World) (L : MLab) (mb : Nat) (d : DV) (w' : World) : Prop :=
  ∃ L' nb kb wv xv φ nv xs, ModelAt w' L' mb nb kb wv xv φ nv xs d ∧ MTurned L L' w w'

theorem ModelTo.trans2 {w w1 w' : World} {L L1 : MLab} {mb : Nat} {d : DV} (h : ModelTo w1 L1 mb d w') (ht : MTurned L L1 w w1) : ModelTo w L mb d w' := by
  obtain ⟨L', nb, kb, wv, xv, φ, nv, xs, hD, hT⟩ := h
  exact ⟨L', nb, kb, wv, xv, φ, nv, xs, hD, ht.trans hT⟩

section
variable {w w' : World} {L : MLab} {mb nb kb : Nat} {wv xv : Value} {φ : List Nat} {nv xs : List Value} {d : DV}
theorem ModelAt.nodup (h : ModelAt w L mb nb kb wv xv φ nv xs d) : φ.Nodup := by
  refine List.pairwise_iff_getElem.2 fun i j hi0 hj0 hij e => ?_
  have hi : i < d.files.length := by have := h.nfiles; omega
  have hj' : j < d.files.length := by have := h.nfiles; omega
  obtain ⟨fb, h1, h3⟩ := h.files i _ (List.getElem?_eq_getElem hi)
  obtain ⟨fb', h1', h3'⟩ := h.files j _ (List.getElem?_eq_getElem hj')
  rw [List.getElem?_eq_getElem hi0] at h1
  rw [List.getElem?_eq_getElem hj0] at h1'
  cases h1
  cases h1'
  rw [e] at h3
  have := h3.lab.symm.trans h3'.lab
  simp at this
  omega

/-- what stays of a change's two lists -/
theorem MCsAt.keep {i : Nat} {v u : Value} {cs : List Ch} (h : MCsAt w L φ i v u cs) {L' : MLab} (hk : ∀ k, (L k = some (.ns i) ∨ L k = some (.fs i)) → w'.heap[k]? = w.heap[k]? ∧ L' k = L k) : MCsAt w' L' φ i v u cs := by
  obtain ⟨g, h', rfl, hg, lg, rfl, hh, lh⟩ := h
  exact ⟨g, h', rfl, (hk g (.inl lg)).1.trans hg, (hk g (.inl lg)).2.trans lg, rfl, (hk h' (.inr lh)).1.trans hh, (hk h' (.inr lh)).2.trans lh⟩

/-- the model's numbers turn, and nothing else that it holds -/
theorem ModelAt.nums (h : ModelAt w L mb nb kb wv xv φ nv xs d) (hs : w.heap.size ≤ w'.heap.size) (hk : ∀ k, L k ≠ none → k ≠ mb → w'.heap[k]? = w.heap[k]?) (room left : Int) (down : Bool) (calls : Nat)
    (hd : Blk w' mb 31 #[.map (some nb), .map (some kb), wv, xv, .int .i64 room, .int .i64 left, .bool down, .int .i64 calls]) :
    ModelAt w' L mb nb kb wv xv φ nv xs { d with room := room, left := left, down := down, calls := calls } := by
  have hkp : ∀ k l, L k = some l → l ≠ .model → w'.heap[k]? = w.heap[k]? := fun k l hl hne => hk k (by simp [hl]) (fun e => by rw [e, h.lmodel] at hl; cases hl; exact hne rfl)
  exact {
    dom := fun k hk => Nat.lt_of_lt_of_le (h.dom k hk) hs
    lmodel := h.lmodel
    cells := hd
    lnow := h.lnow
    lkept := h.lkept
    now := h.now.block (hkp nb _ h.lnow (by simp))
    kept := h.kept.block (hkp kb _ h.lkept (by simp))
    hnow := h.hnow
    hkept := h.hkept
    nfiles := h.nfiles
    files := fun i f hf => by
      obtain ⟨fb, h1, h3⟩ := h.files i f hf
      exact ⟨fb, h1, h3.lab, (hkp fb _ h3.lab (by simp)).trans h3.cells⟩
    wait := ownsRow_block h.wait (fun g hg => hkp g _ (h.lwait g hg) (by simp))
    lwait := h.lwait
    fwait := ownsRow_block h.fwait (fun g hg => hkp g _ (h.lfwait g hg) (by simp))
    lfwait := h.lfwait
    chs := fun i cs hc => by
      obtain ⟨v, u, h1, h2, hm⟩ := h.chs i cs hc
      exact ⟨v, u, h1, h2, hm.keep fun k hl => by
        rcases hl with hl | hl <;> exact ⟨hkp k _ hl (by simp), rfl⟩⟩
    hchs := h.hchs }

theorem ModelAt.keep (h : ModelAt w L mb nb kb wv xv φ nv xs d) (hs : w.heap.size ≤ w'.heap.size) (hk : ∀ k, L k ≠ none → w'.heap[k]? = w.heap[k]?) : ModelAt w' L mb nb kb wv xv φ nv xs d :=
  h.nums hs (fun k hl _ => hk k hl) d.room d.left d.down d.calls ((hk mb (by rw [h.lmodel]; simp)).trans h.cells)

theorem ModelAt.below (h : ModelAt w L mb nb kb wv xv φ nv xs d) (hb : Below w.heap.size w w') : ModelAt w' L mb nb kb wv xv φ nv xs d :=
  h.keep hb.size (fun k hk => hb.block k (h.dom k hk))
end

theorem del_put (D : NMap) (k : Lit) (z : NMap) : (D.del k).put k z = D.put k z := by
  cases D with
  | map es => simp [DataW.del, DataW.put, List.filter_filter]
  | _ => rfl

/-- 'set': a name has a file, or none -/
theorem mset_any (w : World) (φ : List Nat) (hn : φ.Nodup) (b : Nat) (D : NMap) (c : Ch) (h : MapAt Try.prog 9 w φ b D) (hc : c.ok φ.length) (hs : c.1.length ≤ maxLen) (hsz : size D < maxLen) :
    Calls Try.prog 23 #[.map (some b), .string ⟨c.1.toArray⟩, ptrOf φ c.2] w fun e w' => e = .returned (.tuple #[]) ∧ MapAt Try.prog 9 w' φ b (put1 D c) ∧ w.grownBy w' (some b) := by
  obtain ⟨s, o⟩ := c
  have ht : Tidy D := World.ownsMap.tidy h keyed
  have hdel : size (D.del (.string s)) < maxLen := by have := size_del (k := .string s) ht; split at this <;> omega
  have HDEL := Lib.hid hdel
  have HK := Lib.hid (hkey hs)
  have HOWN := Lib.hid h
  clear hdel h hsz ht
  cases o with
  | none =>
    simp only [ptrOf]
    have hq : ∀ W : World, (binOp .neq 44 (.pointer none) (.pointer none)).run Try.prog W = .ok (.bool false) W := fun W => by kernel_rfl
    go_enter Try.func23, Try.ntmps23
    go_wp2_with (at_delete; refine wpList_delete_own _ rfl _ _ 27 9 rfl 44 keyed Try.underlying27 (fread φ) b _ D rfl HOWN.out _ _ rfl HK.out ?_; intro w1 hown1 hturn1)
    go_end0
    exact ⟨rfl, mapAt_of hown1, hturn1.grown⟩
  | some i =>
    have hi : i < φ.length := hc i rfl
    obtain ⟨fb, hfb⟩ : ∃ fb, φ[i]? = some fb := ⟨_, List.getElem?_eq_getElem hi⟩
    have hp : ptrOf φ (some i) = .pointer (some ⟨fb, 0, none⟩) := by simp [ptrOf, hfb]
    have hr : fread φ (.pointer (some ⟨fb, 0, none⟩)) = some (.held i, []) := fread_mk hn hfb
    have hq : ∀ W : World, (binOp .neq 44 (.pointer (some ⟨fb, 0, none⟩)) (.pointer none)).run Try.prog W = .ok (.bool true) W := fun W => by kernel_rfl
    simp only [hp]
    have HR := Lib.hid hr
    clear hr hp
    go_enter Try.func23, Try.ntmps23
    go_wp2_with (first | (at_delete; refine wpList_delete_own _ rfl _ _ 27 9 rfl 44 keyed Try.underlying27 (fread φ) b _ D rfl HOWN.out _ _ rfl HK.out ?_; intro w1 hown1 hturn1; have HO1 := Lib.hid (show MapAt Try.prog 9 w1 φ b (D.del (.string s)) from mapAt_of hown1); clear hown1) | (at_mapUpdate; refine wpList_mapUpdate_in _ rfl _ _ _ 27 rfl 9 44 keyed Try.underlying27 (fread φ) b _ (D.del (.string s)) rfl HO1.out HDEL.out _ _ _ rfl rfl HK.out _ [] HR.out ?_; intro w2 hown2 hturn2))
    go_end0
    refine ⟨rfl, ?_, hturn1.grown.trans hturn2.grown⟩
    have := mapAt_of hown2
    rw [del_put] at this
    exact this

theorem mcall_any (w : World) (db : Nat) (m : Value) (m2 : Value) (wv xv : Value) (room left : Int) (down : Bool) (calls : Nat) (h0 : -1 ≤ left) (h1 : left ≤ 9223372036854775807) (hc : calls ≤ 1099511627776)
    (hd : Blk w db 31 #[m, m2, wv, xv, .int .i64 room, .int .i64 left, .bool down, .int .i64 calls]) :
    Calls Try.prog 30 #[.pointer (some ⟨db, 0, none⟩)] w fun e w' => e = .returned (.bool (decide (left ≠ 0))) ∧
      Blk w' db 31 #[m, m2, wv, xv, .int .i64 room, .int .i64 (max (-1) (left - 1)), .bool (decide (left = 0)), .int .i64 (calls + 1 : Nat)] ∧
      w.grownBy w' (some db) := by
  have c0 := hd.cell 0
  have c4 := hd.cell 5
  have c6 := hd.cell 7
  have c5 := hd.cell 6
  have f4 := hd.frozen 5
  have f5 := hd.frozen 6
  have f6 := hd.frozen 7
  simp at c0 c4 c5 c6
  go_enter Try.func30, Try.ntmps30
  go_wp2
  all_goals go_ret
  all_goals have hbeq : (left == 0) = decide (left = 0) := by rfl
  refine ⟨by simp [hbeq], ?_, (grown_set (grown_set (grown_set (World.grownBy.refl _ _) _ _) _ _) _ _)⟩
  have := ((hd.set_ 7 (.int .i64 (calls + 1 : Nat))).set_ 6 (.bool (left == 0))).set_ 5 (.int .i64 (max (-1) (left - 1)))
  simpa [hbeq] using this

theorem mcall_model (w : World) (L : MLab) (mb nb kb : Nat) (wv xv : Value) (φ : List Nat) (nv xs : List Value) (d : DV) (h : ModelAt w L mb nb kb wv xv φ nv xs d) (hok : d.ok) (hc : d.calls ≤ 1099511627776) :
    Calls Try.prog 30 #[.pointer (some ⟨mb, 0, none⟩)] w fun e w' => e = .returned (.bool d.on) ∧ ModelAt w' L mb nb kb wv xv φ nv xs d.tick ∧ MTurned L L w w' := by
  refine (mcall_any w mb _ _ wv xv d.room d.left d.down d.calls hok.left0 hok.left1 hc h.cells).mono ?_
  rintro e w' ⟨rfl, hb, hg⟩
  refine ⟨rfl, ?_, hg.os, hg.tape, hg.output, hg.size, fun k hk hl => hg.block k hk (fun e => by cases e; rw [h.lmodel] at hl; cases hl), fun k _ hl => hl⟩
  exact h.nums hg.size (fun k hk hne => hg.block k (h.dom k hk) (by simpa using hne)) d.room _ _ _ hb

theorem ModelAt.file_at {w : World} {L : MLab} {mb nb kb : Nat} {wv xv : Value} {φ : List Nat} {nv xs : List Value} {d : DV} (h : ModelAt w L mb nb kb wv xv φ nv xs d) {i fb : Nat} (hfb : φ[i]? = some fb) : ∃ f, d.files[i]? = some f ∧ MFileAt w L i fb f := by
  have hi : i < d.files.length := by
    have := h.nfiles
    have := (List.getElem?_eq_some_iff.1 hfb).1
    omega
  obtain ⟨fb', h1, h3⟩ := h.files i _ (List.getElem?_eq_getElem hi)
  rw [hfb] at h1
  cases h1
  exact ⟨_, List.getElem?_eq_getElem hi, h3⟩

set_option maxHeartbeats 4000000 in
theorem mused_model (w : World) (L : MLab) (mb nb kb : Nat) (wv xv : Value) (φ : List Nat) (nv xs : List Value) (d : DV) (h : ModelAt w L mb nb kb wv xv φ nv xs d) (hu : d.used ≤ 1099511627776) :
    Calls Try.prog 14 #[.pointer (some ⟨mb, 0, none⟩)] w fun e w' => e = .returned (.int .i64 d.used) ∧ Below w.heap.size w w' := by
  have c0 : w.cell? ⟨mb, 0, none⟩ = some (.map (some nb)) := (Blk.cell h.cells 0).trans rfl
  have H := Lib.hid h
  have HU := Lib.hid hu
  have hown := h.now
  have HOWN := Lib.hid hown
  clear h hu hown
  go_enter Try.func14, Try.ntmps14
  go_wp2_with (first | (at_range; refine wpList_range_own _ rfl _ 27 rfl 9 44 keyed Try.underlying27 (fread φ) nb _ d.now rfl HOWN.out ?_; intro w0 hrg0 hg0 hs0) | go_in)
  go_frame
  go_loopw [3] (fun n wr => ∃ left cnt, wr.ranges Try.prog 9 (fread φ) nb w.heap.size (size d.now) d.now left cnt ∧ n = .int .i64 (sumBut (flen d.files) left d.now) ∧ w.grownBy wr none) (fun _ wr => wr.rangeLeft nb w.heap.size)
  case atStart => exact ⟨_, _, hrg0, by rw [sumBut_start _ _ (MapAt.keys HOWN.out)]; rfl, hg0⟩
  case round =>
    obtain ⟨left, cnt, hrg, rfl, hgr⟩ := hrel
    have HRG := Lib.hid hrg
    clear hrg
    go_wp2_with (first | (at_next; refine wpList_next_ranges _ rfl _ rfl 9 keyed (fread φ) Value.string Value.pointer (fun key kl hk => by obtain ⟨s, e, _⟩ := key_string hk; exact ⟨s, e⟩) fread_shape nb w.heap.size _ _ _ _ rfl HRG.out ?_ ?_) | go_in)
    · intro hc0 hl0
      have hfin : sumBut (flen d.files) left d.now = d.used := sumBut_end _ hl0 _
      have HF := Lib.hid hfin
      clear hfin
      go_wp2
      go_ret
      exact ⟨by rw [HF.out]; rfl, hgr.os, hgr.tape, hgr.output, hgr.size, fun k hk => hgr.block k hk (by simp)⟩
    · intro x c kl y1 y2 w1 cnt1 hkx hlx hy hat hrg1 hlt hg1 hs1 hen
      obtain ⟨s, e1, rfl⟩ := key_string hkx
      obtain ⟨i, fb, hi, hfb, rfl⟩ := entry_file H.out.hnow (World.ownsMap.isMap HOWN.out) (y := (y1, y2)) hy hat
      obtain ⟨f, hf, hF⟩ := H.out.file_at hfb
      have hw1 : w.grownBy w1 none := grown_iter hgr hg1
      have hB : Blk w1 fb 48 #[.string ⟨f.b.toArray⟩, .int .i64 f.safe] := (hw1.block fb (Blk.lt hF.cells) (by simp)).trans hF.cells
      have b0 : w1.cell? ⟨fb, 0, none⟩ = some (.string ⟨f.b.toArray⟩) := (Blk.cell hB 0).trans rfl
      have hstep := sumBut_step (flen d.files) (World.ownsMap.tidy HOWN.out keyed) hlx hi
      have hfl : flen d.files (.held i) = f.b.length := by simp [flen, hf]
      rw [hfl] at hstep
      have hle := sumBut_le (flen d.files) (fun z => left z && !z.sameKey (.string s.data.toList)) d.now
      have hus : ((entries d.now).map fun p => flen d.files p.2).sum ≤ 1099511627776 := HU.out
      have hle2 : sumBut (flen d.files) left d.now + f.b.length ≤ 1099511627776 := by omega
      have HST := Lib.hid hstep
      have HLE := Lib.hid hle2
      have HR1 := Lib.hid hrg1
      clear hstep hle hus hle2 hrg1 hat hy hkx hlx hB hF hf
      generalize sumBut (flen d.files) left d.now = acc at *
      go_wp2
      go_roundw
      case rel =>
        have hle := HLE.out
        have e : wrap64 ((acc : Int) + (f.b.length : Int)) = ((acc + f.b.length : Nat) : Int) := by unfold wrap64; omega
        exact ⟨_, _, HR1.out, by rw [HST.out, e], hw1⟩
      case measure => rw [HR1.out.left_eq, HRG.out.left_eq]; omega
end Go.Proofs.Ytombehaaaojhdaa
