/- (*Disk).Names, SyncDir, Of -/
import Derived.Test.YtombehaaaojhdaaIt
set_option linter.unusedVariables false
namespace Go.Proofs.Ytombehaaaojhdaa
open Go.RowKit Go.Maps Go.Sort Go.Shelf

theorem size_le {w : World} {b : Nat} {φ : List Nat} {D : NMap} (hsz : Maps.size D ≤ 64) : Maps.size D ≤ maxLen ∧ Maps.size D * 16 ≤ 140737488355328 := ⟨by unfold maxLen; omega, by omega⟩

set_option maxHeartbeats 2000000 in
theorem names_disk (w : World) (L : Lab) (db nb sb : Nat) (wv : Value) (φ : List Nat) (fv cv : List Value) (d : DV) (h : DiskAt w L db nb sb wv φ fv cv d) (hsz : Maps.size d.now ≤ 64) :
    Calls Try.prog 15 #[.pointer (some ⟨db, 0, none⟩)] w fun e w' => ∃ ao c, ∃ ns : List Nm, e = .returned (.slice ao ns.length c) ∧ Reads w' w'.heap.size 1 ao ns.length (ns.map encStr) ∧ ns.Perm (strKeys d.now) ∧ ns.Pairwise (fun x y => decide (x ≤ y) = true) ∧ Below w.heap.size w w' := by
  have c0 : w.cell? ⟨db, 0, none⟩ = some (.map (some nb)) := (Blk.cell h.cells 0).trans rfl
  have hcon := sorted_call nb _ d.now (fread φ) w h.now (size_le (w := w) (b := 0) (φ := φ) hsz).1 (size_le (w := w) (b := 0) (φ := φ) hsz).2
  have HCON := Lib.hid hcon
  clear hcon h hsz
  refine (callsIn_wide (n := 6)).1 ?_
  have hfK : Fence.wide.fn 33 := trivial
  have hfS : Fence.wide.fn 32 := trivial
  refine callsIn_of_wp Try.func15 rfl trivial ?_ rfl
  simp only [Try.ntmps15, List.size_toArray, List.length_cons, List.length_nil, Nat.reduceAdd, Nat.reduceSub, Array.replicate_succ, Array.replicate_zero, List.push_toArray, List.append_toArray, List.nil_append, List.cons_append]
  gi_wp2_with (first
    | (gi_at_call 33; refine (keys_call _ _).mono ?_; rintro e w' ⟨rfl, rfl⟩)
    | (gi_at_call 32; refine (HCON.out).mono ?_; rintro e w' ⟨v, ss, rfl, hS, hrow, hnil, hb⟩))
  go_ret
  have hlen : (ss.mergeSort (fun x y => decide (x ≤ y))).length = ss.length := List.length_mergeSort _
  obtain ⟨ao, c, hv⟩ : ∃ ao c, v = .slice ao ss.length c := by
    rcases hrow.2 with ⟨e, h0⟩ | ⟨g, cap, cur, e, _⟩
    · exact ⟨none, 0, by rw [e, h0]⟩
    · exact ⟨_, _, e⟩
  subst hv
  refine ⟨ao, c, ss.mergeSort (fun x y => decide (x ≤ y)), by rw [hlen]; rfl, ?_, (List.mergeSort_perm _ _).trans hS, ?_, ((Below.refl _ w).alloc (Nat.le_refl _) _).trans (hb.mono (by simp))⟩
  · rw [hlen]
    exact Reads.of_own hrow
  · exact List.pairwise_mergeSort (fun a b c h1 h2 => by simp at h1 h2 ⊢; exact List.le_trans h1 h2) (fun a b => by simp; exact List.le_total a b) _

theorem MapAt.clone {w : World} {φ : List Nat} {b : Nat} {D : NMap} (h : MapAt Try.prog 9 w φ b D) : ∃ es clock, w.heap[b]? = some (.map es clock) ∧ MapAt Try.prog 9 (w.alloc (.map es clock)) φ w.heap.size D := by
  obtain ⟨es, clock, hb, F, hs, hD⟩ := h
  exact ⟨es, clock, hb, es, clock, heap_alloc_new w _, F, hs, hD⟩

/-- the map of what is safe, and what waits, turn -/
theorem DiskAt.resafe {w w' : World} {L : Lab} {db nb sb : Nat} {wv : Value} {φ : List Nat} {fv cv : List Value} {d : DV} (h : DiskAt w L db nb sb wv φ fv cv d) (hs : w.heap.size < w'.heap.size)
    (hk : ∀ k, k < w.heap.size → k ≠ db → w'.heap[k]? = w.heap[k]?) (down : Bool) (left : Int)
    (hb : Blk w' db 56 #[.map (some nb), .map (some w.heap.size), .slice none 0 0, .int .i64 d.room, .int .i64 left, .bool down, .int .i64 d.calls]) (hm : MapAt Try.prog 9 w' φ w.heap.size d.now) :
    DiskAt w' (fun k => if k = w.heap.size then some .safe else L k) db nb w.heap.size (.slice none 0 0) φ fv [] { d with safe := d.now, wait := [], down := down, left := left } := by
  have hfl : ∀ k l, L k = some l → (if k = w.heap.size then some Lbl.safe else L k) = some l := fun k l hl => by
    rw [if_neg (fun e => by have := h.dom k (by rw [hl]; simp); omega)]; exact hl
  have hkeep : ∀ k l, L k = some l → l ≠ .disk → w'.heap[k]? = w.heap[k]? := fun k l hl hne => hk k (h.dom k (by rw [hl]; simp)) (fun e => by rw [e, h.ldisk] at hl; cases hl; exact hne rfl)
  exact {
    dom := fun k hl => by
      have hl' : (if k = w.heap.size then some Lbl.safe else L k) ≠ none := hl
      by_cases e : k = w.heap.size
      · omega
      · rw [if_neg e] at hl'; have := h.dom k hl'; omega
    ldisk := hfl _ _ h.ldisk
    cells := hb
    lnow := hfl _ _ h.lnow
    lsafe := by simp
    now := h.now.block (hkeep nb _ h.lnow (by simp))
    safe := hm
    hnow := h.hnow
    hsafe := h.hnow
    nfiles := h.nfiles
    nvals := h.nvals
    files := fun i f hf => by
      obtain ⟨fb, v, h1, h2, h3⟩ := h.files i f hf
      exact ⟨fb, v, h1, h2, hfl _ _ h3.lab, (hkeep fb _ h3.lab (by simp)).trans h3.cells, h3.bytes.keep (fun g hg => hkeep g _ (h3.row g hg) (by simp)), fun g hg => hfl _ _ (h3.row g hg)⟩
    wait := World.ownsRow_nil _ _ _ _
    lwait := fun g hg => by cases hg
    chs := fun i cs hc => by cases hc
    hchs := fun cs hc => by cases hc }

theorem DiskAt.resafe_turned {w w' : World} {L : Lab} {db nb sb : Nat} {wv : Value} {φ : List Nat} {fv cv : List Value} {d : DV} (h : DiskAt w L db nb sb wv φ fv cv d) (hs : w.heap.size < w'.heap.size)
    (hk : ∀ k, k < w.heap.size → k ≠ db → w'.heap[k]? = w.heap[k]?) (h1 : w'.os = w.os) (h2 : w'.tape = w.tape) (h3 : w'.output = w.output) : Turned L (fun k => if k = w.heap.size then some .safe else L k) w w' :=
  ⟨h1, h2, h3, by omega, fun k hk' hl => hk k hk' (fun e => by rw [e, h.ldisk] at hl; cases hl), fun k hk' hl => by
    have hl' : (if k = w.heap.size then some Lbl.safe else L k) ≠ none := hl
    rw [if_neg (by omega)] at hl'; exact hl'⟩

set_option maxHeartbeats 4000000 in
theorem syncDir_disk (w : World) (L : Lab) (db nb sb : Nat) (wv : Value) (φ : List Nat) (fv cv : List Value) (d : DV) (h : DiskAt w L db nb sb wv φ fv cv d) (hok : d.ok) (hc : d.calls ≤ 1099511627776) :
    Calls Try.prog 19 #[.pointer (some ⟨db, 0, none⟩)] w fun e w' => e = .returned (.int .i64 d.syncDir.2) ∧ DiskTo w L db d.syncDir.1 w' := by
  have c5 : w.cell? ⟨db, 5, none⟩ = some (.bool d.down) := (Blk.cell h.cells 5).trans rfl
  have H := Lib.hid h
  have HOK := Lib.hid hok
  have HC := Lib.hid hc
  have HS := Lib.hid (show DiskTo w L db d w from ⟨L, nb, sb, wv, φ, fv, cv, h, Turned.refl _ _⟩)
  clear h hok hc
  cases hd : d.down with
  | true =>
    rw [hd] at c5
    have hr : d.syncDir = (d, eCrash) := by simp [DV.syncDir, hd]
    rw [hr]
    go_enter Try.func19, Try.ntmps19
    go_wp2
    go_ret
    exact ⟨rfl, HS.out⟩
  | false =>
    rw [hd] at c5
    cases ho : d.on with
    | false =>
      have hr : d.syncDir = (d.tick, eCrash) := by simp [DV.syncDir, hd, ho]
      rw [hr]
      go_enter Try.func19, Try.ntmps19
      go_wp2_with fail
      refine (call_disk w L db nb sb wv φ fv cv d H.out HOK.out HC.out).mono ?_
      rintro e w1 ⟨rfl, h1, ht1⟩
      rw [ho]
      go_wp2
      go_ret
      exact ⟨rfl, L, nb, sb, wv, φ, fv, cv, h1, ht1⟩
    | true =>
      have hr : d.syncDir = ({ d.tick with safe := d.now, wait := [] }, 0) := by simp [DV.syncDir, hd, ho]
      rw [hr]
      go_enter Try.func19, Try.ntmps19
      go_wp2_with fail
      refine (call_disk w L db nb sb wv φ fv cv d H.out HOK.out HC.out).mono ?_
      rintro e w1 ⟨rfl, h1, ht1⟩
      rw [ho]
      have c0 : w1.cell? ⟨db, 0, none⟩ = some (.map (some nb)) := (Blk.cell h1.cells 0).trans rfl
      obtain ⟨es, clock, hes, hcl⟩ := h1.now.clone
      have hBd : Blk (w1.alloc (.map es clock)) db 56 _ := Blk.alloc h1.cells _
      have d1 := Blk.cell hBd 1
      have d2 := Blk.cell hBd 2
      have g1 := Blk.frozen hBd 1
      have g2 := Blk.frozen hBd 2
      simp at d1 d2
      obtain ⟨ao, l, c, hwv⟩ := ownsRow_shape h1.wait
      rw [hwv] at d2
      have HCL := Lib.hid hcl
      have HES := Lib.hid hes
      have H1 := Lib.hid h1
      have HB := Lib.hid hBd
      have HT := Lib.hid ht1
      clear hcl hes h1 hBd ht1 hwv
      go_wp2_with fail
      refine (clone_map nb es clock w1 HES.out).mono ?_
      rintro e w2 ⟨rfl, rfl⟩
      go_wp2
      go_ret
      have hk : ∀ k, k < w1.heap.size → k ≠ db → (((w1.alloc (.map es clock)).setCell ⟨db, 1, none⟩ (.map (some w1.heap.size))).setCell ⟨db, 2, none⟩ (.slice none 0 0)).heap[k]? = w1.heap[k]? := fun k hk hne => by
        rw [Below.heap_setCell _ _ _ _ hne, Below.heap_setCell _ _ _ _ hne, Below.heap_alloc _ _ _ hk]
      have hs : w1.heap.size < (((w1.alloc (.map es clock)).setCell ⟨db, 1, none⟩ (.map (some w1.heap.size))).setCell ⟨db, 2, none⟩ (.slice none 0 0)).heap.size := by simp [World.setCell]
      have hb := Blk.set_ (Blk.set_ HB.out 1 (.map (some w1.heap.size))) 2 (.slice none 0 0)
      have hne : w1.heap.size ≠ db := by have := (H1.out.dom db (by rw [H1.out.ldisk]; simp)); omega
      have hm : MapAt Try.prog 9 (((w1.alloc (.map es clock)).setCell ⟨db, 1, none⟩ (.map (some w1.heap.size))).setCell ⟨db, 2, none⟩ (.slice none 0 0)) φ w1.heap.size d.now := by
        refine MapAt.block HCL.out ?_
        rw [Below.heap_setCell _ _ _ _ hne, Below.heap_setCell _ _ _ _ hne]
      exact ⟨rfl, _, nb, _, _, φ, fv, [], H1.out.resafe hs hk d.tick.down d.tick.left hb hm, HT.out.trans (H1.out.resafe_turned hs hk rfl rfl rfl)⟩
end Go.Proofs.Ytombehaaaojhdaa
