/- (*Disk).set -/
import Derived.Test.YtombehaaaojhdaaDp
set_option linter.unusedVariables false
namespace Go.Proofs.Ytombehaaaojhdaa
open Go.Maps Go.RowKit

theorem size_put1 {D : NMap} (h : Tidy D) (c : Ch) : size (put1 D c) ≤ size D + 1 := by
  obtain ⟨s, o⟩ := c
  cases o with
  | none => have := size_del (k := .string s) h; simp only [put1]; split at this <;> omega
  | some i => have := size_put (k := .string s) h (.held i); simp only [put1]; rw [this]; split <;> omega

theorem tidy_put1 {D : NMap} (h : Tidy D) (c : Ch) : Tidy (put1 D c) := by
  obtain ⟨s, o⟩ := c
  cases o with
  | none => exact h.del _
  | some i => exact h.put (isKey _) _
theorem size_putAll : ∀ (cs : List Ch) (D : NMap), Tidy D → Tidy (putAll D cs) ∧ size (putAll D cs) ≤ size D + cs.length
  | [], D, h => ⟨h, by simp [putAll]⟩
  | c :: cs, D, h => by
    have := size_putAll cs (put1 D c) (tidy_put1 h c)
    have h1 := size_put1 h c
    refine ⟨this.1, ?_⟩
    have e : putAll D (c :: cs) = putAll (Go.Proofs.Ytombehaaaojhdaa.put1 D c) cs := rfl
    rw [e]
    simp only [List.length_cons]
    omega

theorem chCells_get (φ : List Nat) : ∀ (cs : List Ch) (k : Nat) (c : Ch), cs[k]? = some c → (chCells φ cs)[k * 2]? = some (.string ⟨c.1.toArray⟩) ∧ (chCells φ cs)[k * 2 + 1]? = some (ptrOf φ c.2)
  | [], k, c, h => by cases h
  | x :: xs, 0, c, h => by
    cases h
    exact ⟨rfl, rfl⟩
  | x :: xs, k + 1, c, h => by
    have := chCells_get φ xs k c h
    have e : ∀ j, (chCells φ (x :: xs))[j + 2]? = (chCells φ xs)[j]? := fun j => by simp [chCells]
    constructor
    · rw [show (k + 1) * 2 = k * 2 + 2 by omega, e]; exact this.1
    · rw [show (k + 1) * 2 + 1 = k * 2 + 1 + 2 by omega, e]; exact this.2

theorem putAll_snoc (D : NMap) (cs : List Ch) (c : Ch) : putAll D (cs ++ [c]) = put1 (putAll D cs) c := by simp [putAll, List.foldl_append]

theorem info_wait : (Try.prog.info? 57).map (fun i => (i.zero, i.size, i.bytes)) = some (some (.slice none 0 0), 1, 24) := by kernel_rfl

theorem ownsRow_shape {w : World} {b : Nat} {e : TypeId} {sz : Nat} {v : Value} {n : Nat} {xs : List Value} (h : w.ownsRow b e sz v n xs) : ∃ ao l c, v = .slice ao l c := by
  rcases h.2 with ⟨rfl, _⟩ | ⟨g, cap, cur, rfl, _⟩
  · exact ⟨_, _, _, rfl⟩
  · exact ⟨_, _, _, rfl⟩

theorem ptrOf_shape (φ : List Nat) (o : Option Nat) : ∃ po, ptrOf φ o = .pointer po := by
  unfold ptrOf
  split
  · exact ⟨_, rfl⟩
  · split <;> exact ⟨_, rfl⟩

theorem cell_new2 (w : World) (u v : Value) (t : TypeId) : (w.alloc (.cells #[u, v] t)).cell? ⟨w.heap.size, 0, none⟩ = some u := by rw [(Blk.new w t #[u, v]).cell]; rfl
theorem cell_new2' (w : World) (u v : Value) (t : TypeId) : (w.alloc (.cells #[u, v] t)).cell? ⟨w.heap.size, 1, none⟩ = some v := by rw [(Blk.new w t #[u, v]).cell]; rfl

set_option maxHeartbeats 4000000 in
theorem set_any (w : World) (φ : List Nat) (hn : φ.Nodup) (db nb g : Nat) (D : NMap) (cs : List Ch) (m2 wv : Value) (room left : Int) (down : Bool) (calls : Nat) (nw : Nat) (cv : List Value)
    (hd : Blk w db 56 #[.map (some nb), m2, wv, .int .i64 room, .int .i64 left, .bool down, .int .i64 calls]) (hdn : db ≠ nb) (hgn : g ≠ nb)
    (h : MapAt Try.prog 9 w φ nb D) (hg : Blk w g 60 (chCells φ cs).toArray) (hcs : ∀ c ∈ cs, c.ok φ.length ∧ c.1.length ≤ maxLen) (hsz : size D + cs.length < 1000000) (hn1 : 1 ≤ cs.length)
    (hw : w.ownsRow 0 57 1 wv nw cv) (hwn : wv.ownBlock ≠ some nb) (hwd : wv.ownBlock ≠ some db) (hnw : nw ≤ 1099511627776) :
    Calls Try.prog 36 #[.pointer (some ⟨db, 0, none⟩), .slice (some ⟨g, 0, none⟩) cs.length cs.length] w fun e w' => e = .returned (.tuple #[]) ∧
      ∃ wv', Blk w' db 56 #[.map (some nb), m2, wv', .int .i64 room, .int .i64 left, .bool down, .int .i64 calls] ∧
        MapAt Try.prog 9 w' φ nb (putAll D cs) ∧ w'.ownsRow 0 57 1 wv' (nw + 1) (cv ++ [.slice (some ⟨g, 0, none⟩) cs.length cs.length]) ∧
        (wv'.ownBlock = wv.ownBlock ∨ ∃ k, wv'.ownBlock = some k ∧ w.heap.size ≤ k) ∧
        w'.os = w.os ∧ w'.tape = w.tape ∧ w'.output = w.output ∧ w.heap.size ≤ w'.heap.size ∧
        ∀ k, k < w.heap.size → k ≠ db → k ≠ nb → wv.ownBlock ≠ some k → w'.heap[k]? = w.heap[k]? := by
  obtain ⟨i0, hi, hz0, hz1, hz2⟩ := info_parts info_wait
  have c0 := hd.cell 0
  have c2 := hd.cell 2
  simp at c0 c2
  have HCS := Lib.hid hcs
  have HG := Lib.hid hg
  clear hcs
  go_enter Try.func36, Try.ntmps36
  go_wp2
  go_loopw [8] (fun k wr => ∃ j : Nat, j ≤ cs.length ∧ k = .int .i64 j ∧ MapAt Try.prog 9 wr φ nb (putAll D (cs.take j)) ∧ w.grownBy wr (some nb)) (fun k _ => cs.length - (intOf k).toNat)
  case atStart => exact ⟨0, Nat.zero_le _, rfl, h, World.grownBy.refl _ _⟩
  case round =>
    obtain ⟨j, hj, rfl, hm, hgr⟩ := hrel
    by_cases hlt : j < cs.length
    · obtain ⟨c, hc⟩ : ∃ c, cs[j]? = some c := ⟨_, List.getElem?_eq_getElem hlt⟩
      have hcm := HCS.out c (List.mem_of_getElem? hc)
      have hgw : Blk wr g 60 (chCells φ cs).toArray := (hgr.block g HG.out.lt (by simpa using hgn)).trans HG.out
      have hdw := (hgr.block db hd.lt (by simpa using hdn)).trans hd
      have g0 : wr.cell? ⟨g, j * 2, none⟩ = some (.string ⟨c.1.toArray⟩) := by rw [Blk.cell hgw]; simpa using (chCells_get φ cs j c hc).1
      have g1 : wr.cell? ⟨g, j * 2 + 1, none⟩ = some (ptrOf φ c.2) := by rw [Blk.cell hgw]; simpa using (chCells_get φ cs j c hc).2
      have d0 : wr.cell? ⟨db, 0, none⟩ = some (.map (some nb)) := by rw [Blk.cell hdw]; rfl
      have hnb : nb < wr.heap.size := World.ownsMap.lt hm
      have HNB := Lib.hid hnb
      have HM := Lib.hid hm
      have d0' : ∀ o, (wr.alloc o).cell? ⟨db, 0, none⟩ = some (.map (some nb)) := fun o => (World.cell?_alloc_lt wr o _ (World.block_lt_of_cell? wr _ d0)).trans d0
      have HCM := Lib.hid hcm
      have hstep : putAll D (cs.take (j + 1)) = put1 (putAll D (cs.take j)) c := by
        rw [List.take_add_one, hc, ← putAll_snoc]; rfl
      have HST := Lib.hid hstep
      have hsz' : size (putAll D (cs.take j)) < maxLen := by
        have := (size_putAll (cs.take j) D (World.ownsMap.tidy h keyed)).2
        have h2 : (cs.take j).length ≤ cs.length := by simp; omega
        unfold maxLen; omega
      have HSZ := Lib.hid hsz'
      clear hm hnb hcm hgw hdw hstep hsz' hc
      obtain ⟨s, o⟩ := c
      simp only at g0 g1
      obtain ⟨po, hp⟩ := ptrOf_shape φ o
      rw [hp] at g1
      have hput : ∀ w0 : World, w0.heap[nb]? = wr.heap[nb]? → Calls Try.prog 20 #[.map (some nb), .agg #[.string ⟨s.toArray⟩, .pointer po]] w0 fun e w' => e = .returned (.tuple #[]) ∧ MapAt Try.prog 9 w' φ nb (put1 (putAll D (cs.take j)) (s, o)) ∧ w0.grownBy w' (some nb) := fun w0 e => by
        have := put_any w0 φ hn nb (putAll D (cs.take j)) (s, o) (HM.out.block e) HCM.out.1 HCM.out.2 HSZ.out
        rwa [hp] at this
      have HPUT := Lib.hid hput
      clear hp hput
      go_wp2_with fail
      have hns : some wr.heap.size ≠ some nb := by have := HNB.out; simp; omega
      have HNS := Lib.hid hns
      clear hns
      have a0 : (wr.alloc (.cells #[.string ⟨s.toArray⟩, .pointer po] 60)).cell? ⟨db, 0, none⟩ = some (.map (some nb)) := d0' _
      go_region_held3 (fun w' => w'.cell? ⟨db, 0, none⟩ = some (.map (some nb)) ∧ w'.cell? ⟨wr.heap.size, 0, none⟩ = some (.string ⟨s.toArray⟩) ∧ w'.cell? ⟨wr.heap.size, 1, none⟩ = some (.pointer po))
        (first | exact ⟨a0, cell_new2 _ _ _ _, cell_new2' _ _ _ _⟩ | exact ⟨hg2.cell a0 (by simpa using hdn), hg2.cell (cell_new2 _ _ _ _) HNS.out, hg2.cell (cell_new2' _ _ _ _) HNS.out⟩)
        (first | (go_at_call 20; refine (HPUT.out _ ?_).mono ?_; (exact Below.heap_alloc _ _ _ HNB.out); rintro e w2 ⟨rfl, hm2, hg2⟩))
      go_wp2
      go_roundw
      case rel =>
        exact ⟨j + 1, by omega, by go_num, by rw [HST.out]; exact hm2, (hgr.trans (World.grownBy_alloc _ _ _)).trans ⟨hg2.os, hg2.tape, hg2.output, hg2.size, hg2.block⟩⟩
      case measure => simp [intOf]; omega
    · obtain rfl : j = cs.length := by omega
      rw [List.take_length] at hm
      have hdw := (hgr.block db hd.lt (by simpa using hdn)).trans hd
      have d0 : wr.cell? ⟨db, 0, none⟩ = some (.map (some nb)) := by rw [Blk.cell hdw]; rfl
      have d2 : wr.cell? ⟨db, 2, none⟩ = some wv := by rw [Blk.cell hdw]; rfl
      have f2 : wr.frozen? ⟨db, 2, none⟩ = false := Blk.frozen hdw 2
      have hww : wr.ownsRow 0 57 1 wv nw cv := hw.kept hgr (.inr hwn)
      have h63 : nw + 1 ≤ maxLen := by unfold maxLen; omega
      have hby : (nw + 1) * 24 ≤ 140737488355328 := by omega
      have H63 := Lib.hid h63
      have HBY := Lib.hid hby
      clear h63 hby hnw hsz
      have happ : ∀ {ops : Array Oper} {rest : List Oper} {o : Oper} {a : Act} {Q : Exit → Act → World → Prop} (hgd : o.guard = none) (s x : Operand) (ho : o.op = .call { callee := .builtin .append, args := #[s, x], argTypes := #[54, 54] }) (hs : a.eval s = wv) (hx : a.eval x = .slice (some ⟨wr.heap.size, 0, none⟩) 1 1)
          (h : ∀ ao l c w', w'.ownsRow 0 57 1 (.slice ao l c) (nw + 1) (cv ++ [.slice (some ⟨g, 0, none⟩) cs.length cs.length]) → (wr.alloc (.cells #[.slice (some ⟨g, 0, none⟩) cs.length cs.length] 57)).grownBy w' wv.ownBlock → ((Value.slice ao l c).ownBlock = wv.ownBlock ∨ (Value.slice ao l c).ownBlock = some (wr.heap.size + 1)) → wpList Try.prog ops Q rest (a.put o.dst (.slice ao l c)) w'),
          wpList Try.prog ops Q (o :: rest) a (wr.alloc (.cells #[.slice (some ⟨g, 0, none⟩) cs.length cs.length] 57)) := fun hgd s x ho hs hx h =>
        wpList_append_own_at _ hgd s x 54 ho 0 57 i0 (.slice none 0 0) 1 24 Try.underlying54 hi hz0 hz1 hz2 rfl (by decide) _ _ _ hs (hww.alloc _) ⟨wr.heap.size, 0, none⟩ 1 1 [.slice (some ⟨g, 0, none⟩) cs.length cs.length] hx rfl (cell_one_new _ _ _) (by intro u hu; cases hu with | head => rfl | tail _ h => cases h) H63.out HBY.out (Nat.zero_le _) (fun v' w' h1 h2 _ h4 => by
          obtain ⟨ao, l, c, rfl⟩ := ownsRow_shape h1
          exact h ao l c w' h1 h2 (h4.imp id (fun e => e.trans (by show some (wr.heap.push _).size = _; rw [Array.size_push]))))
      have HAPP := @Lib.hid _ @happ
      have hdb1 : ∀ (o : Obj) (w1 : World), (wr.alloc o).grownBy w1 wv.ownBlock → Blk w1 db 56 #[.map (some nb), m2, wv, .int .i64 room, .int .i64 left, .bool down, .int .i64 calls] := fun o w1 hg1 =>
        (hg1.block db (Nat.lt_of_lt_of_le (Blk.lt hdw) (World.grownBy_alloc wr o none).size) (fun e => hwd e.symm)).trans (Blk.alloc hdw o)
      have HDB := Lib.hid hdb1
      clear happ hdb1 hi hz0 hz1 hz2 hww
      go_wp2_with (at_builtin; refine HAPP.out rfl _ _ rfl rfl rfl ?_; intro ao l c w1 hown' hgrow hloc; have hB1 := HDB.out _ _ hgrow; have f1 := Blk.frozen hB1 2; have d1 : w1.cell? ⟨db, 2, none⟩ = some wv := (Blk.cell hB1 2).trans rfl)
      go_end0
      have hgr1 : ∀ k, k < w.heap.size → k ≠ db → k ≠ nb → wv.ownBlock ≠ some k → w1.heap[k]? = w.heap[k]? := fun k hk h1 h2 h3 => by
        rw [hgrow.block k (Nat.lt_of_lt_of_le hk (Nat.le_trans hgr.size (World.grownBy_alloc wr _ none).size)) (fun e => h3 e.symm), Below.heap_alloc _ _ _ (Nat.lt_of_lt_of_le hk hgr.size), hgr.block k hk (by simpa using h2)]
      refine ⟨rfl, .slice ao l c, Blk.set_ hB1 2 (.slice ao l c), ?_, ?_, ?_, hgrow.os.trans hgr.os, hgrow.tape.trans hgr.tape, hgrow.output.trans hgr.output, ?_, ?_⟩
      · refine hm.block ?_
        rw [Below.heap_setCell _ _ _ _ (fun e => hdn e.symm), hgrow.block nb (Nat.lt_of_lt_of_le (World.ownsMap.lt hm) (World.grownBy_alloc wr _ none).size) (fun e => hwn e.symm), Below.heap_alloc _ _ _ (World.ownsMap.lt hm)]
      · refine ⟨hown'.1, ?_⟩
        rcases hown'.2 with e | ⟨g', cap', cur', e, h0, hg', rest⟩
        · exact .inl e
        · refine .inr ⟨g', cap', cur', e, h0, ?_, rest⟩
          rw [Below.heap_setCell _ _ _ _ (fun ee => ?_)]
          · exact hg'
          · have hob : (Value.slice ao l c).ownBlock = some g' := by rw [e]; rfl
            rw [hob] at hloc
            have ee : g' = db := ee
            rcases hloc with hl | hl
            · exact hwd (by rw [← hl, ee])
            · have := Blk.lt hdw
              simp at hl
              omega
      · rcases hloc with e | e
        · exact .inl e
        · exact .inr ⟨_, e, by have := hgr.size; omega⟩
      · show w.heap.size ≤ (w1.setCell _ _).heap.size
        have e : (w1.setCell ⟨db, 2, none⟩ (.slice ao l c)).heap.size = w1.heap.size := by simp [World.setCell]
        rw [e]
        exact Nat.le_trans hgr.size (Nat.le_trans (World.grownBy_alloc wr _ none).size hgrow.size)
      · intro k hk h1 h2 h3
        rw [Below.heap_setCell _ _ _ _ h1]
        exact hgr1 k hk h1 h2 h3

end Go.Proofs.Ytombehaaaojhdaa
