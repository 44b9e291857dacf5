/- (*Model).change -/
import Derived.Test.YtombehaaaojhdaaMc
import Derived.Deep.RegionLaw
import Derived.Deep.DrawnRows
set_option linter.unusedVariables false
namespace Go.Proofs.Ytombehaaaojhdaa
open Go.Maps Go.RowKit
attribute [local go_sem ↓] Go.wp_at_zero Go.wp_at_succ

theorem info_names : (Try.prog.info? 42).map (fun i => (i.zero, i.size, i.bytes)) = some (some (.slice none 0 0), 1, 24) := by kernel_rfl
theorem info_files : (Try.prog.info? 67).map (fun i => (i.zero, i.size, i.bytes)) = some (some (.slice none 0 0), 1, 24) := by kernel_rfl

/-- one element more, of a slice of slices, at whatever step of a region -/
theorem step_more {ops : Array Oper} {o : Oper} {a : Act} {K : Act → World → Prop} {Q : Exit → Act → World → Prop} {E : Prop} (w0 w : World) (T e : TypeId) (hT : Try.prog.underlying T = some (.slice e)) (hinf : (Try.prog.info? e).map (fun i => (i.zero, i.size, i.bytes)) = some (some (.slice none 0 0), 1, 24))
    (hgd : o.guard = none) (s x : Operand) (ho : o.op = .call { callee := .builtin .append, args := #[s, x], argTypes := #[T, T] })
    (v : Value) (n : Nat) (xs : List Value) (hn : n ≤ 1099511627776) (hs : a.eval s = v) (hown : w0.ownsRow 0 e 1 v n xs) (hk : ∀ g, v.ownBlock = some g → w.heap[g]? = w0.heap[g]?)
    (g l c : Nat) (ad : Addr) (hx : a.eval x = .slice (some ad) 1 1) (hc : w.cell? ad = some (.slice (some ⟨g, 0, none⟩) l c))
    (h : ∀ ao l' c' w', w'.ownsRow 0 e 1 (.slice ao l' c') (n + 1) (xs ++ [.slice (some ⟨g, 0, none⟩) l c]) → w.grownBy w' v.ownBlock → ((Value.slice ao l' c').ownBlock = v.ownBlock ∨ (Value.slice ao l' c').ownBlock = some w.heap.size) → K (a.put o.dst (.slice ao l' c')) w') :
    if Region.wanted o (yielded ops a.tmps) = true then Oper.wp Try.prog o a w K Q else E := by
  obtain ⟨i0, hi, hz0, hz1, hz2⟩ := info_parts hinf
  have hw : Region.wanted o (yielded ops a.tmps) = true := by simp [Region.wanted, hgd]
  rw [if_pos hw]
  obtain ⟨v', w', hrun, h2, h3, _, h5⟩ := run_append_own_at (P := Try.prog) w 0 T o.type e i0 (.slice none 0 0) 1 24 hT hi hz0 hz1 hz2 rfl (by decide) v n xs (ownsRow_block hown hk) ad 1 1 [.slice (some ⟨g, 0, none⟩) l c] rfl
    (by intro j u hj; cases j with
      | zero => cases hj; simpa [Addr.add] using hc
      | succ j => cases hj) (by intro u hu; cases hu with | head => rfl | tail _ h => cases h) (by unfold maxLen; omega) (by omega) (Nat.zero_le _)
  obtain ⟨ao, l', c', rfl⟩ := ownsRow_shape h2
  unfold Oper.wp execOp
  simp only [ho, resolve, invoke, builtin, Sem.run_bind, Sem.run_pure, Result.andThen_ok, List.map_toArray, List.map_cons, List.map_nil, hs, hx, hrun]
  exact h _ _ _ _ h2 h3 h5


theorem cellA {w : World} {a : Addr} {v : Value} (h : w.cell? a = some v) (o : Obj) : (w.alloc o).cell? a = some v := (World.cell?_alloc_lt w o a (World.block_lt_of_cell? w a h)).trans h
theorem cell_new1 (w : World) (u : Value) (t : TypeId) : (w.alloc (.cells #[u] t)).cell? ⟨w.heap.size, 0, none⟩ = some u := by rw [(Blk.new w t #[u]).cell]; rfl
theorem size_alloc (w : World) (o : Obj) : (w.alloc o).heap.size = w.heap.size + 1 := by show (w.heap.push _).size = _; rw [Array.size_push]
theorem cell_new1' (w : World) (o : Obj) (u : Value) (t : TypeId) : ((w.alloc o).alloc (.cells #[u] t)).cell? ⟨w.heap.size + 1, 0, none⟩ = some u := by
  have := cell_new1 (w.alloc o) u t
  rwa [size_alloc] at this

/-- what is known behind an append to the row of v0 in a world that grew out of wr -/
structure Aft (wr w1 : World) (v0 v1 : Value) (e : TypeId) (n : Nat) (xs : List Value) : Prop where
  own : w1.ownsRow 0 e 1 v1 n xs
  os : w1.os = wr.os
  tape : w1.tape = wr.tape
  output : w1.output = wr.output
  size : wr.heap.size ≤ w1.heap.size
  keep : ∀ k, k < wr.heap.size → v0.ownBlock ≠ some k → w1.heap[k]? = wr.heap[k]?
  loc : v1.ownBlock = v0.ownBlock ∨ ∃ k, v1.ownBlock = some k ∧ wr.heap.size ≤ k

theorem Aft.mk' {wr W w1 : World} {v0 v1 : Value} {e : TypeId} {n : Nat} {xs : List Value} (hb : Below wr.heap.size wr W) (h : w1.ownsRow 0 e 1 v1 n xs) (hg : W.grownBy w1 v0.ownBlock) (hat : v1.ownBlock = v0.ownBlock ∨ v1.ownBlock = some W.heap.size) : Aft wr w1 v0 v1 e n xs where
  own := h
  os := hg.os.trans hb.os
  tape := hg.tape.trans hb.tape
  output := hg.output.trans hb.output
  size := Nat.le_trans hb.size hg.size
  keep := fun k hk hne => (hg.block k (Nat.lt_of_lt_of_le hk hb.size) (fun e => hne e.symm)).trans (hb.block k hk)
  loc := hat.imp id (fun e => ⟨_, e, hb.size⟩)

theorem Aft.cell {wr w1 : World} {v0 v1 : Value} {e : TypeId} {n : Nat} {xs : List Value} (h : Aft wr w1 v0 v1 e n xs) {b : Nat} {t : TypeId} {cs : Array Value} (hB : Blk wr b t cs) (hne : v0.ownBlock ≠ some b) : Blk w1 b t cs := (h.keep b hB.lt hne).trans hB

/-- two lists got one more each -/
theorem mchange_close {w wr w1 w2 : World} {L : MLab} {mb nb kb : Nat} {wv xv wv' xv' : Value} {φ : List Nat} {nv xs : List Value} {d : DV} (h : ModelAt w L mb nb kb wv xv φ nv xs d) {g hf : Nat} {cs : List Ch}
    (hg : Blk w g 9 (cs.map fun c => Value.string ⟨c.1.toArray⟩).toArray) (hh : Blk w hf 44 (cs.map fun c => ptrOf φ c.2).toArray) (hLg : L g = none) (hLh : L hf = none) (hne : g ≠ hf)
    (hcs : ∀ c ∈ cs, c.ok φ.length) (hgr : w.grownBy wr (some nb)) (hm : MapAt Try.prog 9 wr φ nb (putAll d.now cs))
    (A1 : Aft wr w1 wv wv' 42 (d.wait.length + 1) (nv ++ [.slice (some ⟨g, 0, none⟩) cs.length cs.length])) (A2 : Aft w1 w2 xv xv' 67 (d.wait.length + 1) (xs ++ [.slice (some ⟨hf, 0, none⟩) cs.length cs.length])) :
    ∃ L' wv2 xv2 nv' xs', ModelAt ((w2.setCell ⟨mb, 2, none⟩ wv').setCell ⟨mb, 3, none⟩ xv') L' mb nb kb wv2 xv2 φ nv' xs' (d.set cs) ∧ ((w2.setCell ⟨mb, 2, none⟩ wv').setCell ⟨mb, 3, none⟩ xv').os = w.os ∧ ((w2.setCell ⟨mb, 2, none⟩ wv').setCell ⟨mb, 3, none⟩ xv').tape = w.tape ∧ ((w2.setCell ⟨mb, 2, none⟩ wv').setCell ⟨mb, 3, none⟩ xv').output = w.output ∧ w.heap.size ≤ ((w2.setCell ⟨mb, 2, none⟩ wv').setCell ⟨mb, 3, none⟩ xv').heap.size ∧
      (∀ k, k < w.heap.size → L k = none → ((w2.setCell ⟨mb, 2, none⟩ wv').setCell ⟨mb, 3, none⟩ xv').heap[k]? = w.heap[k]?) ∧ (∀ k, k < w.heap.size → L' k ≠ none → L k ≠ none ∨ k = g ∨ k = hf) := by
  let w3 : World := (w2.setCell ⟨mb, 2, none⟩ wv').setCell ⟨mb, 3, none⟩ xv'
  have hs3 : w3.heap.size = w2.heap.size := by simp [w3, World.setCell]
  have hwv : wv.ownBlock ≠ some mb := fun e => by have := h.lwait mb e; rw [h.lmodel] at this; cases this
  have hxv : xv.ownBlock ≠ some mb := fun e => by have := h.lfwait mb e; rw [h.lmodel] at this; cases this
  have hmn : mb ≠ nb := fun e => by have := h.lmodel; rw [e, h.lnow] at this; cases this
  have hsz : w.heap.size ≤ w3.heap.size := by rw [hs3]; exact Nat.le_trans hgr.size (Nat.le_trans A1.size A2.size)
  -- old blocks
  have hold : ∀ k, k < w.heap.size → k ≠ mb → k ≠ nb → wv.ownBlock ≠ some k → xv.ownBlock ≠ some k → w3.heap[k]? = w.heap[k]? := fun k hk h1 h2 h3 h4 => by
    rw [Below.heap_setCell _ _ _ _ h1, Below.heap_setCell _ _ _ _ h1, A2.keep k (Nat.lt_of_lt_of_le hk (Nat.le_trans hgr.size A1.size)) h4, A1.keep k (Nat.lt_of_lt_of_le hk hgr.size) h3, hgr.block k hk (by simpa using h2)]
  have hB := Blk.set_ (Blk.set_ (A2.cell (A1.cell (show Blk wr mb 31 _ from (hgr.block mb (Blk.lt h.cells) (by simpa using hmn)).trans h.cells) hwv) hxv) 2 wv') 3 xv'
  -- the new rows
  have hmb1 : wv'.ownBlock ≠ some mb := fun e => by
    rcases A1.loc with h1 | ⟨k, h1, h2⟩
    · exact hwv (h1 ▸ e)
    · rw [h1] at e; cases e; have := Blk.lt h.cells; have := hgr.size; omega
  have hmb2 : xv'.ownBlock ≠ some mb := fun e => by
    rcases A2.loc with h1 | ⟨k, h1, h2⟩
    · exact hxv (h1 ▸ e)
    · rw [h1] at e; cases e; have := Blk.lt h.cells; have := hgr.size; have := A1.size; omega
  have hdis : ∀ k, wv'.ownBlock = some k → xv.ownBlock ≠ some k := fun k e e2 => by
    rcases A1.loc with h1 | ⟨k', h1, h2⟩
    · have h3 := h.lwait k (h1 ▸ e)
      rw [h.lfwait k e2] at h3; cases h3
    · rw [h1] at e; cases e
      have := (h.fwait.lt k e2).2
      have := hgr.size
      omega
  have hown1 : w3.ownsRow 0 42 1 wv' (d.wait.length + 1) (nv ++ [.slice (some ⟨g, 0, none⟩) cs.length cs.length]) := by
    refine ownsRow_block A1.own fun k e => ?_
    have hne1 : k ≠ mb := fun e2 => hmb1 (e2 ▸ e)
    rw [Below.heap_setCell _ _ _ _ hne1, Below.heap_setCell _ _ _ _ hne1, A2.keep k (A1.own.lt k e).2 (hdis k e)]
  have hown2 : w3.ownsRow 0 67 1 xv' (d.wait.length + 1) (xs ++ [.slice (some ⟨hf, 0, none⟩) cs.length cs.length]) := by
    refine ownsRow_block A2.own fun k e => ?_
    have hne1 : k ≠ mb := fun e2 => hmb2 (e2 ▸ e)
    rw [Below.heap_setCell _ _ _ _ hne1, Below.heap_setCell _ _ _ _ hne1]
  have hdis2 : ∀ k, wv'.ownBlock = some k → xv'.ownBlock = some k → False := fun k e e2 => by
    rcases A2.loc with h1 | ⟨k', h1, h2⟩
    · exact hdis k e (h1 ▸ e2)
    · rw [h1] at e2; cases e2
      have := (A1.own.lt k e).2
      omega
  let L' : MLab := fun k => if k = g then some (.ns d.wait.length) else if k = hf then some (.fs d.wait.length) else if wv'.ownBlock = some k then some .wait else if xv'.ownBlock = some k then some .fwait else L k
  have hL : ∀ k l, L k = some l → L' k = some l := fun k l hl => by
    show (if k = g then _ else if k = hf then _ else if wv'.ownBlock = some k then _ else if xv'.ownBlock = some k then _ else _) = _
    rw [if_neg (fun e => by rw [e, hLg] at hl; cases hl), if_neg (fun e => by rw [e, hLh] at hl; cases hl)]
    have hkw := h.dom k (by rw [hl]; simp)
    split
    · rename_i e
      rcases A1.loc with h1 | ⟨k', h1, h2⟩
      · rw [h1] at e; rw [h.lwait k e] at hl; exact hl
      · rw [h1] at e; cases e; have := hgr.size; omega
    split
    · rename_i e
      rcases A2.loc with h1 | ⟨k', h1, h2⟩
      · rw [h1] at e; rw [h.lfwait k e] at hl; exact hl
      · rw [h1] at e; cases e; have := hgr.size; have := A1.size; omega
    · exact hl
  have hkeep : ∀ k l, L k = some l → l ≠ .model → l ≠ .now → l ≠ .wait → l ≠ .fwait → w3.heap[k]? = w.heap[k]? := fun k l hl h1 h2 h3 h4 =>
    hold k (h.dom k (by rw [hl]; simp)) (fun e => by rw [e, h.lmodel] at hl; cases hl; exact h1 rfl) (fun e => by rw [e, h.lnow] at hl; cases hl; exact h2 rfl) (fun e => by rw [h.lwait k e] at hl; cases hl; exact h3 rfl) (fun e => by rw [h.lfwait k e] at hl; cases hl; exact h4 rfl)
  have hung : ∀ k, k < w.heap.size → L k = none → w3.heap[k]? = w.heap[k]? := fun k hk hl =>
    hold k hk (fun e => by rw [e, h.lmodel] at hl; cases hl) (fun e => by rw [e, h.lnow] at hl; cases hl) (fun e => by rw [h.lwait k e] at hl; cases hl) (fun e => by rw [h.lfwait k e] at hl; cases hl)
  have hnb3 : w3.heap[nb]? = wr.heap[nb]? := by
    have hlt : nb < wr.heap.size := World.ownsMap.lt hm
    rw [Below.heap_setCell _ _ _ _ (fun e => hmn e.symm), Below.heap_setCell _ _ _ _ (fun e => hmn e.symm), A2.keep nb (Nat.lt_of_lt_of_le hlt A1.size) (fun e => by have := h.lfwait nb e; rw [h.lnow] at this; cases this), A1.keep nb hlt (fun e => by have := h.lwait nb e; rw [h.lnow] at this; cases this)]
  refine ⟨L', wv', xv', nv ++ [.slice (some ⟨g, 0, none⟩) cs.length cs.length], xs ++ [.slice (some ⟨hf, 0, none⟩) cs.length cs.length], ?_, A2.os.trans (A1.os.trans hgr.os), A2.tape.trans (A1.tape.trans hgr.tape), A2.output.trans (A1.output.trans hgr.output), hsz, hung, ?_⟩
  · exact {
      dom := fun k hl => by
        show k < w3.heap.size
        have hl' : (if k = g then some (MLbl.ns d.wait.length) else if k = hf then some (.fs d.wait.length) else if wv'.ownBlock = some k then some .wait else if xv'.ownBlock = some k then some .fwait else L k) ≠ none := hl
        by_cases e1 : k = g
        · rw [e1]; exact Nat.lt_of_lt_of_le hg.lt hsz
        by_cases e2 : k = hf
        · rw [e2]; exact Nat.lt_of_lt_of_le hh.lt hsz
        by_cases e3 : wv'.ownBlock = some k
        · exact (hown1.lt k e3).2
        by_cases e4 : xv'.ownBlock = some k
        · exact (hown2.lt k e4).2
        rw [if_neg e1, if_neg e2, if_neg e3, if_neg e4] at hl'
        exact Nat.lt_of_lt_of_le (h.dom k hl') hsz
      lmodel := hL _ _ h.lmodel
      cells := hB
      lnow := hL _ _ h.lnow
      lkept := hL _ _ h.lkept
      now := hm.block hnb3
      kept := h.kept.block (hkeep kb _ h.lkept (by simp) (by simp) (by simp) (by simp))
      hnow := h.hnow.putAll hcs
      hkept := h.hkept
      nfiles := h.nfiles
      files := fun i f hf' => by
        obtain ⟨fb, h1, h3⟩ := h.files i f hf'
        exact ⟨fb, h1, hL _ _ h3.lab, (hkeep fb _ h3.lab (by simp) (by simp) (by simp) (by simp)).trans h3.cells⟩
      wait := by
        have e : (d.set cs).wait.length = d.wait.length + 1 := by simp [DV.set]
        rw [e]; exact hown1
      lwait := fun k hk' => by
        show (if k = g then _ else if k = hf then _ else if wv'.ownBlock = some k then _ else _) = _
        have hn : ∀ z, z < w.heap.size → L z = none → wv'.ownBlock ≠ some z := fun z hz hl e => by
          rcases A1.loc with h1 | ⟨k', h1, h2⟩
          · rw [h1] at e; rw [h.lwait z e] at hl; cases hl
          · rw [h1] at e; cases e; have := hgr.size; omega
        rw [if_neg (fun e : k = g => hn g hg.lt hLg (e ▸ hk')), if_neg (fun e : k = hf => hn hf hh.lt hLh (e ▸ hk')), if_pos hk']
      fwait := by
        have e : (d.set cs).wait.length = d.wait.length + 1 := by simp [DV.set]
        rw [e]; exact hown2
      lfwait := fun k hk' => by
        show (if k = g then _ else if k = hf then _ else if wv'.ownBlock = some k then _ else if xv'.ownBlock = some k then _ else _) = _
        have hn : ∀ z, z < w.heap.size → L z = none → xv'.ownBlock ≠ some z := fun z hz hl e => by
          rcases A2.loc with h1 | ⟨k', h1, h2⟩
          · rw [h1] at e; rw [h.lfwait z e] at hl; cases hl
          · rw [h1] at e; cases e; have := hgr.size; have := A1.size; omega
        rw [if_neg (fun e : k = g => hn g hg.lt hLg (e ▸ hk')), if_neg (fun e : k = hf => hn hf hh.lt hLh (e ▸ hk')), if_neg (fun e => hdis2 k e hk'), if_pos hk']
      chs := fun i c hc => by
        have hnl : nv.length = d.wait.length := by have := h.wait.1; omega
        have hxl : xs.length = d.wait.length := by have := h.fwait.1; omega
        have hc' : (d.wait ++ [cs])[i]? = some c := hc
        rcases Nat.lt_or_ge i d.wait.length with hi | hi
        · rw [List.getElem?_append_left hi] at hc'
          obtain ⟨v, u, h1, h2, h3⟩ := h.chs i c hc'
          exact ⟨v, u, by rw [List.getElem?_append_left (by omega)]; exact h1, by rw [List.getElem?_append_left (by omega)]; exact h2, h3.keep fun k hl => by
            rcases hl with hl | hl <;> exact ⟨hkeep k _ hl (by simp) (by simp) (by simp) (by simp), (hL _ _ hl).trans hl.symm⟩⟩
        · rw [List.getElem?_append_right hi] at hc'
          have hi0 : i = d.wait.length := by
            rcases Nat.eq_zero_or_pos (i - d.wait.length) with h0 | h0
            · omega
            · rw [List.getElem?_eq_none (by simp; omega)] at hc'; cases hc'
          subst hi0
          simp at hc'
          subst hc'
          refine ⟨.slice (some ⟨g, 0, none⟩) cs.length cs.length, .slice (some ⟨hf, 0, none⟩) cs.length cs.length, by rw [List.getElem?_append_right (by omega)]; simp [hnl], by rw [List.getElem?_append_right (by omega)]; simp [hxl], g, hf, rfl, (hung g hg.lt hLg).trans hg, ?_, rfl, (hung hf hh.lt hLh).trans hh, ?_⟩
          · show (if g = g then _ else _) = _
            rw [if_pos rfl]
          · show (if hf = g then _ else if hf = hf then _ else _) = _
            rw [if_neg (fun e => hne e.symm), if_pos rfl]
      hchs := fun c hc x hx => by
        have hc' : c ∈ d.wait ++ [cs] := hc
        rw [List.mem_append, List.mem_singleton] at hc'
        rcases hc' with hc' | rfl
        · exact h.hchs c hc' x hx
        · exact hcs x hx }
  · intro k hk hl
    have hl' : (if k = g then some (MLbl.ns d.wait.length) else if k = hf then some (.fs d.wait.length) else if wv'.ownBlock = some k then some .wait else if xv'.ownBlock = some k then some .fwait else L k) ≠ none := hl
    by_cases e1 : k = g
    · exact .inr (.inl e1)
    by_cases e2 : k = hf
    · exact .inr (.inr e2)
    rw [if_neg e1, if_neg e2] at hl'
    by_cases e3 : wv'.ownBlock = some k
    · rcases A1.loc with h1 | ⟨k', h1, h2⟩
      · rw [h1] at e3; exact .inl (by rw [h.lwait k e3]; simp)
      · rw [h1] at e3; cases e3; have := hgr.size; omega
    rw [if_neg e3] at hl'
    by_cases e4 : xv'.ownBlock = some k
    · rcases A2.loc with h1 | ⟨k', h1, h2⟩
      · rw [h1] at e4; exact .inl (by rw [h.lfwait k e4]; simp)
      · rw [h1] at e4; cases e4; have := hgr.size; have := A1.size; omega
    rw [if_neg e4] at hl'
    exact .inl hl'

end Go.Proofs.Ytombehaaaojhdaa
