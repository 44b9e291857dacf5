/- a new file of a disk; (*Disk).Create -/
import Derived.Test.YtombehaaaojhdaaDrn
set_option linter.unusedVariables false
namespace Go.Proofs.Ytombehaaaojhdaa
open Go.Maps Go.RowKit

theorem CsAt.grow {w : World} {L : Lab} {φ : List Nat} {i : Nat} {v : Value} {cs : List Ch} (h : CsAt w L φ i v cs) (hc : ∀ c ∈ cs, c.ok φ.length) (φ' : List Nat) : CsAt w L (φ ++ φ') i v cs := by
  obtain ⟨g, cur, e, hg, hcur, hl⟩ := h
  refine ⟨g, cur, e, hg, ?_, hl⟩
  rw [hcur]
  unfold chCells
  have : ∀ c ∈ cs, ptrOf φ c.2 = ptrOf (φ ++ φ') c.2 := fun c hm => by
    cases e2 : c.2 with
    | none => rfl
    | some i =>
      have := hc c hm i e2
      simp only [ptrOf]
      rw [List.getElem?_append_left this]
  clear hcur hg e hc
  induction cs with
  | nil => rfl
  | cons c r ih =>
    simp only [List.flatMap_cons]
    rw [this c (List.mem_cons_self ..), ih (fun x hx => this x (List.mem_cons_of_mem _ hx))]

/-- a new, empty file -/
theorem DiskAt.newFile {w : World} {L : Lab} {db nb sb : Nat} {wv : Value} {φ : List Nat} {fv cv : List Value} {d : DV} (h : DiskAt w L db nb sb wv φ fv cv d) :
    DiskAt (w.alloc (.cells #[.slice none 0 0, .int .i64 0] 64)) (fun k => if k = w.heap.size then some (.file d.files.length) else L k) db nb sb wv (φ ++ [w.heap.size]) (fv ++ [.slice none 0 0]) cv
      { d with files := d.files ++ [⟨[], 0⟩] } := by
  have hsl : (w.alloc (.cells #[.slice none 0 0, .int .i64 0] 64)).heap.size = w.heap.size + 1 := by show (w.heap.push _).size = _; rw [Array.size_push]
  have hfl : ∀ k l, L k = some l → (if k = w.heap.size then some (Lbl.file d.files.length) else L k) = some l := fun k l hl => by
    rw [if_neg (fun e => by have := h.dom k (by rw [hl]; simp); omega)]; exact hl
  have hk : ∀ k l, L k = some l → (w.alloc (.cells #[.slice none 0 0, .int .i64 0] 64)).heap[k]? = w.heap[k]? := fun k l hl => Below.heap_alloc _ _ _ (h.dom k (by rw [hl]; simp))
  exact {
    dom := fun k hl => by
      have hl' : (if k = w.heap.size then some (Lbl.file d.files.length) else L k) ≠ none := hl
      by_cases e : k = w.heap.size
      · omega
      · rw [if_neg e] at hl'; have := h.dom k hl'; omega
    ldisk := hfl _ _ h.ldisk
    cells := (hk db _ h.ldisk).trans h.cells
    lnow := hfl _ _ h.lnow
    lsafe := hfl _ _ h.lsafe
    now := (h.now.block (hk nb _ h.lnow)).grow _
    safe := (h.safe.block (hk sb _ h.lsafe)).grow _
    hnow := h.hnow.mono (by simp)
    hsafe := h.hsafe.mono (by simp)
    nfiles := by simp [h.nfiles]
    nvals := by simp [h.nvals]
    files := fun i f hf => by
      have hf' : (d.files ++ [⟨[], 0⟩])[i]? = some f := hf
      rcases Nat.lt_or_ge i d.files.length with hi | hi
      · rw [List.getElem?_append_left hi] at hf'
        obtain ⟨fb, v, h1, h2, h3⟩ := h.files i f hf'
        refine ⟨fb, v, by rw [List.getElem?_append_left (by have := h.nfiles; omega)]; exact h1, by rw [List.getElem?_append_left (by have := h.nvals; omega)]; exact h2, hfl _ _ h3.lab, (hk fb _ h3.lab).trans h3.cells,
          h3.bytes.keep (fun g hg => hk g _ (h3.row g hg)), fun g hg => hfl _ _ (h3.row g hg)⟩
      · rw [List.getElem?_append_right hi] at hf'
        have hi0 : i = d.files.length := by
          rcases Nat.eq_zero_or_pos (i - d.files.length) with h0 | h0
          · omega
          · rw [List.getElem?_eq_none (by simp; omega)] at hf'; cases hf'
        subst hi0
        simp at hf'
        subst hf'
        refine ⟨w.heap.size, .slice none 0 0, ?_, ?_, ?_, Blk.new w _ _, .inl (World.ownsRow_nil _ _ _ _), fun g hg => by cases hg⟩
        · rw [List.getElem?_append_right (by have := h.nfiles; omega)]; simp [h.nfiles]
        · rw [List.getElem?_append_right (by have := h.nvals; omega)]; simp [h.nvals]
        · show (if w.heap.size = w.heap.size then _ else _) = _
          rw [if_pos rfl]
    wait := by
      obtain ⟨hl, hw⟩ := h.wait
      refine ⟨hl, ?_⟩
      rcases hw with hw | ⟨g, cap, cur, rfl, h0, hg, rest⟩
      · exact .inl hw
      · exact .inr ⟨g, cap, cur, rfl, h0, (hk g _ (h.lwait g rfl)).trans hg, rest⟩
    lwait := fun k hk' => hfl _ _ (h.lwait k hk')
    chs := fun j cs hc => by
      obtain ⟨v, h1, hcs⟩ := h.chs j cs hc
      have := hcs.grow (fun c hm => h.hchs cs (List.mem_of_getElem? hc) c hm) [w.heap.size]
      obtain ⟨g, cur, rfl, hg, hcur, hl⟩ := this
      exact ⟨_, h1, ⟨g, cur, rfl, (hk g _ hl).trans hg, hcur, hfl _ _ hl⟩⟩
    hchs := fun cs hcs c hc i hi => by have := h.hchs cs hcs c hc i hi; simp; omega }

theorem DiskTo.trans2 {w w1 w' : World} {L L1 : Lab} {db : Nat} {d : DV} (h : DiskTo w1 L1 db d w') (ht : Turned L L1 w w1) : DiskTo w L db d w' := by
  obtain ⟨L', nb, sb, wv, φ, fv, cv, hD, hT⟩ := h
  exact ⟨L', nb, sb, wv, φ, fv, cv, hD, ht.trans hT⟩

theorem turned_new {w : World} {L : Lab} {db nb sb : Nat} {wv : Value} {φ : List Nat} {fv cv : List Value} {d : DV} (h : DiskAt w L db nb sb wv φ fv cv d) (o : Obj) (l : Lbl) :
    Turned L (fun k => if k = w.heap.size then some l else L k) w (w.alloc o) where
  os := rfl
  tape := rfl
  output := rfl
  size := by show _ ≤ (w.heap.push _).size; rw [Array.size_push]; omega
  block := fun k hk _ => Below.heap_alloc _ _ _ hk
  dom := fun k hk hl => by
    have hl' : (if k = w.heap.size then some l else L k) ≠ none := hl
    rw [if_neg (by omega)] at hl'; exact hl'

set_option maxHeartbeats 4000000 in
theorem create_disk (w : World) (L : Lab) (db nb sb : Nat) (wv : Value) (φ : List Nat) (fv cv : List Value) (d : DV) (h : DiskAt w L db nb sb wv φ fv cv d) (hok : d.ok) (hsz : size d.now ≤ 64) (hc : d.calls ≤ 1099511627776) (s : Nm) (hs : s.length ≤ maxLen) :
    Calls Try.prog 17 #[.pointer (some ⟨db, 0, none⟩), .string ⟨s.toArray⟩] w fun e w' => e = .returned (.int .i64 (d.create s).2) ∧ DiskTo w L db (d.create s).1 w' := by
  have c0 : w.cell? ⟨db, 0, none⟩ = some (.map (some nb)) := (Blk.cell h.cells 0).trans rfl
  have c5 : w.cell? ⟨db, 5, none⟩ = some (.bool d.down) := (Blk.cell h.cells 5).trans rfl
  have hlk := look_run w h hs
  have hlen : (Builtin.len_ #[53] 3 #[.map (some nb)]).run Try.prog w = .ok (.int .i64 (size d.now)) w := World.ownsMap.len h.now Try.underlying53 _
  have hhas := has_look (World.ownsMap.isMap h.now) h.hnow s
  have H := Lib.hid h
  have HOK := Lib.hid hok
  have HC := Lib.hid hc
  have HS := Lib.hid (show DiskTo w L db d w from ⟨L, nb, sb, wv, φ, fv, cv, h, Turned.refl _ _⟩)
  clear h hok hc
  cases hd : d.down with
  | true =>
    rw [hd] at c5
    have hr : d.create s = (d, eCrash) := by simp [DV.create, hd]
    rw [hr]
    obtain ⟨pv, hpv⟩ := ptrOf_shape φ (look d.now s)
    rw [hpv] at hlk
    go_enter Try.func17, Try.ntmps17
    go_wp2
    go_ret
    exact ⟨rfl, HS.out⟩
  | false =>
    rw [hd] at c5
    cases hl : look d.now s with
    | some i =>
      have hi := look_lt H.out.hnow hl
      obtain ⟨fb, hfb⟩ : ∃ fb, φ[i]? = some fb := ⟨_, List.getElem?_eq_getElem hi⟩
      rw [hl] at hlk hhas
      simp only [ptrOf, hfb, Option.isSome_some] at hlk hhas
      have hr : d.create s = (d, eExist) := by simp [DV.create, hd, hhas]
      rw [hr]
      clear hhas
      go_enter Try.func17, Try.ntmps17
      go_wp2
      go_ret
      exact ⟨rfl, HS.out⟩
    | none =>
      rw [hl] at hlk hhas
      simp only [ptrOf, Option.isSome_none] at hlk hhas
      have HOWN := Lib.hid H.out.now
      obtain ⟨z, hz⟩ : ∃ z, z = size d.now := ⟨_, rfl⟩
      have hlaw : ∀ {ops : Array Oper} {rest : List Oper} {o : Oper} {a : Act} {Q : Exit → Act → World → Prop} (hgd : o.guard = none) (m : Operand) (ho : o.op = .call { callee := .builtin .len, args := #[m], argTypes := #[53] }) (hm : a.eval m = .map (some nb))
          (hK : wpList Try.prog ops Q rest (a.put o.dst (.int .i64 z)) w), wpList Try.prog ops Q (o :: rest) a w := fun hgd m ho hm hK =>
        wpList_len_own _ hgd m 53 ho 9 58 Try.underlying53 (fread φ) nb _ d.now hm HOWN.out (hz ▸ hK)
      have HLAW := @Lib.hid _ @hlaw
      have hz64 : z ≤ 64 := by omega
      have HZ := Lib.hid hz
      clear hlaw hlen hsz
      by_cases h64 : 64 ≤ z
      · have hr : d.create s = (d, eFull) := by simp [DV.create, hd, hhas, ← HZ.out, h64]
        rw [hr]
        have hb : decide ((64 : Int) ≤ (z : Int)) = true := by simp; omega
        clear hhas hl hd hr hz h64 hz64
        go_enter Try.func17, Try.ntmps17
        go_wp2_with (first | (at_len; refine HLAW.out rfl _ rfl rfl ?_) | go_in)
        go_ret
        exact ⟨rfl, HS.out⟩
      · have h64' : z < 64 := by omega
        cases ho : d.on with
        | false =>
          have hr : d.create s = (d.tick, eCrash) := by simp [DV.create, hd, hhas, ← HZ.out, h64, ho]
          rw [hr]
          have hb : decide ((64 : Int) ≤ (z : Int)) = false := by simp; omega
          have H64 := Lib.hid h64'
          clear hhas hl hd hr hz h64 h64' hz64
          go_enter Try.func17, Try.ntmps17
          go_wp2_with (at_len; refine HLAW.out rfl _ rfl rfl ?_)
          go_wp2_with fail
          refine (call_disk w L db nb sb wv φ fv cv d H.out HOK.out HC.out).mono ?_
          rintro e w1 ⟨rfl, h1, ht1⟩
          rw [ho]
          go_wp2
          go_ret
          exact ⟨rfl, L, nb, sb, wv, φ, fv, cv, h1, ht1⟩
        | true =>
          have hr : d.create s = ({ (d.tick.set [(s, some d.files.length)]) with files := d.files ++ [⟨[], 0⟩] }, 0) := by simp [DV.create, hd, hhas, ← HZ.out, h64, ho]
          rw [hr]
          have hb : decide ((64 : Int) ≤ (z : Int)) = false := by simp; omega
          have H64 := Lib.hid h64'
          clear hhas hl hd hr hz h64 h64' hz64
          go_enter Try.func17, Try.ntmps17
          go_wp2_with (at_len; refine HLAW.out rfl _ rfl rfl ?_)
          go_wp2_with fail
          refine (call_disk w L db nb sb wv φ fv cv d H.out HOK.out HC.out).mono ?_
          rintro e w1 ⟨rfl, h1, ht1⟩
          rw [ho]
          have h2 := h1.newFile
          have H1 := Lib.hid h1
          have H2 := Lib.hid h2
          have HT := Lib.hid ht1
          clear h1 h2 ht1
          go_wp2_with fail
          have hcon := set_new (w1.alloc (.cells #[.slice none 0 0, .int .i64 0] 64)) _ db nb sb wv _ _ cv _ H2.out [(s, some d.files.length)] #[.string ⟨s.toArray⟩, .pointer (some ⟨w1.heap.size, 0, none⟩)] (by simp [chCells, ptrOf, ← H.out.nfiles]) (fun c hc => by simp at hc; subst hc; exact ⟨(fun i h => by cases h; simp [H.out.nfiles]), hs⟩) (by show size d.now + 1 < _; rw [← HZ.out]; have := H64.out; omega) (by simp) (Nat.le_trans HOK.out.waits HC.out)
          rw [show (w1.alloc (.cells #[.slice none 0 0, .int .i64 0] 64)).heap.size = w1.heap.size + 1 by show (w1.heap.push _).size = _; rw [Array.size_push]] at hcon
          refine hcon.mono ?_
          clear hcon
          rintro e w2 ⟨rfl, h2⟩
          have H3 := Lib.hid h2
          clear h2
          go_wp2
          go_ret
          exact ⟨rfl, H3.out.trans2 (HT.out.trans (turned_new H1.out _ _))⟩
end Go.Proofs.Ytombehaaaojhdaa
