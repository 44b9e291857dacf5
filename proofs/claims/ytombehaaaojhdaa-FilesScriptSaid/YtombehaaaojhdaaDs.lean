/- how a disk lies in the world: its own blocks, each with a label -/
import Derived.Test.YtombehaaaojhdaaDw
import Derived.Maps.AppendAt
import Derived.WalkKit
import Derived.Laws.OwnMore
set_option linter.unusedVariables false
namespace Go.Proofs.Ytombehaaaojhdaa
open Go.Maps Go.RowKit

inductive Lbl where
  | disk | now | safe | wait
  | cs (i : Nat)
  | file (i : Nat)
  | row (i : Nat)
  deriving DecidableEq

abbrev Lab := Nat → Option Lbl

def bcells (b : List UInt8) : List Value := b.map fun u => .int .u8 u.toNat
theorem bcells_length (b : List UInt8) : (bcells b).length = b.length := by simp [bcells]
theorem bcells_append (a b : List UInt8) : bcells (a ++ b) = bcells a ++ bcells b := by simp [bcells]
theorem bcells_take (b : List UInt8) (n : Nat) : bcells (b.take n) = (bcells b).take n := by simp [bcells]

/-- a slice of bytes of a file: it owns its row, or it has been clipped -/
def BytesAt (w : World) (v : Value) (b : List UInt8) : Prop :=
  w.ownsRow 0 5 1 v b.length (bcells b) ∨
  ∃ g cur fz, v = .slice (some ⟨g, 0, none⟩) b.length b.length ∧ w.heap[g]? = some (.cells cur 5 fz) ∧ b.length ≤ maxLen ∧ cur.toList.take b.length = bcells b

theorem BytesAt.keep {w w' : World} {v : Value} {b : List UInt8} (h : BytesAt w v b) (hk : ∀ g, v.ownBlock = some g → w'.heap[g]? = w.heap[g]?) : BytesAt w' v b := by
  rcases h with ⟨hl, h⟩ | ⟨g, cur, fz, rfl, hg, hm, ht⟩
  · refine .inl ⟨hl, ?_⟩
    rcases h with h | ⟨g, cap, cur, rfl, h0, hg, rest⟩
    · exact .inl h
    · exact .inr ⟨g, cap, cur, rfl, h0, (hk g rfl).trans hg, rest⟩
  · exact .inr ⟨g, cur, fz, rfl, (hk g rfl).trans hg, hm, ht⟩

/-- one file: its block, its bytes' row -/
structure FileAt (w : World) (L : Lab) (i fb : Nat) (v : Value) (f : FileV) : Prop where
  lab : L fb = some (.file i)
  cells : w.heap[fb]? = some (.cells #[v, .int .i64 f.safe] 64 (0, 0))
  bytes : BytesAt w v f.b
  row : ∀ g, v.ownBlock = some g → L g = some (.row i)

/-- the cells of a list of changes -/
def chCells (φ : List Nat) (cs : List Ch) : List Value := cs.flatMap fun c => [.string ⟨c.1.toArray⟩, ptrOf φ c.2]

structure CsAt (w : World) (L : Lab) (φ : List Nat) (i : Nat) (v : Value) (cs : List Ch) : Prop where
  at_ : ∃ g cur, v = .slice (some ⟨g, 0, none⟩) cs.length cs.length ∧ w.heap[g]? = some (.cells cur 60 (0, 0)) ∧ cur.toList = chCells φ cs ∧ L g = some (.cs i)

structure DiskAt (w : World) (L : Lab) (db nb sb : Nat) (wv : Value) (φ : List Nat) (fv cv : List Value) (d : DV) : Prop where
  dom : ∀ k, L k ≠ none → k < w.heap.size
  ldisk : L db = some .disk
  cells : w.heap[db]? = some (.cells #[.map (some nb), .map (some sb), wv, .int .i64 d.room, .int .i64 d.left, .bool d.down, .int .i64 d.calls] 56 (0, 0))
  lnow : L nb = some .now
  lsafe : L sb = some .safe
  now : MapAt Try.prog 9 w φ nb d.now
  safe : MapAt Try.prog 9 w φ sb d.safe
  hnow : Held φ.length d.now
  hsafe : Held φ.length d.safe
  nfiles : φ.length = d.files.length
  nvals : fv.length = d.files.length
  files : ∀ i f, d.files[i]? = some f → ∃ fb v, φ[i]? = some fb ∧ fv[i]? = some v ∧ FileAt w L i fb v f
  wait : w.ownsRow 0 57 1 wv d.wait.length cv
  lwait : ∀ g, wv.ownBlock = some g → L g = some .wait
  chs : ∀ i cs, d.wait[i]? = some cs → ∃ v, cv[i]? = some v ∧ CsAt w L φ i v cs
  hchs : ∀ cs ∈ d.wait, ∀ c ∈ cs, c.ok φ.length

/-- what is known of the numbers -/
structure DV.ok (d : DV) : Prop where
  room0 : 0 ≤ d.room
  room1 : d.room ≤ 4294967296
  left0 : -1 ≤ d.left
  left1 : d.left ≤ 9223372036854775807
  calls : d.calls ≤ 1099511627776
  lens : ∀ f ∈ d.files, (f.b.length : Int) ≤ d.room ∧ f.safe ≤ f.b.length
  names : ∀ k, size ((d.wait.take k).foldl putAll d.safe) ≤ 64
  now : (d.wait.foldl putAll d.safe) = d.now
  waits : d.wait.length ≤ d.calls

/-- the world has turned at labelled blocks and new ones alone; no old block was taken besides -/
structure Turned (L L' : Lab) (w w' : World) : Prop where
  os : w'.os = w.os
  tape : w'.tape = w.tape
  output : w'.output = w.output
  size : w.heap.size ≤ w'.heap.size
  block : ∀ k, k < w.heap.size → L k = none → w'.heap[k]? = w.heap[k]?
  dom : ∀ k, k < w.heap.size → L' k ≠ none → L k ≠ none

theorem Turned.refl (L : Lab) (w : World) : Turned L L w w := ⟨rfl, rfl, rfl, Nat.le_refl _, fun _ _ _ => rfl, fun _ _ h => h⟩
theorem Turned.trans {L L' L'' : Lab} {w w' w'' : World} (h : Turned L L' w w') (k : Turned L' L'' w' w'') : Turned L L'' w w'' :=
  ⟨k.os.trans h.os, k.tape.trans h.tape, k.output.trans h.output, Nat.le_trans h.size k.size,
    fun b hb hl => (k.block b (Nat.lt_of_lt_of_le hb h.size) (by
      cases e : L' b with
      | none => rfl
      | some x => exact absurd hl (h.dom b hb (by simp [e])))).trans (h.block b hb hl),
    fun b hb hl => h.dom b hb (k.dom b (Nat.lt_of_lt_of_le hb h.size) hl)⟩
theorem Turned.below {L : Lab} {w w' : World} (h : Below w.heap.size w w') : Turned L L w w' :=
  ⟨h.os, h.tape, h.output, h.size, fun k hk _ => h.block k hk, fun _ _ h => h⟩

theorem DiskAt.nodup {w : World} {L : Lab} {db nb sb : Nat} {wv : Value} {φ : List Nat} {fv cv : List Value} {d : DV} (h : DiskAt w L db nb sb wv φ fv cv d) : φ.Nodup := by
  refine List.pairwise_iff_getElem.2 fun i j hi0 hj0 hij e => ?_
  have hi : i < d.files.length := by have := h.nfiles; omega
  have hj' : j < d.files.length := by have := h.nfiles; omega
  obtain ⟨fb, v, h1, _, h3⟩ := h.files i _ (List.getElem?_eq_getElem hi)
  obtain ⟨fb', v', h1', _, h3'⟩ := h.files j _ (List.getElem?_eq_getElem hj')
  rw [List.getElem?_eq_getElem hi0] at h1
  rw [List.getElem?_eq_getElem hj0] at h1'
  cases h1
  cases h1'
  rw [e] at h3
  have := h3.lab.symm.trans h3'.lab
  simp at this
  omega

/-- a world that is the same at the labelled blocks -/
theorem DiskAt.keep {w w' : World} {L : Lab} {db nb sb : Nat} {wv : Value} {φ : List Nat} {fv cv : List Value} {d : DV} (h : DiskAt w L db nb sb wv φ fv cv d)
    (hs : w.heap.size ≤ w'.heap.size) (hk : ∀ k, L k ≠ none → w'.heap[k]? = w.heap[k]?) : DiskAt w' L db nb sb wv φ fv cv d where
  dom := fun k hk => Nat.lt_of_lt_of_le (h.dom k hk) hs
  ldisk := h.ldisk
  cells := (hk db (by simp [h.ldisk])).trans h.cells
  lnow := h.lnow
  lsafe := h.lsafe
  now := h.now.block (hk nb (by simp [h.lnow]))
  safe := h.safe.block (hk sb (by simp [h.lsafe]))
  hnow := h.hnow
  hsafe := h.hsafe
  nfiles := h.nfiles
  nvals := h.nvals
  files := fun i f hf => by
    obtain ⟨fb, v, h1, h2, h3⟩ := h.files i f hf
    exact ⟨fb, v, h1, h2, h3.lab, (hk fb (by simp [h3.lab])).trans h3.cells, h3.bytes.keep (fun g hg => hk g (by simp [h3.row g hg])), h3.row⟩
  wait := by
    obtain ⟨hl, hw⟩ := h.wait
    refine ⟨hl, ?_⟩
    rcases hw with hw | ⟨g, cap, cur, rfl, h0, hg, rest⟩
    · exact .inl hw
    · exact .inr ⟨g, cap, cur, rfl, h0, (hk g (by simp [h.lwait g rfl])).trans hg, rest⟩
  lwait := h.lwait
  chs := fun i cs hc => by
    obtain ⟨v, h1, ⟨g, cur, rfl, hg, hcur, hl⟩⟩ := h.chs i cs hc
    exact ⟨_, h1, ⟨g, cur, rfl, (hk g (by simp [hl])).trans hg, hcur, hl⟩⟩
  hchs := h.hchs
end Go.Proofs.Ytombehaaaojhdaa
