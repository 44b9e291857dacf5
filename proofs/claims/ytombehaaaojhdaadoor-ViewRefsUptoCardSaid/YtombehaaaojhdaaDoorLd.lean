/- From the row's list of variables to what the walks ask of the world; a world for the witness. -/
import Derived.Test.YtombehaaaojhdaaDoorRows
import Derived.Test.YtombehaaaojhdaaDoorVa
import Derived.Deep.DeepHandedRow
import Derived.Deep.DeepWitnessRowRef
import Derived.Lib.LaidIn
import Derived.Lib.LaidSlice
import Derived.Lib.LaidPrint
import Derived.ProofKit
set_option linter.unusedVariables false
namespace Go.Proofs.YtombehaaaojhdaaDoor
open Go.RowKit Go.Lib Go.Shelf

/-- the list that the three rows share -/
def laidList : List (String × DataW Unit) := Rows.viewRefsRow.laid

theorem pin_p16 : Go.Pinned.isPrint16 = Lib.sliceData .u16 Lib.goPrintTabs.p16 := by kernel_rfl
theorem pin_n16 : Go.Pinned.isNotPrint16 = Lib.sliceData .u16 Lib.goPrintTabs.n16 := by kernel_rfl
theorem pin_p32 : Go.Pinned.isPrint32 = Lib.sliceData .u32 Lib.goPrintTabs.p32 := by kernel_rfl
theorem pin_n32 : Go.Pinned.isNotPrint32 = Lib.sliceData .u16 Lib.goPrintTabs.n32 := by kernel_rfl
theorem pin_first : Go.Pinned.utf8First = Lib.firstData := by kernel_rfl
theorem pin_accept : Rows.laid_unicode_utf8_acceptRanges = Lib.acceptData := by kernel_rfl
theorem pin_pow : (Rows.laid_internal_strconv_uint64pow10 : DataW Unit) = Lib.tabData .u64 Lib.pow10Tab := by kernel_rfl

theorem tabIs_of_reads {P : Program} {W : World} {name : String} {k : IntKind} {zs : List Int} {g : Nat} {t e : TypeId} {n : Nat}
    (hg : P.globalNamed name = some g) (hty : (P.globals[g]?).map (·.type) = some t) (ht : P.underlying t = some (.array n e)) (he : P.underlying e = some (.int k)) (hce : P.cellsOf e = 1) (hct : P.cellsOf t = n)
    (h : VarReads P W name (tabData k zs)) : TabIs P W name k zs := by
  obtain ⟨g', t', cs, fuel, p, hg', ht', hvar, hd⟩ := h
  obtain rfl := Option.some.inj (hg.symm.trans hg')
  obtain rfl := Option.some.inj (hty.symm.trans ht')
  unfold TabIs
  rw [hvar, ← cells_of_tab ht he hce hct hd]

theorem tabs_of_laid {W : World} (hL : laidMetH Tryd.prog laidList W) : TabsW W := by
  have h : laidMet Tryd.prog laidList W := hL
  have hp : VarReads Tryd.prog W "internal/strconv.uint64pow10" (tabData .u64 Lib.pow10Tab) := pin_pow ▸ laidMet.reads h (.tail _ (.tail _ (.head _)))
  have ha : VarReads Tryd.prog W "unicode/utf8.acceptRanges" Lib.acceptData := pin_accept ▸ laidMet.reads h (.tail _ (.tail _ (.tail _ (.head _))))
  have hn16 : VarReads Tryd.prog W "strconv.isNotPrint16" (Lib.sliceData .u16 Lib.goPrintTabs.n16) := pin_n16 ▸ laidMet.reads h (.tail _ (.tail _ (.tail _ (.tail _ (.tail _ (.head _))))))
  have hn32 : VarReads Tryd.prog W "strconv.isNotPrint32" (Lib.sliceData .u16 Lib.goPrintTabs.n32) := pin_n32 ▸ laidMet.reads h (.tail _ (.tail _ (.tail _ (.tail _ (.tail _ (.tail _ (.head _)))))))
  have hp16 : VarReads Tryd.prog W "strconv.isPrint16" (Lib.sliceData .u16 Lib.goPrintTabs.p16) := pin_p16 ▸ laidMet.reads h (.tail _ (.tail _ (.tail _ (.tail _ (.tail _ (.tail _ (.tail _ (.head _))))))))
  have hp32 : VarReads Tryd.prog W "strconv.isPrint32" (Lib.sliceData .u32 Lib.goPrintTabs.p32) := pin_p32 ▸ laidMet.reads h (.tail _ (.tail _ (.tail _ (.tail _ (.tail _ (.tail _ (.tail _ (.tail _ (.head _)))))))))
  have hf : VarReads Tryd.prog W "unicode/utf8.first" Lib.firstData := pin_first ▸ laidMet.reads h (.tail _ (.tail _ (.tail _ (.tail _ (.tail _ (.tail _ (.tail _ (.tail _ (.tail _ (.head _))))))))))
  refine ⟨tabIs_of_reads (g := 0) (by kernel_rfl) (by kernel_rfl) Tryd.underlying141 Tryd.underlying111 (by kernel_rfl) (by kernel_rfl) hp,
    printTabs_of_reads (ρ := Tryd.lays177_ren) { Tryd.lays177 with } ⟨by kernel_rfl, by kernel_rfl, by kernel_rfl, by kernel_rfl, by kernel_rfl, by kernel_rfl, by kernel_rfl, by kernel_rfl, by kernel_rfl, by kernel_rfl⟩ hp16 hn16 hp32 hn32,
    utf8Tabs_of_reads (ρ := Tryd.lays177_ren) { Tryd.lays177 with } ⟨by kernel_rfl, by kernel_rfl, by kernel_rfl, by kernel_rfl, by kernel_rfl, by kernel_rfl, by kernel_rfl⟩ hf ha⟩

/-- THE WITNESS's WORLD: the settled one with five blocks more (the slices' rows), the ten variables holding what their initialisers lay. -/
noncomputable def laidWorld (os : Os) : World :=
  let N := (World.settled Tryd.prog os).heap.size
  let T := Lib.goPrintTabs
  let w0 := World.holding Tryd.prog os ⟨#[
    .cells (intCellsOf .u16 Go.Pinned.isGraphicZ) 168, .cells (intCellsOf .u16 T.n16) 168, .cells (intCellsOf .u16 T.n32) 168, .cells (intCellsOf .u16 T.p16) 168, .cells (intCellsOf .u32 T.p32) 142], #[], []⟩
  let put (h : Array Obj) (g : Nat) (cs : Array Value) : Array Obj := h.modify g fun
    | .cells _ t frozen => .cells cs t frozen
    | o => o
  let num (k : IntKind) (l : List Int) : Array Value := (l.map fun z => Value.int k z).toArray
  let h0 := put w0.heap 9 (num .u8 [0, 1, 28, 2, 29, 14, 24, 3, 30, 22, 20, 15, 25, 17, 4, 8, 31, 27, 13, 23, 21, 19, 16, 7, 26, 12, 18, 6, 11, 5, 10, 9])
  let h1 := put h0 10 (num .u8 [0, 1, 56, 2, 57, 49, 28, 3, 61, 58, 42, 50, 38, 29, 17, 4, 62, 47, 59, 36, 45, 43, 51, 22, 53, 39, 33, 30, 24, 18, 12, 5, 63, 55, 48, 27, 60, 41, 37, 16, 46, 35, 44, 21, 52, 32, 23, 11, 54, 26, 40, 15, 34, 20, 31, 10, 25, 14, 19, 9, 13, 8, 7, 6])
  let h2 := put h1 0 (num .u64 Lib.pow10Tab)
  let h3 := put h2 3 ((List.range 16).flatMap fun i => [Value.int .u8 (Lib.accLo i), Value.int .u8 (Lib.accHi i)]).toArray
  let h4 := put h3 8 #[.slice (some ⟨N, 0, none⟩) Go.Pinned.isGraphicZ.length Go.Pinned.isGraphicZ.length]
  let h5 := put h4 5 #[.slice (some ⟨N + 1, 0, none⟩) T.n16.length T.n16.length]
  let h6 := put h5 7 #[.slice (some ⟨N + 2, 0, none⟩) T.n32.length T.n32.length]
  let h7 := put h6 4 #[.slice (some ⟨N + 3, 0, none⟩) T.p16.length T.p16.length]
  let h8 := put h7 6 #[.slice (some ⟨N + 4, 0, none⟩) T.p32.length T.p32.length]
  let h9 := put h8 2 (Lib.firstTab.map fun z => Value.int .u8 z).toArray
  { w0 with heap := h9 }

noncomputable abbrev N0 : Nat := (World.settled Tryd.prog default).heap.size
noncomputable abbrev memW (os : Os) (args : Array Value) : World := ((laidWorld os).forCall (fun _ _ => 0) ⟨#[], args, []⟩).memory
theorem piece0 (os : Os) (args : Array Value) : LaidIn Tryd.prog (memW os args) [("math/bits.deBruijn32tab", Rows.laid_math_bits_deBruijn32tab), ("math/bits.deBruijn64tab", Rows.laid_math_bits_deBruijn64tab), ("internal/strconv.uint64pow10", Rows.laid_internal_strconv_uint64pow10), ("unicode/utf8.acceptRanges", Rows.laid_unicode_utf8_acceptRanges)] [9, 10, 0, 3] :=
  LaidIn.of_run [9, 10, 0, 3] 8 (by kernel_rfl) (by kernel_rfl) (by kernel_rfl) (by kernel_rfl)
set_option maxRecDepth 1000000 in
theorem piece4 (os : Os) (args : Array Value) : LaidIn Tryd.prog (memW os args) [("strconv.isGraphic", Rows.laid_strconv_isGraphic)] [8, N0] :=
  laidIn_slice (t := 169) (e := 168) (te := 168) Go.Pinned.isGraphicZ N0 (by kernel_rfl) (by kernel_rfl) (by kernel_rfl) (by kernel_rfl) (by kernel_rfl) (by kernel_rfl) (by kernel_rfl) (by kernel_rfl) (of_decide_eq_true (by kernel_rfl)) (of_decide_eq_true (by kernel_rfl))
set_option maxRecDepth 1000000 in
theorem piece5 (os : Os) (args : Array Value) : LaidIn Tryd.prog (memW os args) [("strconv.isNotPrint16", Rows.laid_strconv_isNotPrint16)] [5, N0 + 1] :=
  by
  rw [show (Rows.laid_strconv_isNotPrint16 : DataW Unit) = Lib.sliceData .u16 Lib.goPrintTabs.n16 from pin_n16]
  exact laidIn_slice (t := 169) (e := 168) (te := 168) Lib.goPrintTabs.n16 (N0 + 1) (by kernel_rfl) (by kernel_rfl) (by kernel_rfl) (by kernel_rfl) (by kernel_rfl) (by kernel_rfl) (by kernel_rfl) (by kernel_rfl) (of_decide_eq_true (by kernel_rfl)) (of_decide_eq_true (by kernel_rfl))
set_option maxRecDepth 1000000 in
theorem piece6 (os : Os) (args : Array Value) : LaidIn Tryd.prog (memW os args) [("strconv.isNotPrint32", Rows.laid_strconv_isNotPrint32)] [7, N0 + 2] :=
  by
  rw [show (Rows.laid_strconv_isNotPrint32 : DataW Unit) = Lib.sliceData .u16 Lib.goPrintTabs.n32 from pin_n32]
  exact laidIn_slice (t := 169) (e := 168) (te := 168) Lib.goPrintTabs.n32 (N0 + 2) (by kernel_rfl) (by kernel_rfl) (by kernel_rfl) (by kernel_rfl) (by kernel_rfl) (by kernel_rfl) (by kernel_rfl) (by kernel_rfl) (of_decide_eq_true (by kernel_rfl)) (of_decide_eq_true (by kernel_rfl))
set_option maxRecDepth 1000000 in
theorem piece7 (os : Os) (args : Array Value) : LaidIn Tryd.prog (memW os args) [("strconv.isPrint16", Rows.laid_strconv_isPrint16)] [4, N0 + 3] :=
  by
  rw [show (Rows.laid_strconv_isPrint16 : DataW Unit) = Lib.sliceData .u16 Lib.goPrintTabs.p16 from pin_p16]
  exact laidIn_slice (t := 169) (e := 168) (te := 168) Lib.goPrintTabs.p16 (N0 + 3) (by kernel_rfl) (by kernel_rfl) (by kernel_rfl) (by kernel_rfl) (by kernel_rfl) (by kernel_rfl) (by kernel_rfl) (by kernel_rfl) (of_decide_eq_true (by kernel_rfl)) (of_decide_eq_true (by kernel_rfl))
set_option maxRecDepth 1000000 in
theorem piece8 (os : Os) (args : Array Value) : LaidIn Tryd.prog (memW os args) [("strconv.isPrint32", Rows.laid_strconv_isPrint32)] [6, N0 + 4] :=
  by
  rw [show (Rows.laid_strconv_isPrint32 : DataW Unit) = Lib.sliceData .u32 Lib.goPrintTabs.p32 from pin_p32]
  exact laidIn_slice (t := 171) (e := 142) (te := 142) Lib.goPrintTabs.p32 (N0 + 4) (by kernel_rfl) (by kernel_rfl) (by kernel_rfl) (by kernel_rfl) (by kernel_rfl) (by kernel_rfl) (by kernel_rfl) (by kernel_rfl) (of_decide_eq_true (by kernel_rfl)) (of_decide_eq_true (by kernel_rfl))
theorem piece9 (os : Os) (args : Array Value) : LaidIn Tryd.prog (memW os args) [("unicode/utf8.first", Rows.laid_unicode_utf8_first)] [2] :=
  LaidIn.of_run [2] 8 (by kernel_rfl) (by kernel_rfl) (by kernel_rfl) (by kernel_rfl)
theorem laid_met (os : Os) (args : Array Value) : laidMet Tryd.prog laidList (memW os args) :=
  (((((((piece0 os args).append (piece4 os args) (by kernel_rfl)).append (piece5 os args) (by kernel_rfl)).append (piece6 os args) (by kernel_rfl)).append (piece7 os args) (by kernel_rfl)).append (piece8 os args) (by kernel_rfl)).append (piece9 os args) (by kernel_rfl)).met
#print axioms laid_met
#print axioms tabs_of_laid
end Go.Proofs.YtombehaaaojhdaaDoor
