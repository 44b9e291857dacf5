/-
  DERIVED. GIVEN WITH THE SEED: THE CARDS: each row of YtombehaaaojhdaaDoorRows.lean that lists a variable, with what it lists TIED to the program's text (the seventh form; the later family's looks); each row that meets fmt, with fmt's text TOLD by the authors' own Lean function (tested against real Go, not proved from fmt's source: count such statements apart). THE CARD IS WHAT COUNTS. Prove the row's statement (the work); the ties are given (YtombehaaaojhdaaDoorTie.lean); close each card by the builder's one call (the guide's Derived/Test/ToyasCard.lean, 'card_holds'). Laid BY PROGRAM, IN A SANDBOX (cutbox-door.mjs). By AI agents, Wed Nov 11 2026. No macro, syntax, notation, axiom, sorry.
-/
import Derived.Test.YtombehaaaojhdaaDoorRows
import GoSem.ClaimSeven
namespace Go.Proofs.YtombehaaaojhdaaDoor
namespace Rows

/-- THE TIED CARD OF 'tephralaw20.ViewRefs'. -/
def viewRefsCard : Claim7 := { stood := { row := viewRefsRow, standIns := [], harness := (true, "8405a7eab8648359cf52c9300b8a9388c1f9526720e963913c91f94edb345ceb"), looks := false }, kinds := [], alts := [], laidByText := true, laidKinds := [.data, .data, .data, .data, .pinned, .pinned, .pinned, .pinned, .pinned, .pinned], laidTests := true, laidLooks := .later }
def ViewRefsCardSaid : Prop := Claim7.holds Tryd.pinned (.plain (OpenSpec.ofChange viewRefsSpec)) viewRefsCard

/-- THE TIED CARD OF 'tephralaw20.ViewState'. -/
def viewStateCard : Claim7 := { stood := { row := viewStateRow, standIns := [], harness := (true, "8405a7eab8648359cf52c9300b8a9388c1f9526720e963913c91f94edb345ceb"), looks := false }, kinds := [], alts := [], laidByText := true, laidKinds := [.data, .data, .data, .data, .pinned, .pinned, .pinned, .pinned, .pinned, .pinned], laidTests := true, laidLooks := .later }
def ViewStateCardSaid : Prop := Claim7.holds Tryd.pinned (.plain (OpenSpec.ofChange viewStateSpec)) viewStateCard

/-- THE TIED CARD OF 'tephralaw20.ViewApart'. -/
def viewApartCard : Claim7 := { stood := { row := viewApartRow, standIns := [], harness := (true, "8405a7eab8648359cf52c9300b8a9388c1f9526720e963913c91f94edb345ceb"), looks := false }, kinds := [], alts := [], laidByText := true, laidKinds := [.data, .data, .data, .data, .pinned, .pinned, .pinned, .pinned, .pinned, .pinned], laidTests := true, laidLooks := .later }
def ViewApartCardSaid : Prop := Claim7.holds Tryd.pinned (.plain (OpenSpec.ofChange viewApartSpec)) viewApartCard

/-- THE SECOND FORM's CARD OF 'tephralaw20.ViewRefs'. -/
def viewRefsUptoCard : Claim7 := { stood := { row := viewRefsUptoRow, standIns := [], harness := (true, "8405a7eab8648359cf52c9300b8a9388c1f9526720e963913c91f94edb345ceb"), looks := false }, kinds := [], alts := [], laidByText := true, laidKinds := [.data, .data, .data, .data, .pinned, .pinned, .pinned, .pinned, .pinned, .pinned], laidTests := true, laidLooks := .later }
def ViewRefsUptoCardSaid : Prop := Claim7.holds Tryd.pinned (.plain (OpenSpec.upto viewRefsSpec)) viewRefsUptoCard

/-- THE SECOND FORM's CARD OF 'tephralaw20.ViewState'. -/
def viewStateUptoCard : Claim7 := { stood := { row := viewStateUptoRow, standIns := [], harness := (true, "8405a7eab8648359cf52c9300b8a9388c1f9526720e963913c91f94edb345ceb"), looks := false }, kinds := [], alts := [], laidByText := true, laidKinds := [.data, .data, .data, .data, .pinned, .pinned, .pinned, .pinned, .pinned, .pinned], laidTests := true, laidLooks := .later }
def ViewStateUptoCardSaid : Prop := Claim7.holds Tryd.pinned (.plain (OpenSpec.upto viewStateSpec)) viewStateUptoCard

/-- THE SECOND FORM's CARD OF 'tephralaw20.ViewApart'. -/
def viewApartUptoCard : Claim7 := { stood := { row := viewApartUptoRow, standIns := [], harness := (true, "8405a7eab8648359cf52c9300b8a9388c1f9526720e963913c91f94edb345ceb"), looks := false }, kinds := [], alts := [], laidByText := true, laidKinds := [.data, .data, .data, .data, .pinned, .pinned, .pinned, .pinned, .pinned, .pinned], laidTests := true, laidLooks := .later }
def ViewApartUptoCardSaid : Prop := Claim7.holds Tryd.pinned (.plain (OpenSpec.upto viewApartSpec)) viewApartUptoCard
end Rows
end Go.Proofs.YtombehaaaojhdaaDoor
