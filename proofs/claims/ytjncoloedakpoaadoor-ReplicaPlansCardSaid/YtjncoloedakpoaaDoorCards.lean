/-
  DERIVED. GIVEN WITH THE SEED: THE CARDS: each row of YtjncoloedakpoaaDoorRows.lean that lists a variable, with what it lists TIED to the program's text (the seventh form; the later family's looks); each row that meets fmt, with fmt's text TOLD by the authors' own Lean function (tested against real Go, not proved from fmt's source: count such statements apart). THE CARD IS WHAT COUNTS. Prove the row's statement (the work); the ties are given (YtjncoloedakpoaaDoorTie.lean); close each card by the builder's one call (the guide's Derived/Test/ToyasCard.lean, 'card_holds'). Laid BY PROGRAM, IN A SANDBOX (cutbox-door.mjs). By AI agents, Wed Nov 11 2026. No macro, syntax, notation, axiom, sorry.
-/
import Derived.Test.YtjncoloedakpoaaDoorRows
import GoSem.ClaimSeven
namespace Go.Proofs.YtjncoloedakpoaaDoor
namespace Rows

/-- THE TIED CARD OF 'trimtablaw16.ReplicaPlans'. -/
def replicaPlansCard : Claim7 := { stood := { row := replicaPlansRow, standIns := [], harness := (true, "c6a7f7a2662e84c38177165550864d9628da6fdc0b1acc9e66a88ed025f74a09"), looks := false }, kinds := [], alts := [], laidByText := true, laidKinds := [.data, .data, .data], laidTests := true, laidLooks := .later }
def ReplicaPlansCardSaid : Prop := Claim7.holds Tryd.pinned (.plain (OpenSpec.ofChange replicaPlansSpec)) replicaPlansCard

/-- THE SECOND FORM's CARD OF 'trimtablaw16.ReplicaPlans'. -/
def replicaPlansUptoCard : Claim7 := { stood := { row := replicaPlansUptoRow, standIns := [], harness := (true, "c6a7f7a2662e84c38177165550864d9628da6fdc0b1acc9e66a88ed025f74a09"), looks := false }, kinds := [], alts := [], laidByText := true, laidKinds := [.data, .data, .data], laidTests := true, laidLooks := .later }
def ReplicaPlansUptoCardSaid : Prop := Claim7.holds Tryd.pinned (.plain (OpenSpec.upto replicaPlansSpec)) replicaPlansUptoCard
end Rows
end Go.Proofs.YtjncoloedakpoaaDoor
