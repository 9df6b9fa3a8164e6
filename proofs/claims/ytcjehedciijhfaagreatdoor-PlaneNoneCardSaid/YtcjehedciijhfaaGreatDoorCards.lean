/-
  DERIVED. GIVEN WITH THE SEED: THE CARDS: each row of YtcjehedciijhfaaGreatDoorRows.lean that lists a variable, with what it lists TIED to the program's text (the seventh form; the later family's looks); each row that meets fmt, with fmt's text TOLD by the authors' own Lean function (tested against real Go, not proved from fmt's source: count such statements apart). THE CARD IS WHAT COUNTS. Prove the row's statement (the work); the ties are given (YtcjehedciijhfaaGreatDoorTie.lean); close each card by the builder's one call (the guide's Derived/Test/ToyasCard.lean, 'card_holds'). Laid BY PROGRAM, IN A SANDBOX (cutbox-door.mjs). By AI agents, Wed Nov 11 2026. No macro, syntax, notation, axiom, sorry.
-/
import Derived.Test.YtcjehedciijhfaaGreatDoorRows
import GoSem.ClaimSeven
namespace Go.Proofs.YtcjehedciijhfaaGreatDoor
namespace Rows

/-- THE TIED CARD OF 'trimtablaw24.CloudNone'. -/
def cloudNoneCard : Claim7 := { stood := { row := cloudNoneRow, standIns := [], harness := (true, "f562b26e96790468abf97530cc1f60d04c5951a04483859132e57095ae3af560"), looks := true }, kinds := [], alts := [], laidByText := true, laidKinds := [.data, .data, .data], laidTests := true, laidLooks := .later }
def CloudNoneCardSaid : Prop := Claim7.holds Tryz.pinned (.plain (OpenSpec.ofChange cloudNoneSpec)) cloudNoneCard

/-- THE TIED CARD OF 'trimtablaw28.CaNone'. -/
def caNoneCard : Claim7 := { stood := { row := caNoneRow, standIns := [], harness := (true, "f562b26e96790468abf97530cc1f60d04c5951a04483859132e57095ae3af560"), looks := true }, kinds := [], alts := [], laidByText := true, laidKinds := [.data, .data, .data], laidTests := true, laidLooks := .later }
def CaNoneCardSaid : Prop := Claim7.holds Tryz.pinned (.plain (OpenSpec.ofChange caNoneSpec)) caNoneCard

/-- THE TIED CARD OF 'trimtablaw29.PlaneNone'. -/
def planeNoneCard : Claim7 := { stood := { row := planeNoneRow, standIns := [], harness := (true, "f562b26e96790468abf97530cc1f60d04c5951a04483859132e57095ae3af560"), looks := true }, kinds := [], alts := [], laidByText := true, laidKinds := [.data, .data, .data], laidTests := true, laidLooks := .later }
def PlaneNoneCardSaid : Prop := Claim7.holds Tryz.pinned (.plain (OpenSpec.ofChange planeNoneSpec)) planeNoneCard

/-- THE SECOND FORM's CARD OF 'trimtablaw24.CloudNone'. -/
def cloudNoneUptoCard : Claim7 := { stood := { row := cloudNoneUptoRow, standIns := [], harness := (true, "f562b26e96790468abf97530cc1f60d04c5951a04483859132e57095ae3af560"), looks := true }, kinds := [], alts := [], laidByText := true, laidKinds := [.data, .data, .data], laidTests := true, laidLooks := .later }
def CloudNoneUptoCardSaid : Prop := Claim7.holds Tryz.pinned (.plain (OpenSpec.upto cloudNoneSpec)) cloudNoneUptoCard

/-- THE SECOND FORM's CARD OF 'trimtablaw28.CaNone'. -/
def caNoneUptoCard : Claim7 := { stood := { row := caNoneUptoRow, standIns := [], harness := (true, "f562b26e96790468abf97530cc1f60d04c5951a04483859132e57095ae3af560"), looks := true }, kinds := [], alts := [], laidByText := true, laidKinds := [.data, .data, .data], laidTests := true, laidLooks := .later }
def CaNoneUptoCardSaid : Prop := Claim7.holds Tryz.pinned (.plain (OpenSpec.upto caNoneSpec)) caNoneUptoCard

/-- THE SECOND FORM's CARD OF 'trimtablaw29.PlaneNone'. -/
def planeNoneUptoCard : Claim7 := { stood := { row := planeNoneUptoRow, standIns := [], harness := (true, "f562b26e96790468abf97530cc1f60d04c5951a04483859132e57095ae3af560"), looks := true }, kinds := [], alts := [], laidByText := true, laidKinds := [.data, .data, .data], laidTests := true, laidLooks := .later }
def PlaneNoneUptoCardSaid : Prop := Claim7.holds Tryz.pinned (.plain (OpenSpec.upto planeNoneSpec)) planeNoneUptoCard
end Rows
end Go.Proofs.YtcjehedciijhfaaGreatDoor
