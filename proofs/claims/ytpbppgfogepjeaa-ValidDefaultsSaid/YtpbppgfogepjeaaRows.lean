/-
  No cell of these rows narrows 'for every input' (looked for: loops, veiled, ifaces, maps, wideKeys, modest, calm, conditions, laid).
  DERIVED. THE GIVEN ROWS OF THIS SEAT. 3 by the template 'for every input the law returns true; each argument reads behind the call as it read before'; 0 by the template 'total and deterministic' (their statements: YtpbppgfogepjeaaTotals.lean).
  GIVEN WITH THE SEED: the statements are not yours to turn. If you find one false, say at which input.
  Laid BY PROGRAM, IN A SANDBOX (cutbox-rows.mjs): the forced cells as the released guide's own fill.sh prints them over the translation 4a332466a1c9c96d… (all of the seat's roots in one cut). By AI agents, Wed Nov 11 2026. No macro, syntax, notation, axiom, sorry.
-/
import Derived.Test.YtpbppgfogepjeaaChecked
import GoSem.Claim
import GoSem.ClaimJoined
import GoSem.ClaimMapViews
import Derived.JoinedTies
import Derived.KernelRfl
namespace Go.Proofs.Ytpbppgfogepjeaa
/- THE CELL 'sum', in the pinned program and in every row, IS THE sha256 OF THE DUMP (.gsa) THAT YtpbppgfogepjeaaProg.lean LOADS. Nothing in Lean hashes anything: it is a label: what it is worth is what the hold of that sum in a sandbox is worth. -/
noncomputable def Try.pinned : Pinned := { name := "ytpbppgfogepjeaa", sum := "4a332466a1c9c96de4791899f445f66448d7876951345f7f1c689f1f0b0f9d55", checked := Try.checked }
namespace Rows
def none {H : Type} : Left H := { results := [], args := [] }

/-- 'trimtablaw07.ValidDefaults': WHATEVER THE INPUT: true; the input reads as it did. -/
def validDefaultsSpec : ChangeSpec := { name := "validDefaults", fn := fun _ => fun
  | [d] => { results := [.lit (.bool true)], args := [d] }
  | _ => none }
def validDefaultsRow : OpenClaim := { program := "ytpbppgfogepjeaa", sum := "4a332466a1c9c96de4791899f445f66448d7876951345f7f1c689f1f0b0f9d55", func := "trimtab/trimtablaw07.ValidDefaults", spec := "validDefaults", unfollowed := true, recurses := true, apart := false }
def ValidDefaultsSaid : Prop := validDefaultsRow.holds Try.pinned (OpenSpec.ofChange validDefaultsSpec)

/-- ITS FALSE NEIGHBOUR: 'it returns false'. Refute it at one input. -/
def validDefaultsWrong : ChangeSpec := { name := "validDefaults", fn := fun _ => fun
  | [d] => { results := [.lit (.bool false)], args := [d] }
  | _ => none }
def ValidDefaultsWrongFalsely : Prop := validDefaultsRow.holds Try.pinned (OpenSpec.ofChange validDefaultsWrong)

/-- 'trimtablaw17.RoomPuts': WHATEVER THE INPUT: true; the input reads as it did. -/
def roomPutsSpec : ChangeSpec := { name := "roomPuts", fn := fun _ => fun
  | [d1, d2, d3] => { results := [.lit (.bool true)], args := [d1, d2, d3] }
  | _ => none }
def roomPutsRow : OpenClaim := { program := "ytpbppgfogepjeaa", sum := "4a332466a1c9c96de4791899f445f66448d7876951345f7f1c689f1f0b0f9d55", func := "trimtab/trimtablaw17.RoomPuts", spec := "roomPuts", inPlace := ["math/bits.Add64"], unfollowed := true, recurses := true, named := ["math/bits.divideError", "math/bits.overflowError"], apart := false }
def RoomPutsSaid : Prop := roomPutsRow.holds Try.pinned (OpenSpec.ofChange roomPutsSpec)

/-- ITS FALSE NEIGHBOUR: 'it returns false'. Refute it at one input. -/
def roomPutsWrong : ChangeSpec := { name := "roomPuts", fn := fun _ => fun
  | [d1, d2, d3] => { results := [.lit (.bool false)], args := [d1, d2, d3] }
  | _ => none }
def RoomPutsWrongFalsely : Prop := roomPutsRow.holds Try.pinned (OpenSpec.ofChange roomPutsWrong)

/-- 'trimtablaw35.RolloutPlans': WHATEVER THE INPUT: true; the input reads as it did. -/
def rolloutPlansSpec : ChangeSpec := { name := "rolloutPlans", fn := fun _ => fun
  | [d1, d2, d3] => { results := [.lit (.bool true)], args := [d1, d2, d3] }
  | _ => none }
def rolloutPlansRow : OpenClaim := { program := "ytpbppgfogepjeaa", sum := "4a332466a1c9c96de4791899f445f66448d7876951345f7f1c689f1f0b0f9d55", func := "trimtab/trimtablaw35.RolloutPlans", spec := "rolloutPlans", unfollowed := true, recurses := true, apart := false }
def RolloutPlansSaid : Prop := rolloutPlansRow.holds Try.pinned (OpenSpec.ofChange rolloutPlansSpec)

/-- ITS FALSE NEIGHBOUR: 'it returns false'. Refute it at one input. -/
def rolloutPlansWrong : ChangeSpec := { name := "rolloutPlans", fn := fun _ => fun
  | [d1, d2, d3] => { results := [.lit (.bool false)], args := [d1, d2, d3] }
  | _ => none }
def RolloutPlansWrongFalsely : Prop := rolloutPlansRow.holds Try.pinned (OpenSpec.ofChange rolloutPlansWrong)

/- THE SECOND FORM. 'bulk': how many values and letters a reading holds, each counted each time it is reached (what is shared counts as often as it is met; a slice's spare places count too). A statement '..UptoSaid' is the law's where the arguments, and the package variables that the reading takes, are together of bulk at most 1048576: NARROWER than '..Said'. Prove '..Said' where nothing that the law and all that it calls make is longer than what came in: it says more and counts as full. Else prove '..UptoSaid'. A law counts once. -/
mutual
def uptoBulk {H : Type} : DataW H → Nat
  | .lit (.string bytes) => bytes.length + 1
  | .lit _ => 1
  | .nil => 1
  | .ptr d => uptoBulk d + 1
  | .slice elems spare => uptoBulkAll elems + uptoBulkAll spare + 1
  | .agg parts => uptoBulkAll parts + 1
  | .iface _ d => uptoBulk d + 1
  | .map entries => uptoBulkEntries entries + 1
  | .held _ => 1
def uptoBulkAll {H : Type} : List (DataW H) → Nat
  | [] => 0
  | d :: r => uptoBulk d + uptoBulkAll r
def uptoBulkEntries {H : Type} : List (Lit × DataW H) → Nat
  | [] => 0
  | x :: r => uptoBulkEntry x + uptoBulkEntries r
def uptoBulkEntry {H : Type} : Lit × DataW H → Nat
  | (.string bytes, d) => bytes.length + uptoBulk d + 1
  | (_, d) => uptoBulk d + 1
 end
def uptoSmall : (H : Type) → List (DataW H) → Bool := fun _ ds => decide (uptoBulkAll ds ≤ 1048576)
def OpenSpec.upto (s : _root_.Go.ChangeSpec) : _root_.Go.OpenSpec := { _root_.Go.OpenSpec.ofChange s with cond := some uptoSmall }

/-- 'trimtablaw07.ValidDefaults', WHERE WHAT IT READS IS OF BULK AT MOST 1048576: true; the input reads as it did. -/
def validDefaultsUptoRow : OpenClaim := { program := "ytpbppgfogepjeaa", sum := "4a332466a1c9c96de4791899f445f66448d7876951345f7f1c689f1f0b0f9d55", func := "trimtab/trimtablaw07.ValidDefaults", spec := "validDefaults", unfollowed := true, recurses := true, apart := false, narrowed := true }
def ValidDefaultsUptoSaid : Prop := validDefaultsUptoRow.holds Try.pinned (OpenSpec.upto validDefaultsSpec)

/-- 'trimtablaw17.RoomPuts', WHERE WHAT IT READS IS OF BULK AT MOST 1048576: true; the input reads as it did. -/
def roomPutsUptoRow : OpenClaim := { program := "ytpbppgfogepjeaa", sum := "4a332466a1c9c96de4791899f445f66448d7876951345f7f1c689f1f0b0f9d55", func := "trimtab/trimtablaw17.RoomPuts", spec := "roomPuts", inPlace := ["math/bits.Add64"], unfollowed := true, recurses := true, named := ["math/bits.divideError", "math/bits.overflowError"], apart := false, narrowed := true }
def RoomPutsUptoSaid : Prop := roomPutsUptoRow.holds Try.pinned (OpenSpec.upto roomPutsSpec)

/-- 'trimtablaw35.RolloutPlans', WHERE WHAT IT READS IS OF BULK AT MOST 1048576: true; the input reads as it did. -/
def rolloutPlansUptoRow : OpenClaim := { program := "ytpbppgfogepjeaa", sum := "4a332466a1c9c96de4791899f445f66448d7876951345f7f1c689f1f0b0f9d55", func := "trimtab/trimtablaw35.RolloutPlans", spec := "rolloutPlans", unfollowed := true, recurses := true, apart := false, narrowed := true }
def RolloutPlansUptoSaid : Prop := rolloutPlansUptoRow.holds Try.pinned (OpenSpec.upto rolloutPlansSpec)

end Rows
end Go.Proofs.Ytpbppgfogepjeaa
