/-
  No cell of these rows narrows 'for every input' (looked for: loops, veiled, ifaces, maps, wideKeys, modest, calm, conditions, laid).
  DERIVED. THE GIVEN ROWS OF THIS SEAT. 3 by the template 'for every input the law returns true; each argument reads behind the call as it read before'; 0 by the template 'total and deterministic' (their statements: YtkjononoaabclaaTotals.lean).
  GIVEN WITH THE SEED: the statements are not yours to turn. If you find one false, say at which input.
  Laid BY PROGRAM, IN A SANDBOX (cutbox-rows.mjs): the forced cells as the released guide's own fill.sh prints them over the translation 47209d4a0e18e500… (all of the seat's roots in one cut). By AI agents, Wed Nov 11 2026. No macro, syntax, notation, axiom, sorry.
-/
import Derived.Test.YtkjononoaabclaaChecked
import GoSem.Claim
import GoSem.ClaimJoined
import GoSem.ClaimMapViews
import Derived.JoinedTies
import Derived.KernelRfl
namespace Go.Proofs.Ytkjononoaabclaa
/- THE CELL 'sum', in the pinned program and in every row, IS THE sha256 OF THE DUMP (.gsa) THAT YtkjononoaabclaaProg.lean LOADS. Nothing in Lean hashes anything: it is a label: what it is worth is what the hold of that sum in a sandbox is worth. -/
noncomputable def Try.pinned : Pinned := { name := "ytkjononoaabclaa", sum := "47209d4a0e18e500ba156f64d5bff5e73ec7ee4fbdbfe9269cfc59f0d2590b2c", checked := Try.checked }
namespace Rows
def none {H : Type} : Left H := { results := [], args := [] }

/-- 'trimtablaw20.ProposalGrows': WHATEVER THE INPUT: true; the input reads as it did. -/
def proposalGrowsSpec : ChangeSpec := { name := "proposalGrows", fn := fun _ => fun
  | [d1, d2, d3, d4, d5, d6] => { results := [.lit (.bool true)], args := [d1, d2, d3, d4, d5, d6] }
  | _ => none }
def proposalGrowsRow : OpenClaim := { program := "ytkjononoaabclaa", sum := "47209d4a0e18e500ba156f64d5bff5e73ec7ee4fbdbfe9269cfc59f0d2590b2c", func := "trimtab/trimtablaw20.ProposalGrows", spec := "proposalGrows", inPlace := ["math/bits.Add64"], unfollowed := true, recurses := true, named := ["math/bits.divideError", "math/bits.overflowError"], apart := false }
def ProposalGrowsSaid : Prop := proposalGrowsRow.holds Try.pinned (OpenSpec.ofChange proposalGrowsSpec)

/-- ITS FALSE NEIGHBOUR: 'it returns false'. Refute it at one input. -/
def proposalGrowsWrong : ChangeSpec := { name := "proposalGrows", fn := fun _ => fun
  | [d1, d2, d3, d4, d5, d6] => { results := [.lit (.bool false)], args := [d1, d2, d3, d4, d5, d6] }
  | _ => none }
def ProposalGrowsWrongFalsely : Prop := proposalGrowsRow.holds Try.pinned (OpenSpec.ofChange proposalGrowsWrong)

/-- 'trimtablaw20.ProposalMost': WHATEVER THE INPUT: true; the input reads as it did. -/
def proposalMostSpec : ChangeSpec := { name := "proposalMost", fn := fun _ => fun
  | [d1, d2, d3] => { results := [.lit (.bool true)], args := [d1, d2, d3] }
  | _ => none }
def proposalMostRow : OpenClaim := { program := "ytkjononoaabclaa", sum := "47209d4a0e18e500ba156f64d5bff5e73ec7ee4fbdbfe9269cfc59f0d2590b2c", func := "trimtab/trimtablaw20.ProposalMost", spec := "proposalMost", inPlace := ["math/bits.Add64"], unfollowed := true, recurses := true, named := ["math/bits.divideError", "math/bits.overflowError"], apart := false }
def ProposalMostSaid : Prop := proposalMostRow.holds Try.pinned (OpenSpec.ofChange proposalMostSpec)

/-- ITS FALSE NEIGHBOUR: 'it returns false'. Refute it at one input. -/
def proposalMostWrong : ChangeSpec := { name := "proposalMost", fn := fun _ => fun
  | [d1, d2, d3] => { results := [.lit (.bool false)], args := [d1, d2, d3] }
  | _ => none }
def ProposalMostWrongFalsely : Prop := proposalMostRow.holds Try.pinned (OpenSpec.ofChange proposalMostWrong)

/-- 'trimtablaw20.ProposalOnes': WHATEVER THE INPUT: true; the input reads as it did. -/
def proposalOnesSpec : ChangeSpec := { name := "proposalOnes", fn := fun _ => fun
  | [d1, d2, d3, d4] => { results := [.lit (.bool true)], args := [d1, d2, d3, d4] }
  | _ => none }
def proposalOnesRow : OpenClaim := { program := "ytkjononoaabclaa", sum := "47209d4a0e18e500ba156f64d5bff5e73ec7ee4fbdbfe9269cfc59f0d2590b2c", func := "trimtab/trimtablaw20.ProposalOnes", spec := "proposalOnes", inPlace := ["math/bits.Add64"], unfollowed := true, recurses := true, named := ["math/bits.divideError", "math/bits.overflowError"], apart := false }
def ProposalOnesSaid : Prop := proposalOnesRow.holds Try.pinned (OpenSpec.ofChange proposalOnesSpec)

/-- ITS FALSE NEIGHBOUR: 'it returns false'. Refute it at one input. -/
def proposalOnesWrong : ChangeSpec := { name := "proposalOnes", fn := fun _ => fun
  | [d1, d2, d3, d4] => { results := [.lit (.bool false)], args := [d1, d2, d3, d4] }
  | _ => none }
def ProposalOnesWrongFalsely : Prop := proposalOnesRow.holds Try.pinned (OpenSpec.ofChange proposalOnesWrong)

/- THE SECOND FORM. 'bulk': how many values and letters a reading holds, each counted each time it is reached (what is shared counts as often as it is met; a slice's spare places count too). A statement '..UptoSaid' is the law's where the arguments, and the package variables that the reading takes, are together of bulk at most 1048576: NARROWER than '..Said'. Prove '..Said' where nothing that the law and all that it calls make is longer than what came in: it says more and counts as full. Else prove '..UptoSaid'. A law counts once. -/
mutual
def uptoBulk {H : Type} : DataW H → Nat
  | .lit (.string bytes) => bytes.length + 1
  | .lit _ => 1
  | .nil => 1
  | .ptr d => uptoBulk d + 1
  | .slice elems spare => uptoBulkAll elems + uptoBulkAll spare + 1
  | .agg parts => uptoBulkAll parts + 1
  | .iface _ d => uptoBulk d + 1
  | .map entries => uptoBulkEntries entries + 1
  | .held _ => 1
def uptoBulkAll {H : Type} : List (DataW H) → Nat
  | [] => 0
  | d :: r => uptoBulk d + uptoBulkAll r
def uptoBulkEntries {H : Type} : List (Lit × DataW H) → Nat
  | [] => 0
  | x :: r => uptoBulkEntry x + uptoBulkEntries r
def uptoBulkEntry {H : Type} : Lit × DataW H → Nat
  | (.string bytes, d) => bytes.length + uptoBulk d + 1
  | (_, d) => uptoBulk d + 1
 end
def uptoSmall : (H : Type) → List (DataW H) → Bool := fun _ ds => decide (uptoBulkAll ds ≤ 1048576)
def OpenSpec.upto (s : _root_.Go.ChangeSpec) : _root_.Go.OpenSpec := { _root_.Go.OpenSpec.ofChange s with cond := some uptoSmall }

/-- 'trimtablaw20.ProposalGrows', WHERE WHAT IT READS IS OF BULK AT MOST 1048576: true; the input reads as it did. -/
def proposalGrowsUptoRow : OpenClaim := { program := "ytkjononoaabclaa", sum := "47209d4a0e18e500ba156f64d5bff5e73ec7ee4fbdbfe9269cfc59f0d2590b2c", func := "trimtab/trimtablaw20.ProposalGrows", spec := "proposalGrows", inPlace := ["math/bits.Add64"], unfollowed := true, recurses := true, named := ["math/bits.divideError", "math/bits.overflowError"], apart := false, narrowed := true }
def ProposalGrowsUptoSaid : Prop := proposalGrowsUptoRow.holds Try.pinned (OpenSpec.upto proposalGrowsSpec)

/-- 'trimtablaw20.ProposalMost', WHERE WHAT IT READS IS OF BULK AT MOST 1048576: true; the input reads as it did. -/
def proposalMostUptoRow : OpenClaim := { program := "ytkjononoaabclaa", sum := "47209d4a0e18e500ba156f64d5bff5e73ec7ee4fbdbfe9269cfc59f0d2590b2c", func := "trimtab/trimtablaw20.ProposalMost", spec := "proposalMost", inPlace := ["math/bits.Add64"], unfollowed := true, recurses := true, named := ["math/bits.divideError", "math/bits.overflowError"], apart := false, narrowed := true }
def ProposalMostUptoSaid : Prop := proposalMostUptoRow.holds Try.pinned (OpenSpec.upto proposalMostSpec)

/-- 'trimtablaw20.ProposalOnes', WHERE WHAT IT READS IS OF BULK AT MOST 1048576: true; the input reads as it did. -/
def proposalOnesUptoRow : OpenClaim := { program := "ytkjononoaabclaa", sum := "47209d4a0e18e500ba156f64d5bff5e73ec7ee4fbdbfe9269cfc59f0d2590b2c", func := "trimtab/trimtablaw20.ProposalOnes", spec := "proposalOnes", inPlace := ["math/bits.Add64"], unfollowed := true, recurses := true, named := ["math/bits.divideError", "math/bits.overflowError"], apart := false, narrowed := true }
def ProposalOnesUptoSaid : Prop := proposalOnesUptoRow.holds Try.pinned (OpenSpec.upto proposalOnesSpec)

end Rows
end Go.Proofs.Ytkjononoaabclaa
