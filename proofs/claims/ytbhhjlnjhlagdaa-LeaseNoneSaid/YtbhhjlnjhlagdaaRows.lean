/-
  No cell of these rows narrows 'for every input' (looked for: loops, veiled, ifaces, maps, wideKeys, modest, calm, conditions, laid).
  DERIVED. THE GIVEN ROWS OF THIS SEAT. 12 by the template 'for every input the law returns true; each argument reads behind the call as it read before'; 0 by the template 'total and deterministic' (their statements: YtbhhjlnjhlagdaaTotals.lean).
  GIVEN WITH THE SEED: the statements are not yours to turn. If you find one false, say at which input.
  Laid BY PROGRAM, IN A SANDBOX (cutbox-rows.mjs): the forced cells as the released guide's own fill.sh prints them over the translation a56d59f2e0bf8cf5… (all of the seat's roots in one cut). By AI agents, Wed Nov 11 2026. No macro, syntax, notation, axiom, sorry.
-/
import Derived.Test.YtbhhjlnjhlagdaaChecked
import GoSem.Claim
import GoSem.ClaimJoined
import GoSem.ClaimMapViews
import Derived.JoinedTies
import Derived.KernelRfl
namespace Go.Proofs.Ytbhhjlnjhlagdaa
/- THE CELL 'sum', in the pinned program and in every row, IS THE sha256 OF THE DUMP (.gsa) THAT YtbhhjlnjhlagdaaProg.lean LOADS. Nothing in Lean hashes anything: it is a label: what it is worth is what the hold of that sum in a sandbox is worth. -/
noncomputable def Try.pinned : Pinned := { name := "ytbhhjlnjhlagdaa", sum := "a56d59f2e0bf8cf555e2c7af62ed2d772338bcc869cfaaf284e59efba685b17c", checked := Try.checked }
namespace Rows
def none {H : Type} : Left H := { results := [], args := [] }

/-- 'trimtablaw45.ReplayFirst': WHATEVER THE INPUT: true; the input reads as it did. -/
def replayFirstSpec : ChangeSpec := { name := "replayFirst", fn := fun _ => fun
  | [d1, d2] => { results := [.lit (.bool true)], args := [d1, d2] }
  | _ => none }
def replayFirstRow : OpenClaim := { program := "ytbhhjlnjhlagdaa", sum := "a56d59f2e0bf8cf555e2c7af62ed2d772338bcc869cfaaf284e59efba685b17c", func := "trimtab/trimtablaw45.ReplayFirst", spec := "replayFirst", apart := false }
def ReplayFirstSaid : Prop := replayFirstRow.holds Try.pinned (OpenSpec.ofChange replayFirstSpec)

/-- ITS FALSE NEIGHBOUR: 'it returns false'. Refute it at one input. -/
def replayFirstWrong : ChangeSpec := { name := "replayFirst", fn := fun _ => fun
  | [d1, d2] => { results := [.lit (.bool false)], args := [d1, d2] }
  | _ => none }
def ReplayFirstWrongFalsely : Prop := replayFirstRow.holds Try.pinned (OpenSpec.ofChange replayFirstWrong)

/-- 'trimtablaw05.LabelMatches': WHATEVER THE INPUT: true; the input reads as it did. -/
def labelMatchesSpec : ChangeSpec := { name := "labelMatches", fn := fun _ => fun
  | [d1, d2, d3, d4] => { results := [.lit (.bool true)], args := [d1, d2, d3, d4] }
  | _ => none }
def labelMatchesRow : OpenClaim := { program := "ytbhhjlnjhlagdaa", sum := "a56d59f2e0bf8cf555e2c7af62ed2d772338bcc869cfaaf284e59efba685b17c", func := "trimtab/trimtablaw05.LabelMatches", spec := "labelMatches", unfollowed := true, recurses := true, apart := false }
def LabelMatchesSaid : Prop := labelMatchesRow.holds Try.pinned (OpenSpec.ofChange labelMatchesSpec)

/-- ITS FALSE NEIGHBOUR: 'it returns false'. Refute it at one input. -/
def labelMatchesWrong : ChangeSpec := { name := "labelMatches", fn := fun _ => fun
  | [d1, d2, d3, d4] => { results := [.lit (.bool false)], args := [d1, d2, d3, d4] }
  | _ => none }
def LabelMatchesWrongFalsely : Prop := labelMatchesRow.holds Try.pinned (OpenSpec.ofChange labelMatchesWrong)

/-- 'trimtablaw05.LabelSorts': WHATEVER THE INPUT: true; the input reads as it did. -/
def labelSortsSpec : ChangeSpec := { name := "labelSorts", fn := fun _ => fun
  | [d1, d2] => { results := [.lit (.bool true)], args := [d1, d2] }
  | _ => none }
def labelSortsRow : OpenClaim := { program := "ytbhhjlnjhlagdaa", sum := "a56d59f2e0bf8cf555e2c7af62ed2d772338bcc869cfaaf284e59efba685b17c", func := "trimtab/trimtablaw05.LabelSorts", spec := "labelSorts", unfollowed := true, recurses := true, apart := false }
def LabelSortsSaid : Prop := labelSortsRow.holds Try.pinned (OpenSpec.ofChange labelSortsSpec)

/-- ITS FALSE NEIGHBOUR: 'it returns false'. Refute it at one input. -/
def labelSortsWrong : ChangeSpec := { name := "labelSorts", fn := fun _ => fun
  | [d1, d2] => { results := [.lit (.bool false)], args := [d1, d2] }
  | _ => none }
def LabelSortsWrongFalsely : Prop := labelSortsRow.holds Try.pinned (OpenSpec.ofChange labelSortsWrong)

/-- 'trimtablaw05.LabelMerges': WHATEVER THE INPUT: true; the input reads as it did. -/
def labelMergesSpec : ChangeSpec := { name := "labelMerges", fn := fun _ => fun
  | [d1, d2] => { results := [.lit (.bool true)], args := [d1, d2] }
  | _ => none }
def labelMergesRow : OpenClaim := { program := "ytbhhjlnjhlagdaa", sum := "a56d59f2e0bf8cf555e2c7af62ed2d772338bcc869cfaaf284e59efba685b17c", func := "trimtab/trimtablaw05.LabelMerges", spec := "labelMerges", unfollowed := true, recurses := true, apart := false }
def LabelMergesSaid : Prop := labelMergesRow.holds Try.pinned (OpenSpec.ofChange labelMergesSpec)

/-- ITS FALSE NEIGHBOUR: 'it returns false'. Refute it at one input. -/
def labelMergesWrong : ChangeSpec := { name := "labelMerges", fn := fun _ => fun
  | [d1, d2] => { results := [.lit (.bool false)], args := [d1, d2] }
  | _ => none }
def LabelMergesWrongFalsely : Prop := labelMergesRow.holds Try.pinned (OpenSpec.ofChange labelMergesWrong)

/-- 'trimtablaw12.RateParts': WHATEVER THE INPUT: true; the input reads as it did. -/
def ratePartsSpec : ChangeSpec := { name := "rateParts", fn := fun _ => fun
  | [d1, d2] => { results := [.lit (.bool true)], args := [d1, d2] }
  | _ => none }
def ratePartsRow : OpenClaim := { program := "ytbhhjlnjhlagdaa", sum := "a56d59f2e0bf8cf555e2c7af62ed2d772338bcc869cfaaf284e59efba685b17c", func := "trimtab/trimtablaw12.RateParts", spec := "rateParts", unfollowed := true, recurses := true, apart := false }
def RatePartsSaid : Prop := ratePartsRow.holds Try.pinned (OpenSpec.ofChange ratePartsSpec)

/-- ITS FALSE NEIGHBOUR: 'it returns false'. Refute it at one input. -/
def ratePartsWrong : ChangeSpec := { name := "rateParts", fn := fun _ => fun
  | [d1, d2] => { results := [.lit (.bool false)], args := [d1, d2] }
  | _ => none }
def RatePartsWrongFalsely : Prop := ratePartsRow.holds Try.pinned (OpenSpec.ofChange ratePartsWrong)

/-- 'trimtablaw12.RateGrows': WHATEVER THE INPUT: true; the input reads as it did. -/
def rateGrowsSpec : ChangeSpec := { name := "rateGrows", fn := fun _ => fun
  | [d1, d2] => { results := [.lit (.bool true)], args := [d1, d2] }
  | _ => none }
def rateGrowsRow : OpenClaim := { program := "ytbhhjlnjhlagdaa", sum := "a56d59f2e0bf8cf555e2c7af62ed2d772338bcc869cfaaf284e59efba685b17c", func := "trimtab/trimtablaw12.RateGrows", spec := "rateGrows", unfollowed := true, recurses := true, apart := false }
def RateGrowsSaid : Prop := rateGrowsRow.holds Try.pinned (OpenSpec.ofChange rateGrowsSpec)

/-- ITS FALSE NEIGHBOUR: 'it returns false'. Refute it at one input. -/
def rateGrowsWrong : ChangeSpec := { name := "rateGrows", fn := fun _ => fun
  | [d1, d2] => { results := [.lit (.bool false)], args := [d1, d2] }
  | _ => none }
def RateGrowsWrongFalsely : Prop := rateGrowsRow.holds Try.pinned (OpenSpec.ofChange rateGrowsWrong)

/-- 'trimtablaw21.WindowHolds': WHATEVER THE INPUT: true; the input reads as it did. -/
def windowHoldsSpec : ChangeSpec := { name := "windowHolds", fn := fun _ => fun
  | [d1, d2, d3, d4] => { results := [.lit (.bool true)], args := [d1, d2, d3, d4] }
  | _ => none }
def windowHoldsRow : OpenClaim := { program := "ytbhhjlnjhlagdaa", sum := "a56d59f2e0bf8cf555e2c7af62ed2d772338bcc869cfaaf284e59efba685b17c", func := "trimtab/trimtablaw21.WindowHolds", spec := "windowHolds", unfollowed := true, recurses := true, apart := false }
def WindowHoldsSaid : Prop := windowHoldsRow.holds Try.pinned (OpenSpec.ofChange windowHoldsSpec)

/-- ITS FALSE NEIGHBOUR: 'it returns false'. Refute it at one input. -/
def windowHoldsWrong : ChangeSpec := { name := "windowHolds", fn := fun _ => fun
  | [d1, d2, d3, d4] => { results := [.lit (.bool false)], args := [d1, d2, d3, d4] }
  | _ => none }
def WindowHoldsWrongFalsely : Prop := windowHoldsRow.holds Try.pinned (OpenSpec.ofChange windowHoldsWrong)

/-- 'trimtablaw21.WindowTells': WHATEVER THE INPUT: true; the input reads as it did. -/
def windowTellsSpec : ChangeSpec := { name := "windowTells", fn := fun _ => fun
  | [d1, d2, d3, d4, d5] => { results := [.lit (.bool true)], args := [d1, d2, d3, d4, d5] }
  | _ => none }
def windowTellsRow : OpenClaim := { program := "ytbhhjlnjhlagdaa", sum := "a56d59f2e0bf8cf555e2c7af62ed2d772338bcc869cfaaf284e59efba685b17c", func := "trimtab/trimtablaw21.WindowTells", spec := "windowTells", unfollowed := true, recurses := true, apart := false }
def WindowTellsSaid : Prop := windowTellsRow.holds Try.pinned (OpenSpec.ofChange windowTellsSpec)

/-- ITS FALSE NEIGHBOUR: 'it returns false'. Refute it at one input. -/
def windowTellsWrong : ChangeSpec := { name := "windowTells", fn := fun _ => fun
  | [d1, d2, d3, d4, d5] => { results := [.lit (.bool false)], args := [d1, d2, d3, d4, d5] }
  | _ => none }
def WindowTellsWrongFalsely : Prop := windowTellsRow.holds Try.pinned (OpenSpec.ofChange windowTellsWrong)

/-- 'trimtablaw21.WindowNone': WHATEVER THE INPUT: true; the input reads as it did. -/
def windowNoneSpec : ChangeSpec := { name := "windowNone", fn := fun _ => fun
  | [d1, d2, d3, d4] => { results := [.lit (.bool true)], args := [d1, d2, d3, d4] }
  | _ => none }
def windowNoneRow : OpenClaim := { program := "ytbhhjlnjhlagdaa", sum := "a56d59f2e0bf8cf555e2c7af62ed2d772338bcc869cfaaf284e59efba685b17c", func := "trimtab/trimtablaw21.WindowNone", spec := "windowNone", unfollowed := true, recurses := true, apart := false }
def WindowNoneSaid : Prop := windowNoneRow.holds Try.pinned (OpenSpec.ofChange windowNoneSpec)

/-- ITS FALSE NEIGHBOUR: 'it returns false'. Refute it at one input. -/
def windowNoneWrong : ChangeSpec := { name := "windowNone", fn := fun _ => fun
  | [d1, d2, d3, d4] => { results := [.lit (.bool false)], args := [d1, d2, d3, d4] }
  | _ => none }
def WindowNoneWrongFalsely : Prop := windowNoneRow.holds Try.pinned (OpenSpec.ofChange windowNoneWrong)

/-- 'trimtablaw36.LeaseAlone': WHATEVER THE INPUT: true; the input reads as it did. -/
def leaseAloneSpec : ChangeSpec := { name := "leaseAlone", fn := fun _ => fun
  | [d] => { results := [.lit (.bool true)], args := [d] }
  | _ => none }
def leaseAloneRow : OpenClaim := { program := "ytbhhjlnjhlagdaa", sum := "a56d59f2e0bf8cf555e2c7af62ed2d772338bcc869cfaaf284e59efba685b17c", func := "trimtab/trimtablaw36.LeaseAlone", spec := "leaseAlone", apart := false }
def LeaseAloneSaid : Prop := leaseAloneRow.holds Try.pinned (OpenSpec.ofChange leaseAloneSpec)

/-- ITS FALSE NEIGHBOUR: 'it returns false'. Refute it at one input. -/
def leaseAloneWrong : ChangeSpec := { name := "leaseAlone", fn := fun _ => fun
  | [d] => { results := [.lit (.bool false)], args := [d] }
  | _ => none }
def LeaseAloneWrongFalsely : Prop := leaseAloneRow.holds Try.pinned (OpenSpec.ofChange leaseAloneWrong)

/-- 'trimtablaw36.LeasePlays': WHATEVER THE INPUT: true; the input reads as it did. -/
def leasePlaysSpec : ChangeSpec := { name := "leasePlays", fn := fun _ => fun
  | [d] => { results := [.lit (.bool true)], args := [d] }
  | _ => none }
def leasePlaysRow : OpenClaim := { program := "ytbhhjlnjhlagdaa", sum := "a56d59f2e0bf8cf555e2c7af62ed2d772338bcc869cfaaf284e59efba685b17c", func := "trimtab/trimtablaw36.LeasePlays", spec := "leasePlays", inPlace := ["maps.clone"], unfollowed := true, recurses := true, apart := false }
def LeasePlaysSaid : Prop := leasePlaysRow.holds Try.pinned (OpenSpec.ofChange leasePlaysSpec)

/-- ITS FALSE NEIGHBOUR: 'it returns false'. Refute it at one input. -/
def leasePlaysWrong : ChangeSpec := { name := "leasePlays", fn := fun _ => fun
  | [d] => { results := [.lit (.bool false)], args := [d] }
  | _ => none }
def LeasePlaysWrongFalsely : Prop := leasePlaysRow.holds Try.pinned (OpenSpec.ofChange leasePlaysWrong)

/-- 'trimtablaw36.LeaseNone': WHATEVER THE INPUT: true; the input reads as it did. -/
def leaseNoneSpec : ChangeSpec := { name := "leaseNone", fn := fun _ => fun
  | [d1, d2, d3] => { results := [.lit (.bool true)], args := [d1, d2, d3] }
  | _ => none }
def leaseNoneRow : OpenClaim := { program := "ytbhhjlnjhlagdaa", sum := "a56d59f2e0bf8cf555e2c7af62ed2d772338bcc869cfaaf284e59efba685b17c", func := "trimtab/trimtablaw36.LeaseNone", spec := "leaseNone", inPlace := ["maps.clone"], unfollowed := true, recurses := true, apart := false }
def LeaseNoneSaid : Prop := leaseNoneRow.holds Try.pinned (OpenSpec.ofChange leaseNoneSpec)

/-- ITS FALSE NEIGHBOUR: 'it returns false'. Refute it at one input. -/
def leaseNoneWrong : ChangeSpec := { name := "leaseNone", fn := fun _ => fun
  | [d1, d2, d3] => { results := [.lit (.bool false)], args := [d1, d2, d3] }
  | _ => none }
def LeaseNoneWrongFalsely : Prop := leaseNoneRow.holds Try.pinned (OpenSpec.ofChange leaseNoneWrong)

/- THE SECOND FORM. 'bulk': how many values and letters a reading holds, each counted each time it is reached (what is shared counts as often as it is met; a slice's spare places count too). A statement '..UptoSaid' is the law's where the arguments, and the package variables that the reading takes, are together of bulk at most 1048576: NARROWER than '..Said'. Prove '..Said' where nothing that the law and all that it calls make is longer than what came in: it says more and counts as full. Else prove '..UptoSaid'. A law counts once. -/
mutual
def uptoBulk {H : Type} : DataW H → Nat
  | .lit (.string bytes) => bytes.length + 1
  | .lit _ => 1
  | .nil => 1
  | .ptr d => uptoBulk d + 1
  | .slice elems spare => uptoBulkAll elems + uptoBulkAll spare + 1
  | .agg parts => uptoBulkAll parts + 1
  | .iface _ d => uptoBulk d + 1
  | .map entries => uptoBulkEntries entries + 1
  | .held _ => 1
def uptoBulkAll {H : Type} : List (DataW H) → Nat
  | [] => 0
  | d :: r => uptoBulk d + uptoBulkAll r
def uptoBulkEntries {H : Type} : List (Lit × DataW H) → Nat
  | [] => 0
  | x :: r => uptoBulkEntry x + uptoBulkEntries r
def uptoBulkEntry {H : Type} : Lit × DataW H → Nat
  | (.string bytes, d) => bytes.length + uptoBulk d + 1
  | (_, d) => uptoBulk d + 1
 end
def uptoSmall : (H : Type) → List (DataW H) → Bool := fun _ ds => decide (uptoBulkAll ds ≤ 1048576)
def OpenSpec.upto (s : _root_.Go.ChangeSpec) : _root_.Go.OpenSpec := { _root_.Go.OpenSpec.ofChange s with cond := some uptoSmall }

/-- 'trimtablaw45.ReplayFirst', WHERE WHAT IT READS IS OF BULK AT MOST 1048576: true; the input reads as it did. -/
def replayFirstUptoRow : OpenClaim := { program := "ytbhhjlnjhlagdaa", sum := "a56d59f2e0bf8cf555e2c7af62ed2d772338bcc869cfaaf284e59efba685b17c", func := "trimtab/trimtablaw45.ReplayFirst", spec := "replayFirst", apart := false, narrowed := true }
def ReplayFirstUptoSaid : Prop := replayFirstUptoRow.holds Try.pinned (OpenSpec.upto replayFirstSpec)

/-- 'trimtablaw05.LabelMatches', WHERE WHAT IT READS IS OF BULK AT MOST 1048576: true; the input reads as it did. -/
def labelMatchesUptoRow : OpenClaim := { program := "ytbhhjlnjhlagdaa", sum := "a56d59f2e0bf8cf555e2c7af62ed2d772338bcc869cfaaf284e59efba685b17c", func := "trimtab/trimtablaw05.LabelMatches", spec := "labelMatches", unfollowed := true, recurses := true, apart := false, narrowed := true }
def LabelMatchesUptoSaid : Prop := labelMatchesUptoRow.holds Try.pinned (OpenSpec.upto labelMatchesSpec)

/-- 'trimtablaw05.LabelSorts', WHERE WHAT IT READS IS OF BULK AT MOST 1048576: true; the input reads as it did. -/
def labelSortsUptoRow : OpenClaim := { program := "ytbhhjlnjhlagdaa", sum := "a56d59f2e0bf8cf555e2c7af62ed2d772338bcc869cfaaf284e59efba685b17c", func := "trimtab/trimtablaw05.LabelSorts", spec := "labelSorts", unfollowed := true, recurses := true, apart := false, narrowed := true }
def LabelSortsUptoSaid : Prop := labelSortsUptoRow.holds Try.pinned (OpenSpec.upto labelSortsSpec)

/-- 'trimtablaw05.LabelMerges', WHERE WHAT IT READS IS OF BULK AT MOST 1048576: true; the input reads as it did. -/
def labelMergesUptoRow : OpenClaim := { program := "ytbhhjlnjhlagdaa", sum := "a56d59f2e0bf8cf555e2c7af62ed2d772338bcc869cfaaf284e59efba685b17c", func := "trimtab/trimtablaw05.LabelMerges", spec := "labelMerges", unfollowed := true, recurses := true, apart := false, narrowed := true }
def LabelMergesUptoSaid : Prop := labelMergesUptoRow.holds Try.pinned (OpenSpec.upto labelMergesSpec)

/-- 'trimtablaw12.RateParts', WHERE WHAT IT READS IS OF BULK AT MOST 1048576: true; the input reads as it did. -/
def ratePartsUptoRow : OpenClaim := { program := "ytbhhjlnjhlagdaa", sum := "a56d59f2e0bf8cf555e2c7af62ed2d772338bcc869cfaaf284e59efba685b17c", func := "trimtab/trimtablaw12.RateParts", spec := "rateParts", unfollowed := true, recurses := true, apart := false, narrowed := true }
def RatePartsUptoSaid : Prop := ratePartsUptoRow.holds Try.pinned (OpenSpec.upto ratePartsSpec)

/-- 'trimtablaw12.RateGrows', WHERE WHAT IT READS IS OF BULK AT MOST 1048576: true; the input reads as it did. -/
def rateGrowsUptoRow : OpenClaim := { program := "ytbhhjlnjhlagdaa", sum := "a56d59f2e0bf8cf555e2c7af62ed2d772338bcc869cfaaf284e59efba685b17c", func := "trimtab/trimtablaw12.RateGrows", spec := "rateGrows", unfollowed := true, recurses := true, apart := false, narrowed := true }
def RateGrowsUptoSaid : Prop := rateGrowsUptoRow.holds Try.pinned (OpenSpec.upto rateGrowsSpec)

/-- 'trimtablaw21.WindowHolds', WHERE WHAT IT READS IS OF BULK AT MOST 1048576: true; the input reads as it did. -/
def windowHoldsUptoRow : OpenClaim := { program := "ytbhhjlnjhlagdaa", sum := "a56d59f2e0bf8cf555e2c7af62ed2d772338bcc869cfaaf284e59efba685b17c", func := "trimtab/trimtablaw21.WindowHolds", spec := "windowHolds", unfollowed := true, recurses := true, apart := false, narrowed := true }
def WindowHoldsUptoSaid : Prop := windowHoldsUptoRow.holds Try.pinned (OpenSpec.upto windowHoldsSpec)

/-- 'trimtablaw21.WindowTells', WHERE WHAT IT READS IS OF BULK AT MOST 1048576: true; the input reads as it did. -/
def windowTellsUptoRow : OpenClaim := { program := "ytbhhjlnjhlagdaa", sum := "a56d59f2e0bf8cf555e2c7af62ed2d772338bcc869cfaaf284e59efba685b17c", func := "trimtab/trimtablaw21.WindowTells", spec := "windowTells", unfollowed := true, recurses := true, apart := false, narrowed := true }
def WindowTellsUptoSaid : Prop := windowTellsUptoRow.holds Try.pinned (OpenSpec.upto windowTellsSpec)

/-- 'trimtablaw21.WindowNone', WHERE WHAT IT READS IS OF BULK AT MOST 1048576: true; the input reads as it did. -/
def windowNoneUptoRow : OpenClaim := { program := "ytbhhjlnjhlagdaa", sum := "a56d59f2e0bf8cf555e2c7af62ed2d772338bcc869cfaaf284e59efba685b17c", func := "trimtab/trimtablaw21.WindowNone", spec := "windowNone", unfollowed := true, recurses := true, apart := false, narrowed := true }
def WindowNoneUptoSaid : Prop := windowNoneUptoRow.holds Try.pinned (OpenSpec.upto windowNoneSpec)

/-- 'trimtablaw36.LeaseAlone', WHERE WHAT IT READS IS OF BULK AT MOST 1048576: true; the input reads as it did. -/
def leaseAloneUptoRow : OpenClaim := { program := "ytbhhjlnjhlagdaa", sum := "a56d59f2e0bf8cf555e2c7af62ed2d772338bcc869cfaaf284e59efba685b17c", func := "trimtab/trimtablaw36.LeaseAlone", spec := "leaseAlone", apart := false, narrowed := true }
def LeaseAloneUptoSaid : Prop := leaseAloneUptoRow.holds Try.pinned (OpenSpec.upto leaseAloneSpec)

/-- 'trimtablaw36.LeasePlays', WHERE WHAT IT READS IS OF BULK AT MOST 1048576: true; the input reads as it did. -/
def leasePlaysUptoRow : OpenClaim := { program := "ytbhhjlnjhlagdaa", sum := "a56d59f2e0bf8cf555e2c7af62ed2d772338bcc869cfaaf284e59efba685b17c", func := "trimtab/trimtablaw36.LeasePlays", spec := "leasePlays", inPlace := ["maps.clone"], unfollowed := true, recurses := true, apart := false, narrowed := true }
def LeasePlaysUptoSaid : Prop := leasePlaysUptoRow.holds Try.pinned (OpenSpec.upto leasePlaysSpec)

/-- 'trimtablaw36.LeaseNone', WHERE WHAT IT READS IS OF BULK AT MOST 1048576: true; the input reads as it did. -/
def leaseNoneUptoRow : OpenClaim := { program := "ytbhhjlnjhlagdaa", sum := "a56d59f2e0bf8cf555e2c7af62ed2d772338bcc869cfaaf284e59efba685b17c", func := "trimtab/trimtablaw36.LeaseNone", spec := "leaseNone", inPlace := ["maps.clone"], unfollowed := true, recurses := true, apart := false, narrowed := true }
def LeaseNoneUptoSaid : Prop := leaseNoneUptoRow.holds Try.pinned (OpenSpec.upto leaseNoneSpec)

end Rows
end Go.Proofs.Ytbhhjlnjhlagdaa
