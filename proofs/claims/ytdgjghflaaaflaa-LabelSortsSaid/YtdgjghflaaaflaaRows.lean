/-
  No cell of these rows narrows 'for every input' (looked for: loops, veiled, ifaces, maps, wideKeys, modest, calm, conditions, laid).
  DERIVED. THE GIVEN ROWS OF THIS SEAT. 12 by the template 'for every input the law returns true; each argument reads behind the call as it read before'; 0 by the template 'total and deterministic' (their statements: YtdgjghflaaaflaaTotals.lean).
  GIVEN WITH THE SEED: the statements are not yours to turn. If you find one false, say at which input.
  Laid BY PROGRAM, IN A SANDBOX (cutbox-rows.mjs): the forced cells as the released guide's own fill.sh prints them over the translation 4295e78dd0454062… (all of the seat's roots in one cut). By AI agents, Wed Nov 11 2026. No macro, syntax, notation, axiom, sorry.
-/
import Derived.Test.YtdgjghflaaaflaaChecked
import GoSem.Claim
import GoSem.ClaimJoined
import GoSem.ClaimMapViews
import Derived.JoinedTies
import Derived.KernelRfl
namespace Go.Proofs.Ytdgjghflaaaflaa
/- THE CELL 'sum', in the pinned program and in every row, IS THE sha256 OF THE DUMP (.gsa) THAT YtdgjghflaaaflaaProg.lean LOADS. Nothing in Lean hashes anything: it is a label: what it is worth is what the hold of that sum in a sandbox is worth. -/
noncomputable def Try.pinned : Pinned := { name := "ytdgjghflaaaflaa", sum := "4295e78dd045406207fd648385f05cf88d2105ddcfc36bca71e7efb1fbb0147d", checked := Try.checked }
namespace Rows
def none {H : Type} : Left H := { results := [], args := [] }

/-- 'trimtablaw07.ValidChecks': WHATEVER THE INPUT: true; the input reads as it did. -/
def validChecksSpec : ChangeSpec := { name := "validChecks", fn := fun _ => fun
  | [d] => { results := [.lit (.bool true)], args := [d] }
  | _ => none }
def validChecksRow : OpenClaim := { program := "ytdgjghflaaaflaa", sum := "4295e78dd045406207fd648385f05cf88d2105ddcfc36bca71e7efb1fbb0147d", func := "trimtab/trimtablaw07.ValidChecks", spec := "validChecks", unfollowed := true, recurses := true, plainKeys := false, apart := false }
def ValidChecksSaid : Prop := validChecksRow.holds Try.pinned (OpenSpec.ofChange validChecksSpec)

/-- ITS FALSE NEIGHBOUR: 'it returns false'. Refute it at one input. -/
def validChecksWrong : ChangeSpec := { name := "validChecks", fn := fun _ => fun
  | [d] => { results := [.lit (.bool false)], args := [d] }
  | _ => none }
def ValidChecksWrongFalsely : Prop := validChecksRow.holds Try.pinned (OpenSpec.ofChange validChecksWrong)

/-- 'trimtablaw07.ValidClones': WHATEVER THE INPUT: true; the input reads as it did. -/
def validClonesSpec : ChangeSpec := { name := "validClones", fn := fun _ => fun
  | [d] => { results := [.lit (.bool true)], args := [d] }
  | _ => none }
def validClonesRow : OpenClaim := { program := "ytdgjghflaaaflaa", sum := "4295e78dd045406207fd648385f05cf88d2105ddcfc36bca71e7efb1fbb0147d", func := "trimtab/trimtablaw07.ValidClones", spec := "validClones", unfollowed := true, recurses := true, plainKeys := false, apart := false }
def ValidClonesSaid : Prop := validClonesRow.holds Try.pinned (OpenSpec.ofChange validClonesSpec)

/-- ITS FALSE NEIGHBOUR: 'it returns false'. Refute it at one input. -/
def validClonesWrong : ChangeSpec := { name := "validClones", fn := fun _ => fun
  | [d] => { results := [.lit (.bool false)], args := [d] }
  | _ => none }
def ValidClonesWrongFalsely : Prop := validClonesRow.holds Try.pinned (OpenSpec.ofChange validClonesWrong)

/-- 'trimtablaw07.ValidDefaults': WHATEVER THE INPUT: true; the input reads as it did. -/
def validDefaultsSpec : ChangeSpec := { name := "validDefaults", fn := fun _ => fun
  | [d] => { results := [.lit (.bool true)], args := [d] }
  | _ => none }
def validDefaultsRow : OpenClaim := { program := "ytdgjghflaaaflaa", sum := "4295e78dd045406207fd648385f05cf88d2105ddcfc36bca71e7efb1fbb0147d", func := "trimtab/trimtablaw07.ValidDefaults", spec := "validDefaults", unfollowed := true, recurses := true, plainKeys := false, apart := false }
def ValidDefaultsSaid : Prop := validDefaultsRow.holds Try.pinned (OpenSpec.ofChange validDefaultsSpec)

/-- ITS FALSE NEIGHBOUR: 'it returns false'. Refute it at one input. -/
def validDefaultsWrong : ChangeSpec := { name := "validDefaults", fn := fun _ => fun
  | [d] => { results := [.lit (.bool false)], args := [d] }
  | _ => none }
def ValidDefaultsWrongFalsely : Prop := validDefaultsRow.holds Try.pinned (OpenSpec.ofChange validDefaultsWrong)

/-- 'trimtablaw11.ScrapeFull': WHATEVER THE INPUT: true; the input reads as it did. -/
def scrapeFullSpec : ChangeSpec := { name := "scrapeFull", fn := fun _ => fun
  | [d] => { results := [.lit (.bool true)], args := [d] }
  | _ => none }
def scrapeFullRow : OpenClaim := { program := "ytdgjghflaaaflaa", sum := "4295e78dd045406207fd648385f05cf88d2105ddcfc36bca71e7efb1fbb0147d", func := "trimtab/trimtablaw11.ScrapeFull", spec := "scrapeFull", inPlace := ["math.Float64frombits", "math.Float64bits"], unfollowed := true, recurses := true, plainKeys := false, apart := false }
def ScrapeFullSaid : Prop := scrapeFullRow.holds Try.pinned (OpenSpec.ofChange scrapeFullSpec)

/-- ITS FALSE NEIGHBOUR: 'it returns false'. Refute it at one input. -/
def scrapeFullWrong : ChangeSpec := { name := "scrapeFull", fn := fun _ => fun
  | [d] => { results := [.lit (.bool false)], args := [d] }
  | _ => none }
def ScrapeFullWrongFalsely : Prop := scrapeFullRow.holds Try.pinned (OpenSpec.ofChange scrapeFullWrong)

/-- 'trimtablaw15.VictimLive': WHATEVER THE INPUT: true; the input reads as it did. -/
def victimLiveSpec : ChangeSpec := { name := "victimLive", fn := fun _ => fun
  | [d1, d2] => { results := [.lit (.bool true)], args := [d1, d2] }
  | _ => none }
def victimLiveRow : OpenClaim := { program := "ytdgjghflaaaflaa", sum := "4295e78dd045406207fd648385f05cf88d2105ddcfc36bca71e7efb1fbb0147d", func := "trimtab/trimtablaw15.VictimLive", spec := "victimLive", unfollowed := true, recurses := true, plainKeys := false, apart := false }
def VictimLiveSaid : Prop := victimLiveRow.holds Try.pinned (OpenSpec.ofChange victimLiveSpec)

/-- ITS FALSE NEIGHBOUR: 'it returns false'. Refute it at one input. -/
def victimLiveWrong : ChangeSpec := { name := "victimLive", fn := fun _ => fun
  | [d1, d2] => { results := [.lit (.bool false)], args := [d1, d2] }
  | _ => none }
def VictimLiveWrongFalsely : Prop := victimLiveRow.holds Try.pinned (OpenSpec.ofChange victimLiveWrong)

/-- 'trimtablaw05.LabelSorts': WHATEVER THE INPUT: true; the input reads as it did. -/
def labelSortsSpec : ChangeSpec := { name := "labelSorts", fn := fun _ => fun
  | [d1, d2] => { results := [.lit (.bool true)], args := [d1, d2] }
  | _ => none }
def labelSortsRow : OpenClaim := { program := "ytdgjghflaaaflaa", sum := "4295e78dd045406207fd648385f05cf88d2105ddcfc36bca71e7efb1fbb0147d", func := "trimtab/trimtablaw05.LabelSorts", spec := "labelSorts", unfollowed := true, recurses := true, plainKeys := false, apart := false }
def LabelSortsSaid : Prop := labelSortsRow.holds Try.pinned (OpenSpec.ofChange labelSortsSpec)

/-- ITS FALSE NEIGHBOUR: 'it returns false'. Refute it at one input. -/
def labelSortsWrong : ChangeSpec := { name := "labelSorts", fn := fun _ => fun
  | [d1, d2] => { results := [.lit (.bool false)], args := [d1, d2] }
  | _ => none }
def LabelSortsWrongFalsely : Prop := labelSortsRow.holds Try.pinned (OpenSpec.ofChange labelSortsWrong)

/-- 'trimtablaw05.LabelMerges': WHATEVER THE INPUT: true; the input reads as it did. -/
def labelMergesSpec : ChangeSpec := { name := "labelMerges", fn := fun _ => fun
  | [d1, d2] => { results := [.lit (.bool true)], args := [d1, d2] }
  | _ => none }
def labelMergesRow : OpenClaim := { program := "ytdgjghflaaaflaa", sum := "4295e78dd045406207fd648385f05cf88d2105ddcfc36bca71e7efb1fbb0147d", func := "trimtab/trimtablaw05.LabelMerges", spec := "labelMerges", unfollowed := true, recurses := true, plainKeys := false, apart := false }
def LabelMergesSaid : Prop := labelMergesRow.holds Try.pinned (OpenSpec.ofChange labelMergesSpec)

/-- ITS FALSE NEIGHBOUR: 'it returns false'. Refute it at one input. -/
def labelMergesWrong : ChangeSpec := { name := "labelMerges", fn := fun _ => fun
  | [d1, d2] => { results := [.lit (.bool false)], args := [d1, d2] }
  | _ => none }
def LabelMergesWrongFalsely : Prop := labelMergesRow.holds Try.pinned (OpenSpec.ofChange labelMergesWrong)

/-- 'trimtablaw35.RolloutPlans': WHATEVER THE INPUT: true; the input reads as it did. -/
def rolloutPlansSpec : ChangeSpec := { name := "rolloutPlans", fn := fun _ => fun
  | [d1, d2, d3] => { results := [.lit (.bool true)], args := [d1, d2, d3] }
  | _ => none }
def rolloutPlansRow : OpenClaim := { program := "ytdgjghflaaaflaa", sum := "4295e78dd045406207fd648385f05cf88d2105ddcfc36bca71e7efb1fbb0147d", func := "trimtab/trimtablaw35.RolloutPlans", spec := "rolloutPlans", unfollowed := true, recurses := true, plainKeys := false, apart := false }
def RolloutPlansSaid : Prop := rolloutPlansRow.holds Try.pinned (OpenSpec.ofChange rolloutPlansSpec)

/-- ITS FALSE NEIGHBOUR: 'it returns false'. Refute it at one input. -/
def rolloutPlansWrong : ChangeSpec := { name := "rolloutPlans", fn := fun _ => fun
  | [d1, d2, d3] => { results := [.lit (.bool false)], args := [d1, d2, d3] }
  | _ => none }
def RolloutPlansWrongFalsely : Prop := rolloutPlansRow.holds Try.pinned (OpenSpec.ofChange rolloutPlansWrong)

/-- 'trimtablaw04.GaugeSorts': WHATEVER THE INPUT: true; the input reads as it did. -/
def gaugeSortsSpec : ChangeSpec := { name := "gaugeSorts", fn := fun _ => fun
  | [d] => { results := [.lit (.bool true)], args := [d] }
  | _ => none }
def gaugeSortsRow : OpenClaim := { program := "ytdgjghflaaaflaa", sum := "4295e78dd045406207fd648385f05cf88d2105ddcfc36bca71e7efb1fbb0147d", func := "trimtab/trimtablaw04.GaugeSorts", spec := "gaugeSorts", inPlace := ["math.Float64frombits", "math.Float64bits"], unfollowed := true, recurses := true, plainKeys := false, apart := false }
def GaugeSortsSaid : Prop := gaugeSortsRow.holds Try.pinned (OpenSpec.ofChange gaugeSortsSpec)

/-- ITS FALSE NEIGHBOUR: 'it returns false'. Refute it at one input. -/
def gaugeSortsWrong : ChangeSpec := { name := "gaugeSorts", fn := fun _ => fun
  | [d] => { results := [.lit (.bool false)], args := [d] }
  | _ => none }
def GaugeSortsWrongFalsely : Prop := gaugeSortsRow.holds Try.pinned (OpenSpec.ofChange gaugeSortsWrong)

/-- 'trimtablaw36.LeasePlays': WHATEVER THE INPUT: true; the input reads as it did. -/
def leasePlaysSpec : ChangeSpec := { name := "leasePlays", fn := fun _ => fun
  | [d] => { results := [.lit (.bool true)], args := [d] }
  | _ => none }
def leasePlaysRow : OpenClaim := { program := "ytdgjghflaaaflaa", sum := "4295e78dd045406207fd648385f05cf88d2105ddcfc36bca71e7efb1fbb0147d", func := "trimtab/trimtablaw36.LeasePlays", spec := "leasePlays", inPlace := ["maps.clone"], unfollowed := true, recurses := true, plainKeys := false, apart := false }
def LeasePlaysSaid : Prop := leasePlaysRow.holds Try.pinned (OpenSpec.ofChange leasePlaysSpec)

/-- ITS FALSE NEIGHBOUR: 'it returns false'. Refute it at one input. -/
def leasePlaysWrong : ChangeSpec := { name := "leasePlays", fn := fun _ => fun
  | [d] => { results := [.lit (.bool false)], args := [d] }
  | _ => none }
def LeasePlaysWrongFalsely : Prop := leasePlaysRow.holds Try.pinned (OpenSpec.ofChange leasePlaysWrong)

/-- 'trimtablaw11.ScrapePlays': WHATEVER THE INPUT: true; the input reads as it did. -/
def scrapePlaysSpec : ChangeSpec := { name := "scrapePlays", fn := fun _ => fun
  | [d1, d2, d3] => { results := [.lit (.bool true)], args := [d1, d2, d3] }
  | _ => none }
def scrapePlaysRow : OpenClaim := { program := "ytdgjghflaaaflaa", sum := "4295e78dd045406207fd648385f05cf88d2105ddcfc36bca71e7efb1fbb0147d", func := "trimtab/trimtablaw11.ScrapePlays", spec := "scrapePlays", inPlace := ["math.Float64frombits", "math.Float64bits"], unfollowed := true, recurses := true, plainKeys := false, apart := false }
def ScrapePlaysSaid : Prop := scrapePlaysRow.holds Try.pinned (OpenSpec.ofChange scrapePlaysSpec)

/-- ITS FALSE NEIGHBOUR: 'it returns false'. Refute it at one input. -/
def scrapePlaysWrong : ChangeSpec := { name := "scrapePlays", fn := fun _ => fun
  | [d1, d2, d3] => { results := [.lit (.bool false)], args := [d1, d2, d3] }
  | _ => none }
def ScrapePlaysWrongFalsely : Prop := scrapePlaysRow.holds Try.pinned (OpenSpec.ofChange scrapePlaysWrong)

/-- 'trimtablaw11.ScrapeNone': WHATEVER THE INPUT: true; the input reads as it did. -/
def scrapeNoneSpec : ChangeSpec := { name := "scrapeNone", fn := fun _ => fun
  | [d1, d2, d3] => { results := [.lit (.bool true)], args := [d1, d2, d3] }
  | _ => none }
def scrapeNoneRow : OpenClaim := { program := "ytdgjghflaaaflaa", sum := "4295e78dd045406207fd648385f05cf88d2105ddcfc36bca71e7efb1fbb0147d", func := "trimtab/trimtablaw11.ScrapeNone", spec := "scrapeNone", inPlace := ["math.Float64frombits", "math.Float64bits"], unfollowed := true, recurses := true, plainKeys := false, apart := false }
def ScrapeNoneSaid : Prop := scrapeNoneRow.holds Try.pinned (OpenSpec.ofChange scrapeNoneSpec)

/-- ITS FALSE NEIGHBOUR: 'it returns false'. Refute it at one input. -/
def scrapeNoneWrong : ChangeSpec := { name := "scrapeNone", fn := fun _ => fun
  | [d1, d2, d3] => { results := [.lit (.bool false)], args := [d1, d2, d3] }
  | _ => none }
def ScrapeNoneWrongFalsely : Prop := scrapeNoneRow.holds Try.pinned (OpenSpec.ofChange scrapeNoneWrong)

/- THE SECOND FORM. 'bulk': how many values and letters a reading holds, each counted each time it is reached (what is shared counts as often as it is met; a slice's spare places count too). A statement '..UptoSaid' is the law's where the arguments, and the package variables that the reading takes, are together of bulk at most 1048576: NARROWER than '..Said'. Prove '..Said' where nothing that the law and all that it calls make is longer than what came in: it says more and counts as full. Else prove '..UptoSaid'. A law counts once. -/
mutual
def uptoBulk {H : Type} : DataW H → Nat
  | .lit (.string bytes) => bytes.length + 1
  | .lit _ => 1
  | .nil => 1
  | .ptr d => uptoBulk d + 1
  | .slice elems spare => uptoBulkAll elems + uptoBulkAll spare + 1
  | .agg parts => uptoBulkAll parts + 1
  | .iface _ d => uptoBulk d + 1
  | .map entries => uptoBulkEntries entries + 1
  | .held _ => 1
def uptoBulkAll {H : Type} : List (DataW H) → Nat
  | [] => 0
  | d :: r => uptoBulk d + uptoBulkAll r
def uptoBulkEntries {H : Type} : List (Lit × DataW H) → Nat
  | [] => 0
  | x :: r => uptoBulkEntry x + uptoBulkEntries r
def uptoBulkEntry {H : Type} : Lit × DataW H → Nat
  | (.string bytes, d) => bytes.length + uptoBulk d + 1
  | (_, d) => uptoBulk d + 1
 end
def uptoSmall : (H : Type) → List (DataW H) → Bool := fun _ ds => decide (uptoBulkAll ds ≤ 1048576)
def OpenSpec.upto (s : _root_.Go.ChangeSpec) : _root_.Go.OpenSpec := { _root_.Go.OpenSpec.ofChange s with cond := some uptoSmall }

/-- 'trimtablaw07.ValidChecks', WHERE WHAT IT READS IS OF BULK AT MOST 1048576: true; the input reads as it did. -/
def validChecksUptoRow : OpenClaim := { program := "ytdgjghflaaaflaa", sum := "4295e78dd045406207fd648385f05cf88d2105ddcfc36bca71e7efb1fbb0147d", func := "trimtab/trimtablaw07.ValidChecks", spec := "validChecks", unfollowed := true, recurses := true, plainKeys := false, apart := false, narrowed := true }
def ValidChecksUptoSaid : Prop := validChecksUptoRow.holds Try.pinned (OpenSpec.upto validChecksSpec)

/-- 'trimtablaw07.ValidClones', WHERE WHAT IT READS IS OF BULK AT MOST 1048576: true; the input reads as it did. -/
def validClonesUptoRow : OpenClaim := { program := "ytdgjghflaaaflaa", sum := "4295e78dd045406207fd648385f05cf88d2105ddcfc36bca71e7efb1fbb0147d", func := "trimtab/trimtablaw07.ValidClones", spec := "validClones", unfollowed := true, recurses := true, plainKeys := false, apart := false, narrowed := true }
def ValidClonesUptoSaid : Prop := validClonesUptoRow.holds Try.pinned (OpenSpec.upto validClonesSpec)

/-- 'trimtablaw07.ValidDefaults', WHERE WHAT IT READS IS OF BULK AT MOST 1048576: true; the input reads as it did. -/
def validDefaultsUptoRow : OpenClaim := { program := "ytdgjghflaaaflaa", sum := "4295e78dd045406207fd648385f05cf88d2105ddcfc36bca71e7efb1fbb0147d", func := "trimtab/trimtablaw07.ValidDefaults", spec := "validDefaults", unfollowed := true, recurses := true, plainKeys := false, apart := false, narrowed := true }
def ValidDefaultsUptoSaid : Prop := validDefaultsUptoRow.holds Try.pinned (OpenSpec.upto validDefaultsSpec)

/-- 'trimtablaw11.ScrapeFull', WHERE WHAT IT READS IS OF BULK AT MOST 1048576: true; the input reads as it did. -/
def scrapeFullUptoRow : OpenClaim := { program := "ytdgjghflaaaflaa", sum := "4295e78dd045406207fd648385f05cf88d2105ddcfc36bca71e7efb1fbb0147d", func := "trimtab/trimtablaw11.ScrapeFull", spec := "scrapeFull", inPlace := ["math.Float64frombits", "math.Float64bits"], unfollowed := true, recurses := true, plainKeys := false, apart := false, narrowed := true }
def ScrapeFullUptoSaid : Prop := scrapeFullUptoRow.holds Try.pinned (OpenSpec.upto scrapeFullSpec)

/-- 'trimtablaw15.VictimLive', WHERE WHAT IT READS IS OF BULK AT MOST 1048576: true; the input reads as it did. -/
def victimLiveUptoRow : OpenClaim := { program := "ytdgjghflaaaflaa", sum := "4295e78dd045406207fd648385f05cf88d2105ddcfc36bca71e7efb1fbb0147d", func := "trimtab/trimtablaw15.VictimLive", spec := "victimLive", unfollowed := true, recurses := true, plainKeys := false, apart := false, narrowed := true }
def VictimLiveUptoSaid : Prop := victimLiveUptoRow.holds Try.pinned (OpenSpec.upto victimLiveSpec)

/-- 'trimtablaw05.LabelSorts', WHERE WHAT IT READS IS OF BULK AT MOST 1048576: true; the input reads as it did. -/
def labelSortsUptoRow : OpenClaim := { program := "ytdgjghflaaaflaa", sum := "4295e78dd045406207fd648385f05cf88d2105ddcfc36bca71e7efb1fbb0147d", func := "trimtab/trimtablaw05.LabelSorts", spec := "labelSorts", unfollowed := true, recurses := true, plainKeys := false, apart := false, narrowed := true }
def LabelSortsUptoSaid : Prop := labelSortsUptoRow.holds Try.pinned (OpenSpec.upto labelSortsSpec)

/-- 'trimtablaw05.LabelMerges', WHERE WHAT IT READS IS OF BULK AT MOST 1048576: true; the input reads as it did. -/
def labelMergesUptoRow : OpenClaim := { program := "ytdgjghflaaaflaa", sum := "4295e78dd045406207fd648385f05cf88d2105ddcfc36bca71e7efb1fbb0147d", func := "trimtab/trimtablaw05.LabelMerges", spec := "labelMerges", unfollowed := true, recurses := true, plainKeys := false, apart := false, narrowed := true }
def LabelMergesUptoSaid : Prop := labelMergesUptoRow.holds Try.pinned (OpenSpec.upto labelMergesSpec)

/-- 'trimtablaw35.RolloutPlans', WHERE WHAT IT READS IS OF BULK AT MOST 1048576: true; the input reads as it did. -/
def rolloutPlansUptoRow : OpenClaim := { program := "ytdgjghflaaaflaa", sum := "4295e78dd045406207fd648385f05cf88d2105ddcfc36bca71e7efb1fbb0147d", func := "trimtab/trimtablaw35.RolloutPlans", spec := "rolloutPlans", unfollowed := true, recurses := true, plainKeys := false, apart := false, narrowed := true }
def RolloutPlansUptoSaid : Prop := rolloutPlansUptoRow.holds Try.pinned (OpenSpec.upto rolloutPlansSpec)

/-- 'trimtablaw04.GaugeSorts', WHERE WHAT IT READS IS OF BULK AT MOST 1048576: true; the input reads as it did. -/
def gaugeSortsUptoRow : OpenClaim := { program := "ytdgjghflaaaflaa", sum := "4295e78dd045406207fd648385f05cf88d2105ddcfc36bca71e7efb1fbb0147d", func := "trimtab/trimtablaw04.GaugeSorts", spec := "gaugeSorts", inPlace := ["math.Float64frombits", "math.Float64bits"], unfollowed := true, recurses := true, plainKeys := false, apart := false, narrowed := true }
def GaugeSortsUptoSaid : Prop := gaugeSortsUptoRow.holds Try.pinned (OpenSpec.upto gaugeSortsSpec)

/-- 'trimtablaw36.LeasePlays', WHERE WHAT IT READS IS OF BULK AT MOST 1048576: true; the input reads as it did. -/
def leasePlaysUptoRow : OpenClaim := { program := "ytdgjghflaaaflaa", sum := "4295e78dd045406207fd648385f05cf88d2105ddcfc36bca71e7efb1fbb0147d", func := "trimtab/trimtablaw36.LeasePlays", spec := "leasePlays", inPlace := ["maps.clone"], unfollowed := true, recurses := true, plainKeys := false, apart := false, narrowed := true }
def LeasePlaysUptoSaid : Prop := leasePlaysUptoRow.holds Try.pinned (OpenSpec.upto leasePlaysSpec)

/-- 'trimtablaw11.ScrapePlays', WHERE WHAT IT READS IS OF BULK AT MOST 1048576: true; the input reads as it did. -/
def scrapePlaysUptoRow : OpenClaim := { program := "ytdgjghflaaaflaa", sum := "4295e78dd045406207fd648385f05cf88d2105ddcfc36bca71e7efb1fbb0147d", func := "trimtab/trimtablaw11.ScrapePlays", spec := "scrapePlays", inPlace := ["math.Float64frombits", "math.Float64bits"], unfollowed := true, recurses := true, plainKeys := false, apart := false, narrowed := true }
def ScrapePlaysUptoSaid : Prop := scrapePlaysUptoRow.holds Try.pinned (OpenSpec.upto scrapePlaysSpec)

/-- 'trimtablaw11.ScrapeNone', WHERE WHAT IT READS IS OF BULK AT MOST 1048576: true; the input reads as it did. -/
def scrapeNoneUptoRow : OpenClaim := { program := "ytdgjghflaaaflaa", sum := "4295e78dd045406207fd648385f05cf88d2105ddcfc36bca71e7efb1fbb0147d", func := "trimtab/trimtablaw11.ScrapeNone", spec := "scrapeNone", inPlace := ["math.Float64frombits", "math.Float64bits"], unfollowed := true, recurses := true, plainKeys := false, apart := false, narrowed := true }
def ScrapeNoneUptoSaid : Prop := scrapeNoneUptoRow.holds Try.pinned (OpenSpec.upto scrapeNoneSpec)

end Rows
end Go.Proofs.Ytdgjghflaaaflaa
