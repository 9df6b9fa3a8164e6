/-
  No cell of these rows narrows 'for every input' (looked for: loops, veiled, ifaces, maps, wideKeys, modest, calm, conditions, laid).
  DERIVED. THE GIVEN ROWS OF THIS SEAT. 12 by the template 'for every input the law returns true; each argument reads behind the call as it read before'; 0 by the template 'total and deterministic' (their statements: YtjbmhmiaecakoaaTotals.lean).
  GIVEN WITH THE SEED: the statements are not yours to turn. If you find one false, say at which input.
  Laid BY PROGRAM, IN A SANDBOX (cutbox-rows.mjs): the forced cells as the released guide's own fill.sh prints them over the translation 37c69c49ac3400c9… (all of the seat's roots in one cut). By AI agents, Wed Nov 11 2026. No macro, syntax, notation, axiom, sorry.
-/
import Derived.Test.YtjbmhmiaecakoaaChecked
import GoSem.Claim
import GoSem.ClaimJoined
import GoSem.ClaimMapViews
import Derived.JoinedTies
import Derived.KernelRfl
namespace Go.Proofs.Ytjbmhmiaecakoaa
/- THE CELL 'sum', in the pinned program and in every row, IS THE sha256 OF THE DUMP (.gsa) THAT YtjbmhmiaecakoaaProg.lean LOADS. Nothing in Lean hashes anything: it is a label: what it is worth is what the hold of that sum in a sandbox is worth. -/
noncomputable def Try.pinned : Pinned := { name := "ytjbmhmiaecakoaa", sum := "37c69c49ac3400c91ed76115acc5bc92f9e5375830ba86e76f1310978834cd54", checked := Try.checked }
namespace Rows
def none {H : Type} : Left H := { results := [], args := [] }

/-- 'trimtablaw04.GaugeReads': WHATEVER THE INPUT: true; the input reads as it did. -/
def gaugeReadsSpec : ChangeSpec := { name := "gaugeReads", fn := fun _ => fun
  | [d] => { results := [.lit (.bool true)], args := [d] }
  | _ => none }
def gaugeReadsRow : OpenClaim := { program := "ytjbmhmiaecakoaa", sum := "37c69c49ac3400c91ed76115acc5bc92f9e5375830ba86e76f1310978834cd54", func := "trimtab/trimtablaw04.GaugeReads", spec := "gaugeReads", inPlace := ["math.Float64frombits", "math.Float64bits"], plainKeys := false, apart := false }
def GaugeReadsSaid : Prop := gaugeReadsRow.holds Try.pinned (OpenSpec.ofChange gaugeReadsSpec)

/-- ITS FALSE NEIGHBOUR: 'it returns false'. Refute it at one input. -/
def gaugeReadsWrong : ChangeSpec := { name := "gaugeReads", fn := fun _ => fun
  | [d] => { results := [.lit (.bool false)], args := [d] }
  | _ => none }
def GaugeReadsWrongFalsely : Prop := gaugeReadsRow.holds Try.pinned (OpenSpec.ofChange gaugeReadsWrong)

/-- 'trimtablaw04.GaugeWrites': WHATEVER THE INPUT: true; the input reads as it did. -/
def gaugeWritesSpec : ChangeSpec := { name := "gaugeWrites", fn := fun _ => fun
  | [d] => { results := [.lit (.bool true)], args := [d] }
  | _ => none }
def gaugeWritesRow : OpenClaim := { program := "ytjbmhmiaecakoaa", sum := "37c69c49ac3400c91ed76115acc5bc92f9e5375830ba86e76f1310978834cd54", func := "trimtab/trimtablaw04.GaugeWrites", spec := "gaugeWrites", inPlace := ["math.Float64frombits", "math.Float64bits"], plainKeys := false, apart := false }
def GaugeWritesSaid : Prop := gaugeWritesRow.holds Try.pinned (OpenSpec.ofChange gaugeWritesSpec)

/-- ITS FALSE NEIGHBOUR: 'it returns false'. Refute it at one input. -/
def gaugeWritesWrong : ChangeSpec := { name := "gaugeWrites", fn := fun _ => fun
  | [d] => { results := [.lit (.bool false)], args := [d] }
  | _ => none }
def GaugeWritesWrongFalsely : Prop := gaugeWritesRow.holds Try.pinned (OpenSpec.ofChange gaugeWritesWrong)

/-- 'trimtablaw04.GaugeNearest': WHATEVER THE INPUT: true; the input reads as it did. -/
def gaugeNearestSpec : ChangeSpec := { name := "gaugeNearest", fn := fun _ => fun
  | [d] => { results := [.lit (.bool true)], args := [d] }
  | _ => none }
def gaugeNearestRow : OpenClaim := { program := "ytjbmhmiaecakoaa", sum := "37c69c49ac3400c91ed76115acc5bc92f9e5375830ba86e76f1310978834cd54", func := "trimtab/trimtablaw04.GaugeNearest", spec := "gaugeNearest", inPlace := ["math.Float64frombits", "math.Float64bits"], unfollowed := true, recurses := true, plainKeys := false, apart := false }
def GaugeNearestSaid : Prop := gaugeNearestRow.holds Try.pinned (OpenSpec.ofChange gaugeNearestSpec)

/-- ITS FALSE NEIGHBOUR: 'it returns false'. Refute it at one input. -/
def gaugeNearestWrong : ChangeSpec := { name := "gaugeNearest", fn := fun _ => fun
  | [d] => { results := [.lit (.bool false)], args := [d] }
  | _ => none }
def GaugeNearestWrongFalsely : Prop := gaugeNearestRow.holds Try.pinned (OpenSpec.ofChange gaugeNearestWrong)

/-- 'trimtablaw04.GaugeMeans': WHATEVER THE INPUT: true; the input reads as it did. -/
def gaugeMeansSpec : ChangeSpec := { name := "gaugeMeans", fn := fun _ => fun
  | [d] => { results := [.lit (.bool true)], args := [d] }
  | _ => none }
def gaugeMeansRow : OpenClaim := { program := "ytjbmhmiaecakoaa", sum := "37c69c49ac3400c91ed76115acc5bc92f9e5375830ba86e76f1310978834cd54", func := "trimtab/trimtablaw04.GaugeMeans", spec := "gaugeMeans", inPlace := ["math.Float64frombits", "math.Float64bits", "math/bits.Add64"], named := ["math/bits.divideError", "math/bits.overflowError"], plainKeys := false, apart := false }
def GaugeMeansSaid : Prop := gaugeMeansRow.holds Try.pinned (OpenSpec.ofChange gaugeMeansSpec)

/-- ITS FALSE NEIGHBOUR: 'it returns false'. Refute it at one input. -/
def gaugeMeansWrong : ChangeSpec := { name := "gaugeMeans", fn := fun _ => fun
  | [d] => { results := [.lit (.bool false)], args := [d] }
  | _ => none }
def GaugeMeansWrongFalsely : Prop := gaugeMeansRow.holds Try.pinned (OpenSpec.ofChange gaugeMeansWrong)

/-- 'trimtablaw04.GaugeSorts': WHATEVER THE INPUT: true; the input reads as it did. -/
def gaugeSortsSpec : ChangeSpec := { name := "gaugeSorts", fn := fun _ => fun
  | [d] => { results := [.lit (.bool true)], args := [d] }
  | _ => none }
def gaugeSortsRow : OpenClaim := { program := "ytjbmhmiaecakoaa", sum := "37c69c49ac3400c91ed76115acc5bc92f9e5375830ba86e76f1310978834cd54", func := "trimtab/trimtablaw04.GaugeSorts", spec := "gaugeSorts", inPlace := ["math.Float64frombits", "math.Float64bits"], unfollowed := true, recurses := true, plainKeys := false, apart := false }
def GaugeSortsSaid : Prop := gaugeSortsRow.holds Try.pinned (OpenSpec.ofChange gaugeSortsSpec)

/-- ITS FALSE NEIGHBOUR: 'it returns false'. Refute it at one input. -/
def gaugeSortsWrong : ChangeSpec := { name := "gaugeSorts", fn := fun _ => fun
  | [d] => { results := [.lit (.bool false)], args := [d] }
  | _ => none }
def GaugeSortsWrongFalsely : Prop := gaugeSortsRow.holds Try.pinned (OpenSpec.ofChange gaugeSortsWrong)

/-- 'trimtablaw07.ValidChecks': WHATEVER THE INPUT: true; the input reads as it did. -/
def validChecksSpec : ChangeSpec := { name := "validChecks", fn := fun _ => fun
  | [d] => { results := [.lit (.bool true)], args := [d] }
  | _ => none }
def validChecksRow : OpenClaim := { program := "ytjbmhmiaecakoaa", sum := "37c69c49ac3400c91ed76115acc5bc92f9e5375830ba86e76f1310978834cd54", func := "trimtab/trimtablaw07.ValidChecks", spec := "validChecks", unfollowed := true, recurses := true, plainKeys := false, apart := false }
def ValidChecksSaid : Prop := validChecksRow.holds Try.pinned (OpenSpec.ofChange validChecksSpec)

/-- ITS FALSE NEIGHBOUR: 'it returns false'. Refute it at one input. -/
def validChecksWrong : ChangeSpec := { name := "validChecks", fn := fun _ => fun
  | [d] => { results := [.lit (.bool false)], args := [d] }
  | _ => none }
def ValidChecksWrongFalsely : Prop := validChecksRow.holds Try.pinned (OpenSpec.ofChange validChecksWrong)

/-- 'trimtablaw07.ValidClones': WHATEVER THE INPUT: true; the input reads as it did. -/
def validClonesSpec : ChangeSpec := { name := "validClones", fn := fun _ => fun
  | [d] => { results := [.lit (.bool true)], args := [d] }
  | _ => none }
def validClonesRow : OpenClaim := { program := "ytjbmhmiaecakoaa", sum := "37c69c49ac3400c91ed76115acc5bc92f9e5375830ba86e76f1310978834cd54", func := "trimtab/trimtablaw07.ValidClones", spec := "validClones", unfollowed := true, recurses := true, plainKeys := false, apart := false }
def ValidClonesSaid : Prop := validClonesRow.holds Try.pinned (OpenSpec.ofChange validClonesSpec)

/-- ITS FALSE NEIGHBOUR: 'it returns false'. Refute it at one input. -/
def validClonesWrong : ChangeSpec := { name := "validClones", fn := fun _ => fun
  | [d] => { results := [.lit (.bool false)], args := [d] }
  | _ => none }
def ValidClonesWrongFalsely : Prop := validClonesRow.holds Try.pinned (OpenSpec.ofChange validClonesWrong)

/-- 'trimtablaw07.ValidDefaults': WHATEVER THE INPUT: true; the input reads as it did. -/
def validDefaultsSpec : ChangeSpec := { name := "validDefaults", fn := fun _ => fun
  | [d] => { results := [.lit (.bool true)], args := [d] }
  | _ => none }
def validDefaultsRow : OpenClaim := { program := "ytjbmhmiaecakoaa", sum := "37c69c49ac3400c91ed76115acc5bc92f9e5375830ba86e76f1310978834cd54", func := "trimtab/trimtablaw07.ValidDefaults", spec := "validDefaults", unfollowed := true, recurses := true, plainKeys := false, apart := false }
def ValidDefaultsSaid : Prop := validDefaultsRow.holds Try.pinned (OpenSpec.ofChange validDefaultsSpec)

/-- ITS FALSE NEIGHBOUR: 'it returns false'. Refute it at one input. -/
def validDefaultsWrong : ChangeSpec := { name := "validDefaults", fn := fun _ => fun
  | [d] => { results := [.lit (.bool false)], args := [d] }
  | _ => none }
def ValidDefaultsWrongFalsely : Prop := validDefaultsRow.holds Try.pinned (OpenSpec.ofChange validDefaultsWrong)

/-- 'trimtablaw11.ScrapeFull': WHATEVER THE INPUT: true; the input reads as it did. -/
def scrapeFullSpec : ChangeSpec := { name := "scrapeFull", fn := fun _ => fun
  | [d] => { results := [.lit (.bool true)], args := [d] }
  | _ => none }
def scrapeFullRow : OpenClaim := { program := "ytjbmhmiaecakoaa", sum := "37c69c49ac3400c91ed76115acc5bc92f9e5375830ba86e76f1310978834cd54", func := "trimtab/trimtablaw11.ScrapeFull", spec := "scrapeFull", inPlace := ["math.Float64frombits", "math.Float64bits"], unfollowed := true, recurses := true, plainKeys := false, apart := false }
def ScrapeFullSaid : Prop := scrapeFullRow.holds Try.pinned (OpenSpec.ofChange scrapeFullSpec)

/-- ITS FALSE NEIGHBOUR: 'it returns false'. Refute it at one input. -/
def scrapeFullWrong : ChangeSpec := { name := "scrapeFull", fn := fun _ => fun
  | [d] => { results := [.lit (.bool false)], args := [d] }
  | _ => none }
def ScrapeFullWrongFalsely : Prop := scrapeFullRow.holds Try.pinned (OpenSpec.ofChange scrapeFullWrong)

/-- 'trimtablaw11.ScrapePlays': WHATEVER THE INPUT: true; the input reads as it did. -/
def scrapePlaysSpec : ChangeSpec := { name := "scrapePlays", fn := fun _ => fun
  | [d1, d2, d3] => { results := [.lit (.bool true)], args := [d1, d2, d3] }
  | _ => none }
def scrapePlaysRow : OpenClaim := { program := "ytjbmhmiaecakoaa", sum := "37c69c49ac3400c91ed76115acc5bc92f9e5375830ba86e76f1310978834cd54", func := "trimtab/trimtablaw11.ScrapePlays", spec := "scrapePlays", inPlace := ["math.Float64frombits", "math.Float64bits"], unfollowed := true, recurses := true, plainKeys := false, apart := false }
def ScrapePlaysSaid : Prop := scrapePlaysRow.holds Try.pinned (OpenSpec.ofChange scrapePlaysSpec)

/-- ITS FALSE NEIGHBOUR: 'it returns false'. Refute it at one input. -/
def scrapePlaysWrong : ChangeSpec := { name := "scrapePlays", fn := fun _ => fun
  | [d1, d2, d3] => { results := [.lit (.bool false)], args := [d1, d2, d3] }
  | _ => none }
def ScrapePlaysWrongFalsely : Prop := scrapePlaysRow.holds Try.pinned (OpenSpec.ofChange scrapePlaysWrong)

/-- 'trimtablaw11.ScrapeNone': WHATEVER THE INPUT: true; the input reads as it did. -/
def scrapeNoneSpec : ChangeSpec := { name := "scrapeNone", fn := fun _ => fun
  | [d1, d2, d3] => { results := [.lit (.bool true)], args := [d1, d2, d3] }
  | _ => none }
def scrapeNoneRow : OpenClaim := { program := "ytjbmhmiaecakoaa", sum := "37c69c49ac3400c91ed76115acc5bc92f9e5375830ba86e76f1310978834cd54", func := "trimtab/trimtablaw11.ScrapeNone", spec := "scrapeNone", inPlace := ["math.Float64frombits", "math.Float64bits"], unfollowed := true, recurses := true, plainKeys := false, apart := false }
def ScrapeNoneSaid : Prop := scrapeNoneRow.holds Try.pinned (OpenSpec.ofChange scrapeNoneSpec)

/-- ITS FALSE NEIGHBOUR: 'it returns false'. Refute it at one input. -/
def scrapeNoneWrong : ChangeSpec := { name := "scrapeNone", fn := fun _ => fun
  | [d1, d2, d3] => { results := [.lit (.bool false)], args := [d1, d2, d3] }
  | _ => none }
def ScrapeNoneWrongFalsely : Prop := scrapeNoneRow.holds Try.pinned (OpenSpec.ofChange scrapeNoneWrong)

/-- 'trimtablaw15.VictimLive': WHATEVER THE INPUT: true; the input reads as it did. -/
def victimLiveSpec : ChangeSpec := { name := "victimLive", fn := fun _ => fun
  | [d1, d2] => { results := [.lit (.bool true)], args := [d1, d2] }
  | _ => none }
def victimLiveRow : OpenClaim := { program := "ytjbmhmiaecakoaa", sum := "37c69c49ac3400c91ed76115acc5bc92f9e5375830ba86e76f1310978834cd54", func := "trimtab/trimtablaw15.VictimLive", spec := "victimLive", unfollowed := true, recurses := true, plainKeys := false, apart := false }
def VictimLiveSaid : Prop := victimLiveRow.holds Try.pinned (OpenSpec.ofChange victimLiveSpec)

/-- ITS FALSE NEIGHBOUR: 'it returns false'. Refute it at one input. -/
def victimLiveWrong : ChangeSpec := { name := "victimLive", fn := fun _ => fun
  | [d1, d2] => { results := [.lit (.bool false)], args := [d1, d2] }
  | _ => none }
def VictimLiveWrongFalsely : Prop := victimLiveRow.holds Try.pinned (OpenSpec.ofChange victimLiveWrong)

/- THE SECOND FORM. 'bulk': how many values and letters a reading holds, each counted each time it is reached (what is shared counts as often as it is met; a slice's spare places count too). A statement '..UptoSaid' is the law's where the arguments, and the package variables that the reading takes, are together of bulk at most 1048576: NARROWER than '..Said'. Prove '..Said' where nothing that the law and all that it calls make is longer than what came in: it says more and counts as full. Else prove '..UptoSaid'. A law counts once. -/
mutual
def uptoBulk {H : Type} : DataW H → Nat
  | .lit (.string bytes) => bytes.length + 1
  | .lit _ => 1
  | .nil => 1
  | .ptr d => uptoBulk d + 1
  | .slice elems spare => uptoBulkAll elems + uptoBulkAll spare + 1
  | .agg parts => uptoBulkAll parts + 1
  | .iface _ d => uptoBulk d + 1
  | .map entries => uptoBulkEntries entries + 1
  | .held _ => 1
def uptoBulkAll {H : Type} : List (DataW H) → Nat
  | [] => 0
  | d :: r => uptoBulk d + uptoBulkAll r
def uptoBulkEntries {H : Type} : List (Lit × DataW H) → Nat
  | [] => 0
  | x :: r => uptoBulkEntry x + uptoBulkEntries r
def uptoBulkEntry {H : Type} : Lit × DataW H → Nat
  | (.string bytes, d) => bytes.length + uptoBulk d + 1
  | (_, d) => uptoBulk d + 1
 end
def uptoSmall : (H : Type) → List (DataW H) → Bool := fun _ ds => decide (uptoBulkAll ds ≤ 1048576)
def OpenSpec.upto (s : _root_.Go.ChangeSpec) : _root_.Go.OpenSpec := { _root_.Go.OpenSpec.ofChange s with cond := some uptoSmall }

/-- 'trimtablaw04.GaugeReads', WHERE WHAT IT READS IS OF BULK AT MOST 1048576: true; the input reads as it did. -/
def gaugeReadsUptoRow : OpenClaim := { program := "ytjbmhmiaecakoaa", sum := "37c69c49ac3400c91ed76115acc5bc92f9e5375830ba86e76f1310978834cd54", func := "trimtab/trimtablaw04.GaugeReads", spec := "gaugeReads", inPlace := ["math.Float64frombits", "math.Float64bits"], plainKeys := false, apart := false, narrowed := true }
def GaugeReadsUptoSaid : Prop := gaugeReadsUptoRow.holds Try.pinned (OpenSpec.upto gaugeReadsSpec)

/-- 'trimtablaw04.GaugeWrites', WHERE WHAT IT READS IS OF BULK AT MOST 1048576: true; the input reads as it did. -/
def gaugeWritesUptoRow : OpenClaim := { program := "ytjbmhmiaecakoaa", sum := "37c69c49ac3400c91ed76115acc5bc92f9e5375830ba86e76f1310978834cd54", func := "trimtab/trimtablaw04.GaugeWrites", spec := "gaugeWrites", inPlace := ["math.Float64frombits", "math.Float64bits"], plainKeys := false, apart := false, narrowed := true }
def GaugeWritesUptoSaid : Prop := gaugeWritesUptoRow.holds Try.pinned (OpenSpec.upto gaugeWritesSpec)

/-- 'trimtablaw04.GaugeNearest', WHERE WHAT IT READS IS OF BULK AT MOST 1048576: true; the input reads as it did. -/
def gaugeNearestUptoRow : OpenClaim := { program := "ytjbmhmiaecakoaa", sum := "37c69c49ac3400c91ed76115acc5bc92f9e5375830ba86e76f1310978834cd54", func := "trimtab/trimtablaw04.GaugeNearest", spec := "gaugeNearest", inPlace := ["math.Float64frombits", "math.Float64bits"], unfollowed := true, recurses := true, plainKeys := false, apart := false, narrowed := true }
def GaugeNearestUptoSaid : Prop := gaugeNearestUptoRow.holds Try.pinned (OpenSpec.upto gaugeNearestSpec)

/-- 'trimtablaw04.GaugeMeans', WHERE WHAT IT READS IS OF BULK AT MOST 1048576: true; the input reads as it did. -/
def gaugeMeansUptoRow : OpenClaim := { program := "ytjbmhmiaecakoaa", sum := "37c69c49ac3400c91ed76115acc5bc92f9e5375830ba86e76f1310978834cd54", func := "trimtab/trimtablaw04.GaugeMeans", spec := "gaugeMeans", inPlace := ["math.Float64frombits", "math.Float64bits", "math/bits.Add64"], named := ["math/bits.divideError", "math/bits.overflowError"], plainKeys := false, apart := false, narrowed := true }
def GaugeMeansUptoSaid : Prop := gaugeMeansUptoRow.holds Try.pinned (OpenSpec.upto gaugeMeansSpec)

/-- 'trimtablaw04.GaugeSorts', WHERE WHAT IT READS IS OF BULK AT MOST 1048576: true; the input reads as it did. -/
def gaugeSortsUptoRow : OpenClaim := { program := "ytjbmhmiaecakoaa", sum := "37c69c49ac3400c91ed76115acc5bc92f9e5375830ba86e76f1310978834cd54", func := "trimtab/trimtablaw04.GaugeSorts", spec := "gaugeSorts", inPlace := ["math.Float64frombits", "math.Float64bits"], unfollowed := true, recurses := true, plainKeys := false, apart := false, narrowed := true }
def GaugeSortsUptoSaid : Prop := gaugeSortsUptoRow.holds Try.pinned (OpenSpec.upto gaugeSortsSpec)

/-- 'trimtablaw07.ValidChecks', WHERE WHAT IT READS IS OF BULK AT MOST 1048576: true; the input reads as it did. -/
def validChecksUptoRow : OpenClaim := { program := "ytjbmhmiaecakoaa", sum := "37c69c49ac3400c91ed76115acc5bc92f9e5375830ba86e76f1310978834cd54", func := "trimtab/trimtablaw07.ValidChecks", spec := "validChecks", unfollowed := true, recurses := true, plainKeys := false, apart := false, narrowed := true }
def ValidChecksUptoSaid : Prop := validChecksUptoRow.holds Try.pinned (OpenSpec.upto validChecksSpec)

/-- 'trimtablaw07.ValidClones', WHERE WHAT IT READS IS OF BULK AT MOST 1048576: true; the input reads as it did. -/
def validClonesUptoRow : OpenClaim := { program := "ytjbmhmiaecakoaa", sum := "37c69c49ac3400c91ed76115acc5bc92f9e5375830ba86e76f1310978834cd54", func := "trimtab/trimtablaw07.ValidClones", spec := "validClones", unfollowed := true, recurses := true, plainKeys := false, apart := false, narrowed := true }
def ValidClonesUptoSaid : Prop := validClonesUptoRow.holds Try.pinned (OpenSpec.upto validClonesSpec)

/-- 'trimtablaw07.ValidDefaults', WHERE WHAT IT READS IS OF BULK AT MOST 1048576: true; the input reads as it did. -/
def validDefaultsUptoRow : OpenClaim := { program := "ytjbmhmiaecakoaa", sum := "37c69c49ac3400c91ed76115acc5bc92f9e5375830ba86e76f1310978834cd54", func := "trimtab/trimtablaw07.ValidDefaults", spec := "validDefaults", unfollowed := true, recurses := true, plainKeys := false, apart := false, narrowed := true }
def ValidDefaultsUptoSaid : Prop := validDefaultsUptoRow.holds Try.pinned (OpenSpec.upto validDefaultsSpec)

/-- 'trimtablaw11.ScrapeFull', WHERE WHAT IT READS IS OF BULK AT MOST 1048576: true; the input reads as it did. -/
def scrapeFullUptoRow : OpenClaim := { program := "ytjbmhmiaecakoaa", sum := "37c69c49ac3400c91ed76115acc5bc92f9e5375830ba86e76f1310978834cd54", func := "trimtab/trimtablaw11.ScrapeFull", spec := "scrapeFull", inPlace := ["math.Float64frombits", "math.Float64bits"], unfollowed := true, recurses := true, plainKeys := false, apart := false, narrowed := true }
def ScrapeFullUptoSaid : Prop := scrapeFullUptoRow.holds Try.pinned (OpenSpec.upto scrapeFullSpec)

/-- 'trimtablaw11.ScrapePlays', WHERE WHAT IT READS IS OF BULK AT MOST 1048576: true; the input reads as it did. -/
def scrapePlaysUptoRow : OpenClaim := { program := "ytjbmhmiaecakoaa", sum := "37c69c49ac3400c91ed76115acc5bc92f9e5375830ba86e76f1310978834cd54", func := "trimtab/trimtablaw11.ScrapePlays", spec := "scrapePlays", inPlace := ["math.Float64frombits", "math.Float64bits"], unfollowed := true, recurses := true, plainKeys := false, apart := false, narrowed := true }
def ScrapePlaysUptoSaid : Prop := scrapePlaysUptoRow.holds Try.pinned (OpenSpec.upto scrapePlaysSpec)

/-- 'trimtablaw11.ScrapeNone', WHERE WHAT IT READS IS OF BULK AT MOST 1048576: true; the input reads as it did. -/
def scrapeNoneUptoRow : OpenClaim := { program := "ytjbmhmiaecakoaa", sum := "37c69c49ac3400c91ed76115acc5bc92f9e5375830ba86e76f1310978834cd54", func := "trimtab/trimtablaw11.ScrapeNone", spec := "scrapeNone", inPlace := ["math.Float64frombits", "math.Float64bits"], unfollowed := true, recurses := true, plainKeys := false, apart := false, narrowed := true }
def ScrapeNoneUptoSaid : Prop := scrapeNoneUptoRow.holds Try.pinned (OpenSpec.upto scrapeNoneSpec)

/-- 'trimtablaw15.VictimLive', WHERE WHAT IT READS IS OF BULK AT MOST 1048576: true; the input reads as it did. -/
def victimLiveUptoRow : OpenClaim := { program := "ytjbmhmiaecakoaa", sum := "37c69c49ac3400c91ed76115acc5bc92f9e5375830ba86e76f1310978834cd54", func := "trimtab/trimtablaw15.VictimLive", spec := "victimLive", unfollowed := true, recurses := true, plainKeys := false, apart := false, narrowed := true }
def VictimLiveUptoSaid : Prop := victimLiveUptoRow.holds Try.pinned (OpenSpec.upto victimLiveSpec)

end Rows
end Go.Proofs.Ytjbmhmiaecakoaa
