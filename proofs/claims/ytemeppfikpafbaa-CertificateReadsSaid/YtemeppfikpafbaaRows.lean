/-
  No cell of these rows narrows 'for every input' (looked for: loops, veiled, ifaces, maps, wideKeys, modest, calm, conditions, laid).
  DERIVED. THE GIVEN ROWS OF THIS SEAT. 16 by the template 'for every input the law returns true; each argument reads behind the call as it read before'; 0 by the template 'total and deterministic' (their statements: YtemeppfikpafbaaTotals.lean).
  GIVEN WITH THE SEED: the statements are not yours to turn. If you find one false, say at which input.
  Laid BY PROGRAM, IN A SANDBOX (cutbox-rows.mjs): the forced cells as the released guide's own fill.sh prints them over the translation 582bb8ade46208f3… (all of the seat's roots in one cut). By AI agents, Wed Nov 11 2026. No macro, syntax, notation, axiom, sorry.
-/
import Derived.Test.YtemeppfikpafbaaChecked
import GoSem.Claim
import GoSem.ClaimJoined
import GoSem.ClaimMapViews
import Derived.JoinedTies
import Derived.KernelRfl
namespace Go.Proofs.Ytemeppfikpafbaa
/- THE CELL 'sum', in the pinned program and in every row, IS THE sha256 OF THE DUMP (.gsa) THAT YtemeppfikpafbaaProg.lean LOADS. Nothing in Lean hashes anything: it is a label: what it is worth is what the hold of that sum in a sandbox is worth. -/
noncomputable def Try.pinned : Pinned := { name := "ytemeppfikpafbaa", sum := "582bb8ade46208f36b2f6d1b8840d3b8aa832c078c6bcfed4870f946df3c04c4", checked := Try.checked }
namespace Rows
def none {H : Type} : Left H := { results := [], args := [] }

/-- 'rootcauselaw45.RankDegrees': WHATEVER THE INPUT: true; the input reads as it did. -/
def rankDegreesSpec : ChangeSpec := { name := "rankDegrees", fn := fun _ => fun
  | [d] => { results := [.lit (.bool true)], args := [d] }
  | _ => none }
def rankDegreesRow : OpenClaim := { program := "ytemeppfikpafbaa", sum := "582bb8ade46208f36b2f6d1b8840d3b8aa832c078c6bcfed4870f946df3c04c4", func := "rootcause/rootcauselaw45.RankDegrees", spec := "rankDegrees", unfollowed := true, recurses := true, plainKeys := false, apart := false }
def RankDegreesSaid : Prop := rankDegreesRow.holds Try.pinned (OpenSpec.ofChange rankDegreesSpec)

/-- ITS FALSE NEIGHBOUR: 'it returns false'. Refute it at one input. -/
def rankDegreesWrong : ChangeSpec := { name := "rankDegrees", fn := fun _ => fun
  | [d] => { results := [.lit (.bool false)], args := [d] }
  | _ => none }
def RankDegreesWrongFalsely : Prop := rankDegreesRow.holds Try.pinned (OpenSpec.ofChange rankDegreesWrong)

/-- 'rootcauselaw45.RankJoint': WHATEVER THE INPUT: true; the input reads as it did. -/
def rankJointSpec : ChangeSpec := { name := "rankJoint", fn := fun _ => fun
  | [d1, d2] => { results := [.lit (.bool true)], args := [d1, d2] }
  | _ => none }
def rankJointRow : OpenClaim := { program := "ytemeppfikpafbaa", sum := "582bb8ade46208f36b2f6d1b8840d3b8aa832c078c6bcfed4870f946df3c04c4", func := "rootcause/rootcauselaw45.RankJoint", spec := "rankJoint", unfollowed := true, recurses := true, plainKeys := false, apart := false }
def RankJointSaid : Prop := rankJointRow.holds Try.pinned (OpenSpec.ofChange rankJointSpec)

/-- ITS FALSE NEIGHBOUR: 'it returns false'. Refute it at one input. -/
def rankJointWrong : ChangeSpec := { name := "rankJoint", fn := fun _ => fun
  | [d1, d2] => { results := [.lit (.bool false)], args := [d1, d2] }
  | _ => none }
def RankJointWrongFalsely : Prop := rankJointRow.holds Try.pinned (OpenSpec.ofChange rankJointWrong)

/-- 'rootcauselaw45.RankGrows': WHATEVER THE INPUT: true; the input reads as it did. -/
def rankGrowsSpec : ChangeSpec := { name := "rankGrows", fn := fun _ => fun
  | [d1, d2] => { results := [.lit (.bool true)], args := [d1, d2] }
  | _ => none }
def rankGrowsRow : OpenClaim := { program := "ytemeppfikpafbaa", sum := "582bb8ade46208f36b2f6d1b8840d3b8aa832c078c6bcfed4870f946df3c04c4", func := "rootcause/rootcauselaw45.RankGrows", spec := "rankGrows", unfollowed := true, recurses := true, plainKeys := false, apart := false }
def RankGrowsSaid : Prop := rankGrowsRow.holds Try.pinned (OpenSpec.ofChange rankGrowsSpec)

/-- ITS FALSE NEIGHBOUR: 'it returns false'. Refute it at one input. -/
def rankGrowsWrong : ChangeSpec := { name := "rankGrows", fn := fun _ => fun
  | [d1, d2] => { results := [.lit (.bool false)], args := [d1, d2] }
  | _ => none }
def RankGrowsWrongFalsely : Prop := rankGrowsRow.holds Try.pinned (OpenSpec.ofChange rankGrowsWrong)

/-- 'rootcauselaw45.RankOrder': WHATEVER THE INPUT: true; the input reads as it did. -/
def rankOrderSpec : ChangeSpec := { name := "rankOrder", fn := fun _ => fun
  | [d] => { results := [.lit (.bool true)], args := [d] }
  | _ => none }
def rankOrderRow : OpenClaim := { program := "ytemeppfikpafbaa", sum := "582bb8ade46208f36b2f6d1b8840d3b8aa832c078c6bcfed4870f946df3c04c4", func := "rootcause/rootcauselaw45.RankOrder", spec := "rankOrder", unfollowed := true, recurses := true, plainKeys := false, apart := false }
def RankOrderSaid : Prop := rankOrderRow.holds Try.pinned (OpenSpec.ofChange rankOrderSpec)

/-- ITS FALSE NEIGHBOUR: 'it returns false'. Refute it at one input. -/
def rankOrderWrong : ChangeSpec := { name := "rankOrder", fn := fun _ => fun
  | [d] => { results := [.lit (.bool false)], args := [d] }
  | _ => none }
def RankOrderWrongFalsely : Prop := rankOrderRow.holds Try.pinned (OpenSpec.ofChange rankOrderWrong)

/-- 'rootcauselaw45.RankBounds': WHATEVER THE INPUT: true; the input reads as it did. -/
def rankBoundsSpec : ChangeSpec := { name := "rankBounds", fn := fun _ => fun
  | [d1, d2] => { results := [.lit (.bool true)], args := [d1, d2] }
  | _ => none }
def rankBoundsRow : OpenClaim := { program := "ytemeppfikpafbaa", sum := "582bb8ade46208f36b2f6d1b8840d3b8aa832c078c6bcfed4870f946df3c04c4", func := "rootcause/rootcauselaw45.RankBounds", spec := "rankBounds", unfollowed := true, recurses := true, plainKeys := false, apart := false }
def RankBoundsSaid : Prop := rankBoundsRow.holds Try.pinned (OpenSpec.ofChange rankBoundsSpec)

/-- ITS FALSE NEIGHBOUR: 'it returns false'. Refute it at one input. -/
def rankBoundsWrong : ChangeSpec := { name := "rankBounds", fn := fun _ => fun
  | [d1, d2] => { results := [.lit (.bool false)], args := [d1, d2] }
  | _ => none }
def RankBoundsWrongFalsely : Prop := rankBoundsRow.holds Try.pinned (OpenSpec.ofChange rankBoundsWrong)

/-- 'rootcauselaw45.RankNone': WHATEVER THE INPUT: true; the input reads as it did. -/
def rankNoneSpec : ChangeSpec := { name := "rankNone", fn := fun _ => fun
  | [d1, d2] => { results := [.lit (.bool true)], args := [d1, d2] }
  | _ => none }
def rankNoneRow : OpenClaim := { program := "ytemeppfikpafbaa", sum := "582bb8ade46208f36b2f6d1b8840d3b8aa832c078c6bcfed4870f946df3c04c4", func := "rootcause/rootcauselaw45.RankNone", spec := "rankNone", unfollowed := true, recurses := true, plainKeys := false, apart := false }
def RankNoneSaid : Prop := rankNoneRow.holds Try.pinned (OpenSpec.ofChange rankNoneSpec)

/-- ITS FALSE NEIGHBOUR: 'it returns false'. Refute it at one input. -/
def rankNoneWrong : ChangeSpec := { name := "rankNone", fn := fun _ => fun
  | [d1, d2] => { results := [.lit (.bool false)], args := [d1, d2] }
  | _ => none }
def RankNoneWrongFalsely : Prop := rankNoneRow.holds Try.pinned (OpenSpec.ofChange rankNoneWrong)

/-- 'rootcauselaw41.CachePlays': WHATEVER THE INPUT: true; the input reads as it did. -/
def cachePlaysSpec : ChangeSpec := { name := "cachePlays", fn := fun _ => fun
  | [d1, d2] => { results := [.lit (.bool true)], args := [d1, d2] }
  | _ => none }
def cachePlaysRow : OpenClaim := { program := "ytemeppfikpafbaa", sum := "582bb8ade46208f36b2f6d1b8840d3b8aa832c078c6bcfed4870f946df3c04c4", func := "rootcause/rootcauselaw41.CachePlays", spec := "cachePlays", unfollowed := true, recurses := true, plainKeys := false, apart := false }
def CachePlaysSaid : Prop := cachePlaysRow.holds Try.pinned (OpenSpec.ofChange cachePlaysSpec)

/-- ITS FALSE NEIGHBOUR: 'it returns false'. Refute it at one input. -/
def cachePlaysWrong : ChangeSpec := { name := "cachePlays", fn := fun _ => fun
  | [d1, d2] => { results := [.lit (.bool false)], args := [d1, d2] }
  | _ => none }
def CachePlaysWrongFalsely : Prop := cachePlaysRow.holds Try.pinned (OpenSpec.ofChange cachePlaysWrong)

/-- 'rootcauselaw41.CacheApplies': WHATEVER THE INPUT: true; the input reads as it did. -/
def cacheAppliesSpec : ChangeSpec := { name := "cacheApplies", fn := fun _ => fun
  | [d1, d2, d3] => { results := [.lit (.bool true)], args := [d1, d2, d3] }
  | _ => none }
def cacheAppliesRow : OpenClaim := { program := "ytemeppfikpafbaa", sum := "582bb8ade46208f36b2f6d1b8840d3b8aa832c078c6bcfed4870f946df3c04c4", func := "rootcause/rootcauselaw41.CacheApplies", spec := "cacheApplies", unfollowed := true, recurses := true, plainKeys := false, apart := false }
def CacheAppliesSaid : Prop := cacheAppliesRow.holds Try.pinned (OpenSpec.ofChange cacheAppliesSpec)

/-- ITS FALSE NEIGHBOUR: 'it returns false'. Refute it at one input. -/
def cacheAppliesWrong : ChangeSpec := { name := "cacheApplies", fn := fun _ => fun
  | [d1, d2, d3] => { results := [.lit (.bool false)], args := [d1, d2, d3] }
  | _ => none }
def CacheAppliesWrongFalsely : Prop := cacheAppliesRow.holds Try.pinned (OpenSpec.ofChange cacheAppliesWrong)

/-- 'rootcauselaw41.CacheLimits': WHATEVER THE INPUT: true; the input reads as it did. -/
def cacheLimitsSpec : ChangeSpec := { name := "cacheLimits", fn := fun _ => fun
  | [d1, d2] => { results := [.lit (.bool true)], args := [d1, d2] }
  | _ => none }
def cacheLimitsRow : OpenClaim := { program := "ytemeppfikpafbaa", sum := "582bb8ade46208f36b2f6d1b8840d3b8aa832c078c6bcfed4870f946df3c04c4", func := "rootcause/rootcauselaw41.CacheLimits", spec := "cacheLimits", unfollowed := true, recurses := true, plainKeys := false, apart := false }
def CacheLimitsSaid : Prop := cacheLimitsRow.holds Try.pinned (OpenSpec.ofChange cacheLimitsSpec)

/-- ITS FALSE NEIGHBOUR: 'it returns false'. Refute it at one input. -/
def cacheLimitsWrong : ChangeSpec := { name := "cacheLimits", fn := fun _ => fun
  | [d1, d2] => { results := [.lit (.bool false)], args := [d1, d2] }
  | _ => none }
def CacheLimitsWrongFalsely : Prop := cacheLimitsRow.holds Try.pinned (OpenSpec.ofChange cacheLimitsWrong)

/-- 'rootcauselaw41.CacheHolds': WHATEVER THE INPUT: true; the input reads as it did. -/
def cacheHoldsSpec : ChangeSpec := { name := "cacheHolds", fn := fun _ => fun
  | [d1, d2, d3] => { results := [.lit (.bool true)], args := [d1, d2, d3] }
  | _ => none }
def cacheHoldsRow : OpenClaim := { program := "ytemeppfikpafbaa", sum := "582bb8ade46208f36b2f6d1b8840d3b8aa832c078c6bcfed4870f946df3c04c4", func := "rootcause/rootcauselaw41.CacheHolds", spec := "cacheHolds", unfollowed := true, recurses := true, plainKeys := false, apart := false }
def CacheHoldsSaid : Prop := cacheHoldsRow.holds Try.pinned (OpenSpec.ofChange cacheHoldsSpec)

/-- ITS FALSE NEIGHBOUR: 'it returns false'. Refute it at one input. -/
def cacheHoldsWrong : ChangeSpec := { name := "cacheHolds", fn := fun _ => fun
  | [d1, d2, d3] => { results := [.lit (.bool false)], args := [d1, d2, d3] }
  | _ => none }
def CacheHoldsWrongFalsely : Prop := cacheHoldsRow.holds Try.pinned (OpenSpec.ofChange cacheHoldsWrong)

/-- 'rootcauselaw41.CacheKeeps': WHATEVER THE INPUT: true; the input reads as it did. -/
def cacheKeepsSpec : ChangeSpec := { name := "cacheKeeps", fn := fun _ => fun
  | [d1, d2] => { results := [.lit (.bool true)], args := [d1, d2] }
  | _ => none }
def cacheKeepsRow : OpenClaim := { program := "ytemeppfikpafbaa", sum := "582bb8ade46208f36b2f6d1b8840d3b8aa832c078c6bcfed4870f946df3c04c4", func := "rootcause/rootcauselaw41.CacheKeeps", spec := "cacheKeeps", unfollowed := true, recurses := true, plainKeys := false, apart := false }
def CacheKeepsSaid : Prop := cacheKeepsRow.holds Try.pinned (OpenSpec.ofChange cacheKeepsSpec)

/-- ITS FALSE NEIGHBOUR: 'it returns false'. Refute it at one input. -/
def cacheKeepsWrong : ChangeSpec := { name := "cacheKeeps", fn := fun _ => fun
  | [d1, d2] => { results := [.lit (.bool false)], args := [d1, d2] }
  | _ => none }
def CacheKeepsWrongFalsely : Prop := cacheKeepsRow.holds Try.pinned (OpenSpec.ofChange cacheKeepsWrong)

/-- 'rootcauselaw41.CacheErrors': WHATEVER THE INPUT: true; the input reads as it did. -/
def cacheErrorsSpec : ChangeSpec := { name := "cacheErrors", fn := fun _ => fun
  | [d1, d2, d3] => { results := [.lit (.bool true)], args := [d1, d2, d3] }
  | _ => none }
def cacheErrorsRow : OpenClaim := { program := "ytemeppfikpafbaa", sum := "582bb8ade46208f36b2f6d1b8840d3b8aa832c078c6bcfed4870f946df3c04c4", func := "rootcause/rootcauselaw41.CacheErrors", spec := "cacheErrors", unfollowed := true, recurses := true, plainKeys := false, apart := false }
def CacheErrorsSaid : Prop := cacheErrorsRow.holds Try.pinned (OpenSpec.ofChange cacheErrorsSpec)

/-- ITS FALSE NEIGHBOUR: 'it returns false'. Refute it at one input. -/
def cacheErrorsWrong : ChangeSpec := { name := "cacheErrors", fn := fun _ => fun
  | [d1, d2, d3] => { results := [.lit (.bool false)], args := [d1, d2, d3] }
  | _ => none }
def CacheErrorsWrongFalsely : Prop := cacheErrorsRow.holds Try.pinned (OpenSpec.ofChange cacheErrorsWrong)

/-- 'rootcauselaw49.VerdictTexts': WHATEVER THE INPUT: true; the input reads as it did. -/
def verdictTextsSpec : ChangeSpec := { name := "verdictTexts", fn := fun _ => fun
  | [d] => { results := [.lit (.bool true)], args := [d] }
  | _ => none }
def verdictTextsRow : OpenClaim := { program := "ytemeppfikpafbaa", sum := "582bb8ade46208f36b2f6d1b8840d3b8aa832c078c6bcfed4870f946df3c04c4", func := "rootcause/rootcauselaw49.VerdictTexts", spec := "verdictTexts", unfollowed := true, recurses := true, plainKeys := false, apart := false }
def VerdictTextsSaid : Prop := verdictTextsRow.holds Try.pinned (OpenSpec.ofChange verdictTextsSpec)

/-- ITS FALSE NEIGHBOUR: 'it returns false'. Refute it at one input. -/
def verdictTextsWrong : ChangeSpec := { name := "verdictTexts", fn := fun _ => fun
  | [d] => { results := [.lit (.bool false)], args := [d] }
  | _ => none }
def VerdictTextsWrongFalsely : Prop := verdictTextsRow.holds Try.pinned (OpenSpec.ofChange verdictTextsWrong)

/-- 'rootcauselaw50.CertificateChecks': WHATEVER THE INPUT: true; the input reads as it did. -/
def certificateChecksSpec : ChangeSpec := { name := "certificateChecks", fn := fun _ => fun
  | [d] => { results := [.lit (.bool true)], args := [d] }
  | _ => none }
def certificateChecksRow : OpenClaim := { program := "ytemeppfikpafbaa", sum := "582bb8ade46208f36b2f6d1b8840d3b8aa832c078c6bcfed4870f946df3c04c4", func := "rootcause/rootcauselaw50.CertificateChecks", spec := "certificateChecks", unfollowed := true, recurses := true, plainKeys := false, apart := false }
def CertificateChecksSaid : Prop := certificateChecksRow.holds Try.pinned (OpenSpec.ofChange certificateChecksSpec)

/-- ITS FALSE NEIGHBOUR: 'it returns false'. Refute it at one input. -/
def certificateChecksWrong : ChangeSpec := { name := "certificateChecks", fn := fun _ => fun
  | [d] => { results := [.lit (.bool false)], args := [d] }
  | _ => none }
def CertificateChecksWrongFalsely : Prop := certificateChecksRow.holds Try.pinned (OpenSpec.ofChange certificateChecksWrong)

/-- 'rootcauselaw41.CacheValues': WHATEVER THE INPUT: true; the input reads as it did. -/
def cacheValuesSpec : ChangeSpec := { name := "cacheValues", fn := fun _ => fun
  | [d1, d2, d3] => { results := [.lit (.bool true)], args := [d1, d2, d3] }
  | _ => none }
def cacheValuesRow : OpenClaim := { program := "ytemeppfikpafbaa", sum := "582bb8ade46208f36b2f6d1b8840d3b8aa832c078c6bcfed4870f946df3c04c4", func := "rootcause/rootcauselaw41.CacheValues", spec := "cacheValues", unfollowed := true, recurses := true, plainKeys := false, apart := false }
def CacheValuesSaid : Prop := cacheValuesRow.holds Try.pinned (OpenSpec.ofChange cacheValuesSpec)

/-- ITS FALSE NEIGHBOUR: 'it returns false'. Refute it at one input. -/
def cacheValuesWrong : ChangeSpec := { name := "cacheValues", fn := fun _ => fun
  | [d1, d2, d3] => { results := [.lit (.bool false)], args := [d1, d2, d3] }
  | _ => none }
def CacheValuesWrongFalsely : Prop := cacheValuesRow.holds Try.pinned (OpenSpec.ofChange cacheValuesWrong)

/-- 'rootcauselaw50.CertificateReads': WHATEVER THE INPUT: true; the input reads as it did. -/
def certificateReadsSpec : ChangeSpec := { name := "certificateReads", fn := fun _ => fun
  | [d1, d2, d3] => { results := [.lit (.bool true)], args := [d1, d2, d3] }
  | _ => none }
def certificateReadsRow : OpenClaim := { program := "ytemeppfikpafbaa", sum := "582bb8ade46208f36b2f6d1b8840d3b8aa832c078c6bcfed4870f946df3c04c4", func := "rootcause/rootcauselaw50.CertificateReads", spec := "certificateReads", unfollowed := true, recurses := true, plainKeys := false, apart := false }
def CertificateReadsSaid : Prop := certificateReadsRow.holds Try.pinned (OpenSpec.ofChange certificateReadsSpec)

/-- ITS FALSE NEIGHBOUR: 'it returns false'. Refute it at one input. -/
def certificateReadsWrong : ChangeSpec := { name := "certificateReads", fn := fun _ => fun
  | [d1, d2, d3] => { results := [.lit (.bool false)], args := [d1, d2, d3] }
  | _ => none }
def CertificateReadsWrongFalsely : Prop := certificateReadsRow.holds Try.pinned (OpenSpec.ofChange certificateReadsWrong)

/- THE SECOND FORM. 'bulk': how many values and letters a reading holds, each counted each time it is reached (what is shared counts as often as it is met; a slice's spare places count too). A statement '..UptoSaid' is the law's where the arguments, and the package variables that the reading takes, are together of bulk at most 1048576: NARROWER than '..Said'. Prove '..Said' where nothing that the law and all that it calls make is longer than what came in: it says more and counts as full. Else prove '..UptoSaid'. A law counts once. -/
mutual
def uptoBulk {H : Type} : DataW H → Nat
  | .lit (.string bytes) => bytes.length + 1
  | .lit _ => 1
  | .nil => 1
  | .ptr d => uptoBulk d + 1
  | .slice elems spare => uptoBulkAll elems + uptoBulkAll spare + 1
  | .agg parts => uptoBulkAll parts + 1
  | .iface _ d => uptoBulk d + 1
  | .map entries => uptoBulkEntries entries + 1
  | .held _ => 1
def uptoBulkAll {H : Type} : List (DataW H) → Nat
  | [] => 0
  | d :: r => uptoBulk d + uptoBulkAll r
def uptoBulkEntries {H : Type} : List (Lit × DataW H) → Nat
  | [] => 0
  | x :: r => uptoBulkEntry x + uptoBulkEntries r
def uptoBulkEntry {H : Type} : Lit × DataW H → Nat
  | (.string bytes, d) => bytes.length + uptoBulk d + 1
  | (_, d) => uptoBulk d + 1
 end
def uptoSmall : (H : Type) → List (DataW H) → Bool := fun _ ds => decide (uptoBulkAll ds ≤ 1048576)
def OpenSpec.upto (s : _root_.Go.ChangeSpec) : _root_.Go.OpenSpec := { _root_.Go.OpenSpec.ofChange s with cond := some uptoSmall }

/-- 'rootcauselaw45.RankDegrees', WHERE WHAT IT READS IS OF BULK AT MOST 1048576: true; the input reads as it did. -/
def rankDegreesUptoRow : OpenClaim := { program := "ytemeppfikpafbaa", sum := "582bb8ade46208f36b2f6d1b8840d3b8aa832c078c6bcfed4870f946df3c04c4", func := "rootcause/rootcauselaw45.RankDegrees", spec := "rankDegrees", unfollowed := true, recurses := true, plainKeys := false, apart := false, narrowed := true }
def RankDegreesUptoSaid : Prop := rankDegreesUptoRow.holds Try.pinned (OpenSpec.upto rankDegreesSpec)

/-- 'rootcauselaw45.RankJoint', WHERE WHAT IT READS IS OF BULK AT MOST 1048576: true; the input reads as it did. -/
def rankJointUptoRow : OpenClaim := { program := "ytemeppfikpafbaa", sum := "582bb8ade46208f36b2f6d1b8840d3b8aa832c078c6bcfed4870f946df3c04c4", func := "rootcause/rootcauselaw45.RankJoint", spec := "rankJoint", unfollowed := true, recurses := true, plainKeys := false, apart := false, narrowed := true }
def RankJointUptoSaid : Prop := rankJointUptoRow.holds Try.pinned (OpenSpec.upto rankJointSpec)

/-- 'rootcauselaw45.RankGrows', WHERE WHAT IT READS IS OF BULK AT MOST 1048576: true; the input reads as it did. -/
def rankGrowsUptoRow : OpenClaim := { program := "ytemeppfikpafbaa", sum := "582bb8ade46208f36b2f6d1b8840d3b8aa832c078c6bcfed4870f946df3c04c4", func := "rootcause/rootcauselaw45.RankGrows", spec := "rankGrows", unfollowed := true, recurses := true, plainKeys := false, apart := false, narrowed := true }
def RankGrowsUptoSaid : Prop := rankGrowsUptoRow.holds Try.pinned (OpenSpec.upto rankGrowsSpec)

/-- 'rootcauselaw45.RankOrder', WHERE WHAT IT READS IS OF BULK AT MOST 1048576: true; the input reads as it did. -/
def rankOrderUptoRow : OpenClaim := { program := "ytemeppfikpafbaa", sum := "582bb8ade46208f36b2f6d1b8840d3b8aa832c078c6bcfed4870f946df3c04c4", func := "rootcause/rootcauselaw45.RankOrder", spec := "rankOrder", unfollowed := true, recurses := true, plainKeys := false, apart := false, narrowed := true }
def RankOrderUptoSaid : Prop := rankOrderUptoRow.holds Try.pinned (OpenSpec.upto rankOrderSpec)

/-- 'rootcauselaw45.RankBounds', WHERE WHAT IT READS IS OF BULK AT MOST 1048576: true; the input reads as it did. -/
def rankBoundsUptoRow : OpenClaim := { program := "ytemeppfikpafbaa", sum := "582bb8ade46208f36b2f6d1b8840d3b8aa832c078c6bcfed4870f946df3c04c4", func := "rootcause/rootcauselaw45.RankBounds", spec := "rankBounds", unfollowed := true, recurses := true, plainKeys := false, apart := false, narrowed := true }
def RankBoundsUptoSaid : Prop := rankBoundsUptoRow.holds Try.pinned (OpenSpec.upto rankBoundsSpec)

/-- 'rootcauselaw45.RankNone', WHERE WHAT IT READS IS OF BULK AT MOST 1048576: true; the input reads as it did. -/
def rankNoneUptoRow : OpenClaim := { program := "ytemeppfikpafbaa", sum := "582bb8ade46208f36b2f6d1b8840d3b8aa832c078c6bcfed4870f946df3c04c4", func := "rootcause/rootcauselaw45.RankNone", spec := "rankNone", unfollowed := true, recurses := true, plainKeys := false, apart := false, narrowed := true }
def RankNoneUptoSaid : Prop := rankNoneUptoRow.holds Try.pinned (OpenSpec.upto rankNoneSpec)

/-- 'rootcauselaw41.CachePlays', WHERE WHAT IT READS IS OF BULK AT MOST 1048576: true; the input reads as it did. -/
def cachePlaysUptoRow : OpenClaim := { program := "ytemeppfikpafbaa", sum := "582bb8ade46208f36b2f6d1b8840d3b8aa832c078c6bcfed4870f946df3c04c4", func := "rootcause/rootcauselaw41.CachePlays", spec := "cachePlays", unfollowed := true, recurses := true, plainKeys := false, apart := false, narrowed := true }
def CachePlaysUptoSaid : Prop := cachePlaysUptoRow.holds Try.pinned (OpenSpec.upto cachePlaysSpec)

/-- 'rootcauselaw41.CacheApplies', WHERE WHAT IT READS IS OF BULK AT MOST 1048576: true; the input reads as it did. -/
def cacheAppliesUptoRow : OpenClaim := { program := "ytemeppfikpafbaa", sum := "582bb8ade46208f36b2f6d1b8840d3b8aa832c078c6bcfed4870f946df3c04c4", func := "rootcause/rootcauselaw41.CacheApplies", spec := "cacheApplies", unfollowed := true, recurses := true, plainKeys := false, apart := false, narrowed := true }
def CacheAppliesUptoSaid : Prop := cacheAppliesUptoRow.holds Try.pinned (OpenSpec.upto cacheAppliesSpec)

/-- 'rootcauselaw41.CacheLimits', WHERE WHAT IT READS IS OF BULK AT MOST 1048576: true; the input reads as it did. -/
def cacheLimitsUptoRow : OpenClaim := { program := "ytemeppfikpafbaa", sum := "582bb8ade46208f36b2f6d1b8840d3b8aa832c078c6bcfed4870f946df3c04c4", func := "rootcause/rootcauselaw41.CacheLimits", spec := "cacheLimits", unfollowed := true, recurses := true, plainKeys := false, apart := false, narrowed := true }
def CacheLimitsUptoSaid : Prop := cacheLimitsUptoRow.holds Try.pinned (OpenSpec.upto cacheLimitsSpec)

/-- 'rootcauselaw41.CacheHolds', WHERE WHAT IT READS IS OF BULK AT MOST 1048576: true; the input reads as it did. -/
def cacheHoldsUptoRow : OpenClaim := { program := "ytemeppfikpafbaa", sum := "582bb8ade46208f36b2f6d1b8840d3b8aa832c078c6bcfed4870f946df3c04c4", func := "rootcause/rootcauselaw41.CacheHolds", spec := "cacheHolds", unfollowed := true, recurses := true, plainKeys := false, apart := false, narrowed := true }
def CacheHoldsUptoSaid : Prop := cacheHoldsUptoRow.holds Try.pinned (OpenSpec.upto cacheHoldsSpec)

/-- 'rootcauselaw41.CacheKeeps', WHERE WHAT IT READS IS OF BULK AT MOST 1048576: true; the input reads as it did. -/
def cacheKeepsUptoRow : OpenClaim := { program := "ytemeppfikpafbaa", sum := "582bb8ade46208f36b2f6d1b8840d3b8aa832c078c6bcfed4870f946df3c04c4", func := "rootcause/rootcauselaw41.CacheKeeps", spec := "cacheKeeps", unfollowed := true, recurses := true, plainKeys := false, apart := false, narrowed := true }
def CacheKeepsUptoSaid : Prop := cacheKeepsUptoRow.holds Try.pinned (OpenSpec.upto cacheKeepsSpec)

/-- 'rootcauselaw41.CacheErrors', WHERE WHAT IT READS IS OF BULK AT MOST 1048576: true; the input reads as it did. -/
def cacheErrorsUptoRow : OpenClaim := { program := "ytemeppfikpafbaa", sum := "582bb8ade46208f36b2f6d1b8840d3b8aa832c078c6bcfed4870f946df3c04c4", func := "rootcause/rootcauselaw41.CacheErrors", spec := "cacheErrors", unfollowed := true, recurses := true, plainKeys := false, apart := false, narrowed := true }
def CacheErrorsUptoSaid : Prop := cacheErrorsUptoRow.holds Try.pinned (OpenSpec.upto cacheErrorsSpec)

/-- 'rootcauselaw49.VerdictTexts', WHERE WHAT IT READS IS OF BULK AT MOST 1048576: true; the input reads as it did. -/
def verdictTextsUptoRow : OpenClaim := { program := "ytemeppfikpafbaa", sum := "582bb8ade46208f36b2f6d1b8840d3b8aa832c078c6bcfed4870f946df3c04c4", func := "rootcause/rootcauselaw49.VerdictTexts", spec := "verdictTexts", unfollowed := true, recurses := true, plainKeys := false, apart := false, narrowed := true }
def VerdictTextsUptoSaid : Prop := verdictTextsUptoRow.holds Try.pinned (OpenSpec.upto verdictTextsSpec)

/-- 'rootcauselaw50.CertificateChecks', WHERE WHAT IT READS IS OF BULK AT MOST 1048576: true; the input reads as it did. -/
def certificateChecksUptoRow : OpenClaim := { program := "ytemeppfikpafbaa", sum := "582bb8ade46208f36b2f6d1b8840d3b8aa832c078c6bcfed4870f946df3c04c4", func := "rootcause/rootcauselaw50.CertificateChecks", spec := "certificateChecks", unfollowed := true, recurses := true, plainKeys := false, apart := false, narrowed := true }
def CertificateChecksUptoSaid : Prop := certificateChecksUptoRow.holds Try.pinned (OpenSpec.upto certificateChecksSpec)

/-- 'rootcauselaw41.CacheValues', WHERE WHAT IT READS IS OF BULK AT MOST 1048576: true; the input reads as it did. -/
def cacheValuesUptoRow : OpenClaim := { program := "ytemeppfikpafbaa", sum := "582bb8ade46208f36b2f6d1b8840d3b8aa832c078c6bcfed4870f946df3c04c4", func := "rootcause/rootcauselaw41.CacheValues", spec := "cacheValues", unfollowed := true, recurses := true, plainKeys := false, apart := false, narrowed := true }
def CacheValuesUptoSaid : Prop := cacheValuesUptoRow.holds Try.pinned (OpenSpec.upto cacheValuesSpec)

/-- 'rootcauselaw50.CertificateReads', WHERE WHAT IT READS IS OF BULK AT MOST 1048576: true; the input reads as it did. -/
def certificateReadsUptoRow : OpenClaim := { program := "ytemeppfikpafbaa", sum := "582bb8ade46208f36b2f6d1b8840d3b8aa832c078c6bcfed4870f946df3c04c4", func := "rootcause/rootcauselaw50.CertificateReads", spec := "certificateReads", unfollowed := true, recurses := true, plainKeys := false, apart := false, narrowed := true }
def CertificateReadsUptoSaid : Prop := certificateReadsUptoRow.holds Try.pinned (OpenSpec.upto certificateReadsSpec)

end Rows
end Go.Proofs.Ytemeppfikpafbaa
