/-
  No cell of these rows narrows 'for every input' (looked for: loops, veiled, ifaces, maps, wideKeys, modest, calm, conditions, laid).
  DERIVED. THE GIVEN ROWS OF THIS SEAT. 12 by the template 'for every input the law returns true; each argument reads behind the call as it read before'; 0 by the template 'total and deterministic' (their statements: YtcfcffbjdjacfaaTotals.lean).
  GIVEN WITH THE SEED: the statements are not yours to turn. If you find one false, say at which input.
  Laid BY PROGRAM, IN A SANDBOX (cutbox-rows.mjs): the forced cells as the released guide's own fill.sh prints them over the translation 2482309812496b4f… (all of the seat's roots in one cut). By AI agents, Wed Nov 11 2026. No macro, syntax, notation, axiom, sorry.
-/
import Derived.Test.YtcfcffbjdjacfaaChecked
import GoSem.Claim
import GoSem.ClaimJoined
import GoSem.ClaimMapViews
import Derived.JoinedTies
import Derived.KernelRfl
namespace Go.Proofs.Ytcfcffbjdjacfaa
/- THE CELL 'sum', in the pinned program and in every row, IS THE sha256 OF THE DUMP (.gsa) THAT YtcfcffbjdjacfaaProg.lean LOADS. Nothing in Lean hashes anything: it is a label: what it is worth is what the hold of that sum in a sandbox is worth. -/
noncomputable def Try.pinned : Pinned := { name := "ytcfcffbjdjacfaa", sum := "2482309812496b4f7485e54fbb90615eaeea1281c7b40dc3968b1515477c2426", checked := Try.checked }
namespace Rows
def none {H : Type} : Left H := { results := [], args := [] }

/-- 'platformfwlaw28.RuntimepmNewAgrees': WHATEVER THE INPUT: true; the input reads as it did. -/
def runtimepmNewAgreesSpec : ChangeSpec := { name := "runtimepmNewAgrees", fn := fun _ => fun
  | [d1, d2, d3] => { results := [.lit (.bool true)], args := [d1, d2, d3] }
  | _ => none }
def runtimepmNewAgreesRow : OpenClaim := { program := "ytcfcffbjdjacfaa", sum := "2482309812496b4f7485e54fbb90615eaeea1281c7b40dc3968b1515477c2426", func := "platformfw/platformfwlaw28.RuntimepmNewAgrees", spec := "runtimepmNewAgrees", unfollowed := true, recurses := true, plainKeys := false, apart := false }
def RuntimepmNewAgreesSaid : Prop := runtimepmNewAgreesRow.holds Try.pinned (OpenSpec.ofChange runtimepmNewAgreesSpec)

/-- ITS FALSE NEIGHBOUR: 'it returns false'. Refute it at one input. -/
def runtimepmNewAgreesWrong : ChangeSpec := { name := "runtimepmNewAgrees", fn := fun _ => fun
  | [d1, d2, d3] => { results := [.lit (.bool false)], args := [d1, d2, d3] }
  | _ => none }
def RuntimepmNewAgreesWrongFalsely : Prop := runtimepmNewAgreesRow.holds Try.pinned (OpenSpec.ofChange runtimepmNewAgreesWrong)

/-- 'platformfwlaw28.RuntimepmAdvanceSplits': WHATEVER THE INPUT: true; the input reads as it did. -/
def runtimepmAdvanceSplitsSpec : ChangeSpec := { name := "runtimepmAdvanceSplits", fn := fun _ => fun
  | [d1, d2, d3, d4] => { results := [.lit (.bool true)], args := [d1, d2, d3, d4] }
  | _ => none }
def runtimepmAdvanceSplitsRow : OpenClaim := { program := "ytcfcffbjdjacfaa", sum := "2482309812496b4f7485e54fbb90615eaeea1281c7b40dc3968b1515477c2426", func := "platformfw/platformfwlaw28.RuntimepmAdvanceSplits", spec := "runtimepmAdvanceSplits", unfollowed := true, recurses := true, plainKeys := false, apart := false }
def RuntimepmAdvanceSplitsSaid : Prop := runtimepmAdvanceSplitsRow.holds Try.pinned (OpenSpec.ofChange runtimepmAdvanceSplitsSpec)

/-- ITS FALSE NEIGHBOUR: 'it returns false'. Refute it at one input. -/
def runtimepmAdvanceSplitsWrong : ChangeSpec := { name := "runtimepmAdvanceSplits", fn := fun _ => fun
  | [d1, d2, d3, d4] => { results := [.lit (.bool false)], args := [d1, d2, d3, d4] }
  | _ => none }
def RuntimepmAdvanceSplitsWrongFalsely : Prop := runtimepmAdvanceSplitsRow.holds Try.pinned (OpenSpec.ofChange runtimepmAdvanceSplitsWrong)

/-- 'platformfwlaw28.RuntimepmNextExpiry': WHATEVER THE INPUT: true; the input reads as it did. -/
def runtimepmNextExpirySpec : ChangeSpec := { name := "runtimepmNextExpiry", fn := fun _ => fun
  | [d1, d2, d3] => { results := [.lit (.bool true)], args := [d1, d2, d3] }
  | _ => none }
def runtimepmNextExpiryRow : OpenClaim := { program := "ytcfcffbjdjacfaa", sum := "2482309812496b4f7485e54fbb90615eaeea1281c7b40dc3968b1515477c2426", func := "platformfw/platformfwlaw28.RuntimepmNextExpiry", spec := "runtimepmNextExpiry", unfollowed := true, recurses := true, plainKeys := false, apart := false }
def RuntimepmNextExpirySaid : Prop := runtimepmNextExpiryRow.holds Try.pinned (OpenSpec.ofChange runtimepmNextExpirySpec)

/-- ITS FALSE NEIGHBOUR: 'it returns false'. Refute it at one input. -/
def runtimepmNextExpiryWrong : ChangeSpec := { name := "runtimepmNextExpiry", fn := fun _ => fun
  | [d1, d2, d3] => { results := [.lit (.bool false)], args := [d1, d2, d3] }
  | _ => none }
def RuntimepmNextExpiryWrongFalsely : Prop := runtimepmNextExpiryRow.holds Try.pinned (OpenSpec.ofChange runtimepmNextExpiryWrong)

/-- 'platformfwlaw28.RuntimepmOperationsOrdered': WHATEVER THE INPUT: true; the input reads as it did. -/
def runtimepmOperationsOrderedSpec : ChangeSpec := { name := "runtimepmOperationsOrdered", fn := fun _ => fun
  | [d1, d2] => { results := [.lit (.bool true)], args := [d1, d2] }
  | _ => none }
def runtimepmOperationsOrderedRow : OpenClaim := { program := "ytcfcffbjdjacfaa", sum := "2482309812496b4f7485e54fbb90615eaeea1281c7b40dc3968b1515477c2426", func := "platformfw/platformfwlaw28.RuntimepmOperationsOrdered", spec := "runtimepmOperationsOrdered", unfollowed := true, recurses := true, plainKeys := false, apart := false }
def RuntimepmOperationsOrderedSaid : Prop := runtimepmOperationsOrderedRow.holds Try.pinned (OpenSpec.ofChange runtimepmOperationsOrderedSpec)

/-- ITS FALSE NEIGHBOUR: 'it returns false'. Refute it at one input. -/
def runtimepmOperationsOrderedWrong : ChangeSpec := { name := "runtimepmOperationsOrdered", fn := fun _ => fun
  | [d1, d2] => { results := [.lit (.bool false)], args := [d1, d2] }
  | _ => none }
def RuntimepmOperationsOrderedWrongFalsely : Prop := runtimepmOperationsOrderedRow.holds Try.pinned (OpenSpec.ofChange runtimepmOperationsOrderedWrong)

/-- 'platformfwlaw28.RuntimepmUsageCounts': WHATEVER THE INPUT: true; the input reads as it did. -/
def runtimepmUsageCountsSpec : ChangeSpec := { name := "runtimepmUsageCounts", fn := fun _ => fun
  | [d1, d2] => { results := [.lit (.bool true)], args := [d1, d2] }
  | _ => none }
def runtimepmUsageCountsRow : OpenClaim := { program := "ytcfcffbjdjacfaa", sum := "2482309812496b4f7485e54fbb90615eaeea1281c7b40dc3968b1515477c2426", func := "platformfw/platformfwlaw28.RuntimepmUsageCounts", spec := "runtimepmUsageCounts", unfollowed := true, recurses := true, plainKeys := false, apart := false }
def RuntimepmUsageCountsSaid : Prop := runtimepmUsageCountsRow.holds Try.pinned (OpenSpec.ofChange runtimepmUsageCountsSpec)

/-- ITS FALSE NEIGHBOUR: 'it returns false'. Refute it at one input. -/
def runtimepmUsageCountsWrong : ChangeSpec := { name := "runtimepmUsageCounts", fn := fun _ => fun
  | [d1, d2] => { results := [.lit (.bool false)], args := [d1, d2] }
  | _ => none }
def RuntimepmUsageCountsWrongFalsely : Prop := runtimepmUsageCountsRow.holds Try.pinned (OpenSpec.ofChange runtimepmUsageCountsWrong)

/-- 'platformfwlaw28.RuntimepmCallsAgree': WHATEVER THE INPUT: true; the input reads as it did. -/
def runtimepmCallsAgreeSpec : ChangeSpec := { name := "runtimepmCallsAgree", fn := fun _ => fun
  | [d1, d2] => { results := [.lit (.bool true)], args := [d1, d2] }
  | _ => none }
def runtimepmCallsAgreeRow : OpenClaim := { program := "ytcfcffbjdjacfaa", sum := "2482309812496b4f7485e54fbb90615eaeea1281c7b40dc3968b1515477c2426", func := "platformfw/platformfwlaw28.RuntimepmCallsAgree", spec := "runtimepmCallsAgree", unfollowed := true, recurses := true, plainKeys := false, apart := false }
def RuntimepmCallsAgreeSaid : Prop := runtimepmCallsAgreeRow.holds Try.pinned (OpenSpec.ofChange runtimepmCallsAgreeSpec)

/-- ITS FALSE NEIGHBOUR: 'it returns false'. Refute it at one input. -/
def runtimepmCallsAgreeWrong : ChangeSpec := { name := "runtimepmCallsAgree", fn := fun _ => fun
  | [d1, d2] => { results := [.lit (.bool false)], args := [d1, d2] }
  | _ => none }
def RuntimepmCallsAgreeWrongFalsely : Prop := runtimepmCallsAgreeRow.holds Try.pinned (OpenSpec.ofChange runtimepmCallsAgreeWrong)

/-- 'platformfwlaw28.RuntimepmSuppliersActive': WHATEVER THE INPUT: true; the input reads as it did. -/
def runtimepmSuppliersActiveSpec : ChangeSpec := { name := "runtimepmSuppliersActive", fn := fun _ => fun
  | [d1, d2] => { results := [.lit (.bool true)], args := [d1, d2] }
  | _ => none }
def runtimepmSuppliersActiveRow : OpenClaim := { program := "ytcfcffbjdjacfaa", sum := "2482309812496b4f7485e54fbb90615eaeea1281c7b40dc3968b1515477c2426", func := "platformfw/platformfwlaw28.RuntimepmSuppliersActive", spec := "runtimepmSuppliersActive", unfollowed := true, recurses := true, plainKeys := false, apart := false }
def RuntimepmSuppliersActiveSaid : Prop := runtimepmSuppliersActiveRow.holds Try.pinned (OpenSpec.ofChange runtimepmSuppliersActiveSpec)

/-- ITS FALSE NEIGHBOUR: 'it returns false'. Refute it at one input. -/
def runtimepmSuppliersActiveWrong : ChangeSpec := { name := "runtimepmSuppliersActive", fn := fun _ => fun
  | [d1, d2] => { results := [.lit (.bool false)], args := [d1, d2] }
  | _ => none }
def RuntimepmSuppliersActiveWrongFalsely : Prop := runtimepmSuppliersActiveRow.holds Try.pinned (OpenSpec.ofChange runtimepmSuppliersActiveWrong)

/-- 'platformfwlaw28.RuntimepmEverythingSuspends': WHATEVER THE INPUT: true; the input reads as it did. -/
def runtimepmEverythingSuspendsSpec : ChangeSpec := { name := "runtimepmEverythingSuspends", fn := fun _ => fun
  | [d1, d2] => { results := [.lit (.bool true)], args := [d1, d2] }
  | _ => none }
def runtimepmEverythingSuspendsRow : OpenClaim := { program := "ytcfcffbjdjacfaa", sum := "2482309812496b4f7485e54fbb90615eaeea1281c7b40dc3968b1515477c2426", func := "platformfw/platformfwlaw28.RuntimepmEverythingSuspends", spec := "runtimepmEverythingSuspends", unfollowed := true, recurses := true, plainKeys := false, apart := false }
def RuntimepmEverythingSuspendsSaid : Prop := runtimepmEverythingSuspendsRow.holds Try.pinned (OpenSpec.ofChange runtimepmEverythingSuspendsSpec)

/-- ITS FALSE NEIGHBOUR: 'it returns false'. Refute it at one input. -/
def runtimepmEverythingSuspendsWrong : ChangeSpec := { name := "runtimepmEverythingSuspends", fn := fun _ => fun
  | [d1, d2] => { results := [.lit (.bool false)], args := [d1, d2] }
  | _ => none }
def RuntimepmEverythingSuspendsWrongFalsely : Prop := runtimepmEverythingSuspendsRow.holds Try.pinned (OpenSpec.ofChange runtimepmEverythingSuspendsWrong)

/-- 'platformfwlaw28.RuntimepmClosure': WHATEVER THE INPUT: true; the input reads as it did. -/
def runtimepmClosureSpec : ChangeSpec := { name := "runtimepmClosure", fn := fun _ => fun
  | [d1, d2] => { results := [.lit (.bool true)], args := [d1, d2] }
  | _ => none }
def runtimepmClosureRow : OpenClaim := { program := "ytcfcffbjdjacfaa", sum := "2482309812496b4f7485e54fbb90615eaeea1281c7b40dc3968b1515477c2426", func := "platformfw/platformfwlaw28.RuntimepmClosure", spec := "runtimepmClosure", unfollowed := true, recurses := true, plainKeys := false, apart := false }
def RuntimepmClosureSaid : Prop := runtimepmClosureRow.holds Try.pinned (OpenSpec.ofChange runtimepmClosureSpec)

/-- ITS FALSE NEIGHBOUR: 'it returns false'. Refute it at one input. -/
def runtimepmClosureWrong : ChangeSpec := { name := "runtimepmClosure", fn := fun _ => fun
  | [d1, d2] => { results := [.lit (.bool false)], args := [d1, d2] }
  | _ => none }
def RuntimepmClosureWrongFalsely : Prop := runtimepmClosureRow.holds Try.pinned (OpenSpec.ofChange runtimepmClosureWrong)

/-- 'platformfwlaw28.RuntimepmDrivesDevices': WHATEVER THE INPUT: true; the input reads as it did. -/
def runtimepmDrivesDevicesSpec : ChangeSpec := { name := "runtimepmDrivesDevices", fn := fun _ => fun
  | [d1, d2, d3, d4] => { results := [.lit (.bool true)], args := [d1, d2, d3, d4] }
  | _ => none }
def runtimepmDrivesDevicesRow : OpenClaim := { program := "ytcfcffbjdjacfaa", sum := "2482309812496b4f7485e54fbb90615eaeea1281c7b40dc3968b1515477c2426", func := "platformfw/platformfwlaw28.RuntimepmDrivesDevices", spec := "runtimepmDrivesDevices", unfollowed := true, recurses := true, plainKeys := false, apart := false }
def RuntimepmDrivesDevicesSaid : Prop := runtimepmDrivesDevicesRow.holds Try.pinned (OpenSpec.ofChange runtimepmDrivesDevicesSpec)

/-- ITS FALSE NEIGHBOUR: 'it returns false'. Refute it at one input. -/
def runtimepmDrivesDevicesWrong : ChangeSpec := { name := "runtimepmDrivesDevices", fn := fun _ => fun
  | [d1, d2, d3, d4] => { results := [.lit (.bool false)], args := [d1, d2, d3, d4] }
  | _ => none }
def RuntimepmDrivesDevicesWrongFalsely : Prop := runtimepmDrivesDevicesRow.holds Try.pinned (OpenSpec.ofChange runtimepmDrivesDevicesWrong)

/-- 'platformfwlaw28.RuntimepmReleasesRails': WHATEVER THE INPUT: true; the input reads as it did. -/
def runtimepmReleasesRailsSpec : ChangeSpec := { name := "runtimepmReleasesRails", fn := fun _ => fun
  | [d1, d2, d3, d4] => { results := [.lit (.bool true)], args := [d1, d2, d3, d4] }
  | _ => none }
def runtimepmReleasesRailsRow : OpenClaim := { program := "ytcfcffbjdjacfaa", sum := "2482309812496b4f7485e54fbb90615eaeea1281c7b40dc3968b1515477c2426", func := "platformfw/platformfwlaw28.RuntimepmReleasesRails", spec := "runtimepmReleasesRails", unfollowed := true, recurses := true, plainKeys := false, apart := false }
def RuntimepmReleasesRailsSaid : Prop := runtimepmReleasesRailsRow.holds Try.pinned (OpenSpec.ofChange runtimepmReleasesRailsSpec)

/-- ITS FALSE NEIGHBOUR: 'it returns false'. Refute it at one input. -/
def runtimepmReleasesRailsWrong : ChangeSpec := { name := "runtimepmReleasesRails", fn := fun _ => fun
  | [d1, d2, d3, d4] => { results := [.lit (.bool false)], args := [d1, d2, d3, d4] }
  | _ => none }
def RuntimepmReleasesRailsWrongFalsely : Prop := runtimepmReleasesRailsRow.holds Try.pinned (OpenSpec.ofChange runtimepmReleasesRailsWrong)

/-- 'platformfwlaw28.RuntimepmInUseIsAccessible': WHATEVER THE INPUT: true; the input reads as it did. -/
def runtimepmInUseIsAccessibleSpec : ChangeSpec := { name := "runtimepmInUseIsAccessible", fn := fun _ => fun
  | [d1, d2, d3, d4] => { results := [.lit (.bool true)], args := [d1, d2, d3, d4] }
  | _ => none }
def runtimepmInUseIsAccessibleRow : OpenClaim := { program := "ytcfcffbjdjacfaa", sum := "2482309812496b4f7485e54fbb90615eaeea1281c7b40dc3968b1515477c2426", func := "platformfw/platformfwlaw28.RuntimepmInUseIsAccessible", spec := "runtimepmInUseIsAccessible", unfollowed := true, recurses := true, plainKeys := false, apart := false }
def RuntimepmInUseIsAccessibleSaid : Prop := runtimepmInUseIsAccessibleRow.holds Try.pinned (OpenSpec.ofChange runtimepmInUseIsAccessibleSpec)

/-- ITS FALSE NEIGHBOUR: 'it returns false'. Refute it at one input. -/
def runtimepmInUseIsAccessibleWrong : ChangeSpec := { name := "runtimepmInUseIsAccessible", fn := fun _ => fun
  | [d1, d2, d3, d4] => { results := [.lit (.bool false)], args := [d1, d2, d3, d4] }
  | _ => none }
def RuntimepmInUseIsAccessibleWrongFalsely : Prop := runtimepmInUseIsAccessibleRow.holds Try.pinned (OpenSpec.ofChange runtimepmInUseIsAccessibleWrong)

/- THE SECOND FORM. 'bulk': how many values and letters a reading holds, each counted each time it is reached (what is shared counts as often as it is met; a slice's spare places count too). A statement '..UptoSaid' is the law's where the arguments, and the package variables that the reading takes, are together of bulk at most 1048576: NARROWER than '..Said'. Prove '..Said' where nothing that the law and all that it calls make is longer than what came in: it says more and counts as full. Else prove '..UptoSaid'. A law counts once. -/
mutual
def uptoBulk {H : Type} : DataW H → Nat
  | .lit (.string bytes) => bytes.length + 1
  | .lit _ => 1
  | .nil => 1
  | .ptr d => uptoBulk d + 1
  | .slice elems spare => uptoBulkAll elems + uptoBulkAll spare + 1
  | .agg parts => uptoBulkAll parts + 1
  | .iface _ d => uptoBulk d + 1
  | .map entries => uptoBulkEntries entries + 1
  | .held _ => 1
def uptoBulkAll {H : Type} : List (DataW H) → Nat
  | [] => 0
  | d :: r => uptoBulk d + uptoBulkAll r
def uptoBulkEntries {H : Type} : List (Lit × DataW H) → Nat
  | [] => 0
  | x :: r => uptoBulkEntry x + uptoBulkEntries r
def uptoBulkEntry {H : Type} : Lit × DataW H → Nat
  | (.string bytes, d) => bytes.length + uptoBulk d + 1
  | (_, d) => uptoBulk d + 1
 end
def uptoSmall : (H : Type) → List (DataW H) → Bool := fun _ ds => decide (uptoBulkAll ds ≤ 1048576)
def OpenSpec.upto (s : _root_.Go.ChangeSpec) : _root_.Go.OpenSpec := { _root_.Go.OpenSpec.ofChange s with cond := some uptoSmall }

/-- 'platformfwlaw28.RuntimepmNewAgrees', WHERE WHAT IT READS IS OF BULK AT MOST 1048576: true; the input reads as it did. -/
def runtimepmNewAgreesUptoRow : OpenClaim := { program := "ytcfcffbjdjacfaa", sum := "2482309812496b4f7485e54fbb90615eaeea1281c7b40dc3968b1515477c2426", func := "platformfw/platformfwlaw28.RuntimepmNewAgrees", spec := "runtimepmNewAgrees", unfollowed := true, recurses := true, plainKeys := false, apart := false, narrowed := true }
def RuntimepmNewAgreesUptoSaid : Prop := runtimepmNewAgreesUptoRow.holds Try.pinned (OpenSpec.upto runtimepmNewAgreesSpec)

/-- 'platformfwlaw28.RuntimepmAdvanceSplits', WHERE WHAT IT READS IS OF BULK AT MOST 1048576: true; the input reads as it did. -/
def runtimepmAdvanceSplitsUptoRow : OpenClaim := { program := "ytcfcffbjdjacfaa", sum := "2482309812496b4f7485e54fbb90615eaeea1281c7b40dc3968b1515477c2426", func := "platformfw/platformfwlaw28.RuntimepmAdvanceSplits", spec := "runtimepmAdvanceSplits", unfollowed := true, recurses := true, plainKeys := false, apart := false, narrowed := true }
def RuntimepmAdvanceSplitsUptoSaid : Prop := runtimepmAdvanceSplitsUptoRow.holds Try.pinned (OpenSpec.upto runtimepmAdvanceSplitsSpec)

/-- 'platformfwlaw28.RuntimepmNextExpiry', WHERE WHAT IT READS IS OF BULK AT MOST 1048576: true; the input reads as it did. -/
def runtimepmNextExpiryUptoRow : OpenClaim := { program := "ytcfcffbjdjacfaa", sum := "2482309812496b4f7485e54fbb90615eaeea1281c7b40dc3968b1515477c2426", func := "platformfw/platformfwlaw28.RuntimepmNextExpiry", spec := "runtimepmNextExpiry", unfollowed := true, recurses := true, plainKeys := false, apart := false, narrowed := true }
def RuntimepmNextExpiryUptoSaid : Prop := runtimepmNextExpiryUptoRow.holds Try.pinned (OpenSpec.upto runtimepmNextExpirySpec)

/-- 'platformfwlaw28.RuntimepmOperationsOrdered', WHERE WHAT IT READS IS OF BULK AT MOST 1048576: true; the input reads as it did. -/
def runtimepmOperationsOrderedUptoRow : OpenClaim := { program := "ytcfcffbjdjacfaa", sum := "2482309812496b4f7485e54fbb90615eaeea1281c7b40dc3968b1515477c2426", func := "platformfw/platformfwlaw28.RuntimepmOperationsOrdered", spec := "runtimepmOperationsOrdered", unfollowed := true, recurses := true, plainKeys := false, apart := false, narrowed := true }
def RuntimepmOperationsOrderedUptoSaid : Prop := runtimepmOperationsOrderedUptoRow.holds Try.pinned (OpenSpec.upto runtimepmOperationsOrderedSpec)

/-- 'platformfwlaw28.RuntimepmUsageCounts', WHERE WHAT IT READS IS OF BULK AT MOST 1048576: true; the input reads as it did. -/
def runtimepmUsageCountsUptoRow : OpenClaim := { program := "ytcfcffbjdjacfaa", sum := "2482309812496b4f7485e54fbb90615eaeea1281c7b40dc3968b1515477c2426", func := "platformfw/platformfwlaw28.RuntimepmUsageCounts", spec := "runtimepmUsageCounts", unfollowed := true, recurses := true, plainKeys := false, apart := false, narrowed := true }
def RuntimepmUsageCountsUptoSaid : Prop := runtimepmUsageCountsUptoRow.holds Try.pinned (OpenSpec.upto runtimepmUsageCountsSpec)

/-- 'platformfwlaw28.RuntimepmCallsAgree', WHERE WHAT IT READS IS OF BULK AT MOST 1048576: true; the input reads as it did. -/
def runtimepmCallsAgreeUptoRow : OpenClaim := { program := "ytcfcffbjdjacfaa", sum := "2482309812496b4f7485e54fbb90615eaeea1281c7b40dc3968b1515477c2426", func := "platformfw/platformfwlaw28.RuntimepmCallsAgree", spec := "runtimepmCallsAgree", unfollowed := true, recurses := true, plainKeys := false, apart := false, narrowed := true }
def RuntimepmCallsAgreeUptoSaid : Prop := runtimepmCallsAgreeUptoRow.holds Try.pinned (OpenSpec.upto runtimepmCallsAgreeSpec)

/-- 'platformfwlaw28.RuntimepmSuppliersActive', WHERE WHAT IT READS IS OF BULK AT MOST 1048576: true; the input reads as it did. -/
def runtimepmSuppliersActiveUptoRow : OpenClaim := { program := "ytcfcffbjdjacfaa", sum := "2482309812496b4f7485e54fbb90615eaeea1281c7b40dc3968b1515477c2426", func := "platformfw/platformfwlaw28.RuntimepmSuppliersActive", spec := "runtimepmSuppliersActive", unfollowed := true, recurses := true, plainKeys := false, apart := false, narrowed := true }
def RuntimepmSuppliersActiveUptoSaid : Prop := runtimepmSuppliersActiveUptoRow.holds Try.pinned (OpenSpec.upto runtimepmSuppliersActiveSpec)

/-- 'platformfwlaw28.RuntimepmEverythingSuspends', WHERE WHAT IT READS IS OF BULK AT MOST 1048576: true; the input reads as it did. -/
def runtimepmEverythingSuspendsUptoRow : OpenClaim := { program := "ytcfcffbjdjacfaa", sum := "2482309812496b4f7485e54fbb90615eaeea1281c7b40dc3968b1515477c2426", func := "platformfw/platformfwlaw28.RuntimepmEverythingSuspends", spec := "runtimepmEverythingSuspends", unfollowed := true, recurses := true, plainKeys := false, apart := false, narrowed := true }
def RuntimepmEverythingSuspendsUptoSaid : Prop := runtimepmEverythingSuspendsUptoRow.holds Try.pinned (OpenSpec.upto runtimepmEverythingSuspendsSpec)

/-- 'platformfwlaw28.RuntimepmClosure', WHERE WHAT IT READS IS OF BULK AT MOST 1048576: true; the input reads as it did. -/
def runtimepmClosureUptoRow : OpenClaim := { program := "ytcfcffbjdjacfaa", sum := "2482309812496b4f7485e54fbb90615eaeea1281c7b40dc3968b1515477c2426", func := "platformfw/platformfwlaw28.RuntimepmClosure", spec := "runtimepmClosure", unfollowed := true, recurses := true, plainKeys := false, apart := false, narrowed := true }
def RuntimepmClosureUptoSaid : Prop := runtimepmClosureUptoRow.holds Try.pinned (OpenSpec.upto runtimepmClosureSpec)

/-- 'platformfwlaw28.RuntimepmDrivesDevices', WHERE WHAT IT READS IS OF BULK AT MOST 1048576: true; the input reads as it did. -/
def runtimepmDrivesDevicesUptoRow : OpenClaim := { program := "ytcfcffbjdjacfaa", sum := "2482309812496b4f7485e54fbb90615eaeea1281c7b40dc3968b1515477c2426", func := "platformfw/platformfwlaw28.RuntimepmDrivesDevices", spec := "runtimepmDrivesDevices", unfollowed := true, recurses := true, plainKeys := false, apart := false, narrowed := true }
def RuntimepmDrivesDevicesUptoSaid : Prop := runtimepmDrivesDevicesUptoRow.holds Try.pinned (OpenSpec.upto runtimepmDrivesDevicesSpec)

/-- 'platformfwlaw28.RuntimepmReleasesRails', WHERE WHAT IT READS IS OF BULK AT MOST 1048576: true; the input reads as it did. -/
def runtimepmReleasesRailsUptoRow : OpenClaim := { program := "ytcfcffbjdjacfaa", sum := "2482309812496b4f7485e54fbb90615eaeea1281c7b40dc3968b1515477c2426", func := "platformfw/platformfwlaw28.RuntimepmReleasesRails", spec := "runtimepmReleasesRails", unfollowed := true, recurses := true, plainKeys := false, apart := false, narrowed := true }
def RuntimepmReleasesRailsUptoSaid : Prop := runtimepmReleasesRailsUptoRow.holds Try.pinned (OpenSpec.upto runtimepmReleasesRailsSpec)

/-- 'platformfwlaw28.RuntimepmInUseIsAccessible', WHERE WHAT IT READS IS OF BULK AT MOST 1048576: true; the input reads as it did. -/
def runtimepmInUseIsAccessibleUptoRow : OpenClaim := { program := "ytcfcffbjdjacfaa", sum := "2482309812496b4f7485e54fbb90615eaeea1281c7b40dc3968b1515477c2426", func := "platformfw/platformfwlaw28.RuntimepmInUseIsAccessible", spec := "runtimepmInUseIsAccessible", unfollowed := true, recurses := true, plainKeys := false, apart := false, narrowed := true }
def RuntimepmInUseIsAccessibleUptoSaid : Prop := runtimepmInUseIsAccessibleUptoRow.holds Try.pinned (OpenSpec.upto runtimepmInUseIsAccessibleSpec)

end Rows
end Go.Proofs.Ytcfcffbjdjacfaa
