/-
  No cell of these rows narrows 'for every input' (looked for: loops, veiled, ifaces, maps, wideKeys, modest, calm, conditions, laid).
  DERIVED. THE GIVEN ROWS OF THIS SEAT. 11 by the template 'for every input the law returns true; each argument reads behind the call as it read before'; 0 by the template 'total and deterministic' (their statements: YthmjgadmadlpkaaTotals.lean).
  GIVEN WITH THE SEED: the statements are not yours to turn. If you find one false, say at which input.
  Laid BY PROGRAM, IN A SANDBOX (cutbox-rows.mjs): the forced cells as the released guide's own fill.sh prints them over the translation 3a4108120f65f91c… (all of the seat's roots in one cut). By AI agents, Wed Nov 11 2026. No macro, syntax, notation, axiom, sorry.
-/
import Derived.Test.YthmjgadmadlpkaaChecked
import GoSem.Claim
import GoSem.ClaimJoined
import GoSem.ClaimMapViews
import Derived.JoinedTies
import Derived.KernelRfl
namespace Go.Proofs.Ythmjgadmadlpkaa
/- THE CELL 'sum', in the pinned program and in every row, IS THE sha256 OF THE DUMP (.gsa) THAT YthmjgadmadlpkaaProg.lean LOADS. Nothing in Lean hashes anything: it is a label: what it is worth is what the hold of that sum in a sandbox is worth. -/
noncomputable def Try.pinned : Pinned := { name := "ythmjgadmadlpkaa", sum := "3a4108120f65f91ce117fe986e3f55aae1e070223aa49186d2c45351b6fe6d08", checked := Try.checked }
namespace Rows
def none {H : Type} : Left H := { results := [], args := [] }

/-- 'platformfwlaw31.ResumeScheduleAgrees': WHATEVER THE INPUT: true; the input reads as it did. -/
def resumeScheduleAgreesSpec : ChangeSpec := { name := "resumeScheduleAgrees", fn := fun _ => fun
  | [d1, d2, d3, d4] => { results := [.lit (.bool true)], args := [d1, d2, d3, d4] }
  | _ => none }
def resumeScheduleAgreesRow : OpenClaim := { program := "ythmjgadmadlpkaa", sum := "3a4108120f65f91ce117fe986e3f55aae1e070223aa49186d2c45351b6fe6d08", func := "platformfw/platformfwlaw31.ResumeScheduleAgrees", spec := "resumeScheduleAgrees", unfollowed := true, recurses := true, plainKeys := false, apart := false }
def ResumeScheduleAgreesSaid : Prop := resumeScheduleAgreesRow.holds Try.pinned (OpenSpec.ofChange resumeScheduleAgreesSpec)

/-- ITS FALSE NEIGHBOUR: 'it returns false'. Refute it at one input. -/
def resumeScheduleAgreesWrong : ChangeSpec := { name := "resumeScheduleAgrees", fn := fun _ => fun
  | [d1, d2, d3, d4] => { results := [.lit (.bool false)], args := [d1, d2, d3, d4] }
  | _ => none }
def ResumeScheduleAgreesWrongFalsely : Prop := resumeScheduleAgreesRow.holds Try.pinned (OpenSpec.ofChange resumeScheduleAgreesWrong)

/-- 'platformfwlaw31.ResumeScheduleIsValid': WHATEVER THE INPUT: true; the input reads as it did. -/
def resumeScheduleIsValidSpec : ChangeSpec := { name := "resumeScheduleIsValid", fn := fun _ => fun
  | [d1, d2, d3, d4] => { results := [.lit (.bool true)], args := [d1, d2, d3, d4] }
  | _ => none }
def resumeScheduleIsValidRow : OpenClaim := { program := "ythmjgadmadlpkaa", sum := "3a4108120f65f91ce117fe986e3f55aae1e070223aa49186d2c45351b6fe6d08", func := "platformfw/platformfwlaw31.ResumeScheduleIsValid", spec := "resumeScheduleIsValid", unfollowed := true, recurses := true, plainKeys := false, apart := false }
def ResumeScheduleIsValidSaid : Prop := resumeScheduleIsValidRow.holds Try.pinned (OpenSpec.ofChange resumeScheduleIsValidSpec)

/-- ITS FALSE NEIGHBOUR: 'it returns false'. Refute it at one input. -/
def resumeScheduleIsValidWrong : ChangeSpec := { name := "resumeScheduleIsValid", fn := fun _ => fun
  | [d1, d2, d3, d4] => { results := [.lit (.bool false)], args := [d1, d2, d3, d4] }
  | _ => none }
def ResumeScheduleIsValidWrongFalsely : Prop := resumeScheduleIsValidRow.holds Try.pinned (OpenSpec.ofChange resumeScheduleIsValidWrong)

/-- 'platformfwlaw31.ResumeBounds': WHATEVER THE INPUT: true; the input reads as it did. -/
def resumeBoundsSpec : ChangeSpec := { name := "resumeBounds", fn := fun _ => fun
  | [d1, d2, d3, d4] => { results := [.lit (.bool true)], args := [d1, d2, d3, d4] }
  | _ => none }
def resumeBoundsRow : OpenClaim := { program := "ythmjgadmadlpkaa", sum := "3a4108120f65f91ce117fe986e3f55aae1e070223aa49186d2c45351b6fe6d08", func := "platformfw/platformfwlaw31.ResumeBounds", spec := "resumeBounds", unfollowed := true, recurses := true, plainKeys := false, apart := false }
def ResumeBoundsSaid : Prop := resumeBoundsRow.holds Try.pinned (OpenSpec.ofChange resumeBoundsSpec)

/-- ITS FALSE NEIGHBOUR: 'it returns false'. Refute it at one input. -/
def resumeBoundsWrong : ChangeSpec := { name := "resumeBounds", fn := fun _ => fun
  | [d1, d2, d3, d4] => { results := [.lit (.bool false)], args := [d1, d2, d3, d4] }
  | _ => none }
def ResumeBoundsWrongFalsely : Prop := resumeBoundsRow.holds Try.pinned (OpenSpec.ofChange resumeBoundsWrong)

/-- 'platformfwlaw31.ResumeManyWorkers': WHATEVER THE INPUT: true; the input reads as it did. -/
def resumeManyWorkersSpec : ChangeSpec := { name := "resumeManyWorkers", fn := fun _ => fun
  | [d1, d2, d3] => { results := [.lit (.bool true)], args := [d1, d2, d3] }
  | _ => none }
def resumeManyWorkersRow : OpenClaim := { program := "ythmjgadmadlpkaa", sum := "3a4108120f65f91ce117fe986e3f55aae1e070223aa49186d2c45351b6fe6d08", func := "platformfw/platformfwlaw31.ResumeManyWorkers", spec := "resumeManyWorkers", unfollowed := true, recurses := true, plainKeys := false, apart := false }
def ResumeManyWorkersSaid : Prop := resumeManyWorkersRow.holds Try.pinned (OpenSpec.ofChange resumeManyWorkersSpec)

/-- ITS FALSE NEIGHBOUR: 'it returns false'. Refute it at one input. -/
def resumeManyWorkersWrong : ChangeSpec := { name := "resumeManyWorkers", fn := fun _ => fun
  | [d1, d2, d3] => { results := [.lit (.bool false)], args := [d1, d2, d3] }
  | _ => none }
def ResumeManyWorkersWrongFalsely : Prop := resumeManyWorkersRow.holds Try.pinned (OpenSpec.ofChange resumeManyWorkersWrong)

/-- 'platformfwlaw31.ResumeOneWorker': WHATEVER THE INPUT: true; the input reads as it did. -/
def resumeOneWorkerSpec : ChangeSpec := { name := "resumeOneWorker", fn := fun _ => fun
  | [d1, d2, d3] => { results := [.lit (.bool true)], args := [d1, d2, d3] }
  | _ => none }
def resumeOneWorkerRow : OpenClaim := { program := "ythmjgadmadlpkaa", sum := "3a4108120f65f91ce117fe986e3f55aae1e070223aa49186d2c45351b6fe6d08", func := "platformfw/platformfwlaw31.ResumeOneWorker", spec := "resumeOneWorker", unfollowed := true, recurses := true, plainKeys := false, apart := false }
def ResumeOneWorkerSaid : Prop := resumeOneWorkerRow.holds Try.pinned (OpenSpec.ofChange resumeOneWorkerSpec)

/-- ITS FALSE NEIGHBOUR: 'it returns false'. Refute it at one input. -/
def resumeOneWorkerWrong : ChangeSpec := { name := "resumeOneWorker", fn := fun _ => fun
  | [d1, d2, d3] => { results := [.lit (.bool false)], args := [d1, d2, d3] }
  | _ => none }
def ResumeOneWorkerWrongFalsely : Prop := resumeOneWorkerRow.holds Try.pinned (OpenSpec.ofChange resumeOneWorkerWrong)

/-- 'platformfwlaw31.ResumeVerifyAgrees': WHATEVER THE INPUT: true; the input reads as it did. -/
def resumeVerifyAgreesSpec : ChangeSpec := { name := "resumeVerifyAgrees", fn := fun _ => fun
  | [d1, d2, d3, d4, d5, d6, d7, d8] => { results := [.lit (.bool true)], args := [d1, d2, d3, d4, d5, d6, d7, d8] }
  | _ => none }
def resumeVerifyAgreesRow : OpenClaim := { program := "ythmjgadmadlpkaa", sum := "3a4108120f65f91ce117fe986e3f55aae1e070223aa49186d2c45351b6fe6d08", func := "platformfw/platformfwlaw31.ResumeVerifyAgrees", spec := "resumeVerifyAgrees", unfollowed := true, recurses := true, plainKeys := false, apart := false }
def ResumeVerifyAgreesSaid : Prop := resumeVerifyAgreesRow.holds Try.pinned (OpenSpec.ofChange resumeVerifyAgreesSpec)

/-- ITS FALSE NEIGHBOUR: 'it returns false'. Refute it at one input. -/
def resumeVerifyAgreesWrong : ChangeSpec := { name := "resumeVerifyAgrees", fn := fun _ => fun
  | [d1, d2, d3, d4, d5, d6, d7, d8] => { results := [.lit (.bool false)], args := [d1, d2, d3, d4, d5, d6, d7, d8] }
  | _ => none }
def ResumeVerifyAgreesWrongFalsely : Prop := resumeVerifyAgreesRow.holds Try.pinned (OpenSpec.ofChange resumeVerifyAgreesWrong)

/-- 'platformfwlaw31.ResumeMoreWorkersOnIndependentDevices': WHATEVER THE INPUT: true; the input reads as it did. -/
def resumeMoreWorkersOnIndependentDevicesSpec : ChangeSpec := { name := "resumeMoreWorkersOnIndependentDevices", fn := fun _ => fun
  | [d1, d2, d3] => { results := [.lit (.bool true)], args := [d1, d2, d3] }
  | _ => none }
def resumeMoreWorkersOnIndependentDevicesRow : OpenClaim := { program := "ythmjgadmadlpkaa", sum := "3a4108120f65f91ce117fe986e3f55aae1e070223aa49186d2c45351b6fe6d08", func := "platformfw/platformfwlaw31.ResumeMoreWorkersOnIndependentDevices", spec := "resumeMoreWorkersOnIndependentDevices", unfollowed := true, recurses := true, plainKeys := false, apart := false }
def ResumeMoreWorkersOnIndependentDevicesSaid : Prop := resumeMoreWorkersOnIndependentDevicesRow.holds Try.pinned (OpenSpec.ofChange resumeMoreWorkersOnIndependentDevicesSpec)

/-- ITS FALSE NEIGHBOUR: 'it returns false'. Refute it at one input. -/
def resumeMoreWorkersOnIndependentDevicesWrong : ChangeSpec := { name := "resumeMoreWorkersOnIndependentDevices", fn := fun _ => fun
  | [d1, d2, d3] => { results := [.lit (.bool false)], args := [d1, d2, d3] }
  | _ => none }
def ResumeMoreWorkersOnIndependentDevicesWrongFalsely : Prop := resumeMoreWorkersOnIndependentDevicesRow.holds Try.pinned (OpenSpec.ofChange resumeMoreWorkersOnIndependentDevicesWrong)

/-- 'platformfwlaw31.ResumeScales': WHATEVER THE INPUT: true; the input reads as it did. -/
def resumeScalesSpec : ChangeSpec := { name := "resumeScales", fn := fun _ => fun
  | [d1, d2, d3, d4, d5] => { results := [.lit (.bool true)], args := [d1, d2, d3, d4, d5] }
  | _ => none }
def resumeScalesRow : OpenClaim := { program := "ythmjgadmadlpkaa", sum := "3a4108120f65f91ce117fe986e3f55aae1e070223aa49186d2c45351b6fe6d08", func := "platformfw/platformfwlaw31.ResumeScales", spec := "resumeScales", unfollowed := true, recurses := true, plainKeys := false, apart := false }
def ResumeScalesSaid : Prop := resumeScalesRow.holds Try.pinned (OpenSpec.ofChange resumeScalesSpec)

/-- ITS FALSE NEIGHBOUR: 'it returns false'. Refute it at one input. -/
def resumeScalesWrong : ChangeSpec := { name := "resumeScales", fn := fun _ => fun
  | [d1, d2, d3, d4, d5] => { results := [.lit (.bool false)], args := [d1, d2, d3, d4, d5] }
  | _ => none }
def ResumeScalesWrongFalsely : Prop := resumeScalesRow.holds Try.pinned (OpenSpec.ofChange resumeScalesWrong)

/-- 'platformfwlaw31.ResumeFollowsLevels': WHATEVER THE INPUT: true; the input reads as it did. -/
def resumeFollowsLevelsSpec : ChangeSpec := { name := "resumeFollowsLevels", fn := fun _ => fun
  | [d1, d2, d3] => { results := [.lit (.bool true)], args := [d1, d2, d3] }
  | _ => none }
def resumeFollowsLevelsRow : OpenClaim := { program := "ythmjgadmadlpkaa", sum := "3a4108120f65f91ce117fe986e3f55aae1e070223aa49186d2c45351b6fe6d08", func := "platformfw/platformfwlaw31.ResumeFollowsLevels", spec := "resumeFollowsLevels", unfollowed := true, recurses := true, plainKeys := false, apart := false }
def ResumeFollowsLevelsSaid : Prop := resumeFollowsLevelsRow.holds Try.pinned (OpenSpec.ofChange resumeFollowsLevelsSpec)

/-- ITS FALSE NEIGHBOUR: 'it returns false'. Refute it at one input. -/
def resumeFollowsLevelsWrong : ChangeSpec := { name := "resumeFollowsLevels", fn := fun _ => fun
  | [d1, d2, d3] => { results := [.lit (.bool false)], args := [d1, d2, d3] }
  | _ => none }
def ResumeFollowsLevelsWrongFalsely : Prop := resumeFollowsLevelsRow.holds Try.pinned (OpenSpec.ofChange resumeFollowsLevelsWrong)

/-- 'platformfwlaw31.ResumeDrivesDevices': WHATEVER THE INPUT: true; the input reads as it did. -/
def resumeDrivesDevicesSpec : ChangeSpec := { name := "resumeDrivesDevices", fn := fun _ => fun
  | [d1, d2, d3, d4] => { results := [.lit (.bool true)], args := [d1, d2, d3, d4] }
  | _ => none }
def resumeDrivesDevicesRow : OpenClaim := { program := "ythmjgadmadlpkaa", sum := "3a4108120f65f91ce117fe986e3f55aae1e070223aa49186d2c45351b6fe6d08", func := "platformfw/platformfwlaw31.ResumeDrivesDevices", spec := "resumeDrivesDevices", unfollowed := true, recurses := true, plainKeys := false, apart := false }
def ResumeDrivesDevicesSaid : Prop := resumeDrivesDevicesRow.holds Try.pinned (OpenSpec.ofChange resumeDrivesDevicesSpec)

/-- ITS FALSE NEIGHBOUR: 'it returns false'. Refute it at one input. -/
def resumeDrivesDevicesWrong : ChangeSpec := { name := "resumeDrivesDevices", fn := fun _ => fun
  | [d1, d2, d3, d4] => { results := [.lit (.bool false)], args := [d1, d2, d3, d4] }
  | _ => none }
def ResumeDrivesDevicesWrongFalsely : Prop := resumeDrivesDevicesRow.holds Try.pinned (OpenSpec.ofChange resumeDrivesDevicesWrong)

/-- 'platformfwlaw31.ResumeIgnoresImpliedLinks': WHATEVER THE INPUT: true; the input reads as it did. -/
def resumeIgnoresImpliedLinksSpec : ChangeSpec := { name := "resumeIgnoresImpliedLinks", fn := fun _ => fun
  | [d1, d2, d3, d4] => { results := [.lit (.bool true)], args := [d1, d2, d3, d4] }
  | _ => none }
def resumeIgnoresImpliedLinksRow : OpenClaim := { program := "ythmjgadmadlpkaa", sum := "3a4108120f65f91ce117fe986e3f55aae1e070223aa49186d2c45351b6fe6d08", func := "platformfw/platformfwlaw31.ResumeIgnoresImpliedLinks", spec := "resumeIgnoresImpliedLinks", unfollowed := true, recurses := true, plainKeys := false, apart := false }
def ResumeIgnoresImpliedLinksSaid : Prop := resumeIgnoresImpliedLinksRow.holds Try.pinned (OpenSpec.ofChange resumeIgnoresImpliedLinksSpec)

/-- ITS FALSE NEIGHBOUR: 'it returns false'. Refute it at one input. -/
def resumeIgnoresImpliedLinksWrong : ChangeSpec := { name := "resumeIgnoresImpliedLinks", fn := fun _ => fun
  | [d1, d2, d3, d4] => { results := [.lit (.bool false)], args := [d1, d2, d3, d4] }
  | _ => none }
def ResumeIgnoresImpliedLinksWrongFalsely : Prop := resumeIgnoresImpliedLinksRow.holds Try.pinned (OpenSpec.ofChange resumeIgnoresImpliedLinksWrong)

/- THE SECOND FORM. 'bulk': how many values and letters a reading holds, each counted each time it is reached (what is shared counts as often as it is met; a slice's spare places count too). A statement '..UptoSaid' is the law's where the arguments, and the package variables that the reading takes, are together of bulk at most 1048576: NARROWER than '..Said'. Prove '..Said' where nothing that the law and all that it calls make is longer than what came in: it says more and counts as full. Else prove '..UptoSaid'. A law counts once. -/
mutual
def uptoBulk {H : Type} : DataW H → Nat
  | .lit (.string bytes) => bytes.length + 1
  | .lit _ => 1
  | .nil => 1
  | .ptr d => uptoBulk d + 1
  | .slice elems spare => uptoBulkAll elems + uptoBulkAll spare + 1
  | .agg parts => uptoBulkAll parts + 1
  | .iface _ d => uptoBulk d + 1
  | .map entries => uptoBulkEntries entries + 1
  | .held _ => 1
def uptoBulkAll {H : Type} : List (DataW H) → Nat
  | [] => 0
  | d :: r => uptoBulk d + uptoBulkAll r
def uptoBulkEntries {H : Type} : List (Lit × DataW H) → Nat
  | [] => 0
  | x :: r => uptoBulkEntry x + uptoBulkEntries r
def uptoBulkEntry {H : Type} : Lit × DataW H → Nat
  | (.string bytes, d) => bytes.length + uptoBulk d + 1
  | (_, d) => uptoBulk d + 1
 end
def uptoSmall : (H : Type) → List (DataW H) → Bool := fun _ ds => decide (uptoBulkAll ds ≤ 1048576)
def OpenSpec.upto (s : _root_.Go.ChangeSpec) : _root_.Go.OpenSpec := { _root_.Go.OpenSpec.ofChange s with cond := some uptoSmall }

/-- 'platformfwlaw31.ResumeScheduleAgrees', WHERE WHAT IT READS IS OF BULK AT MOST 1048576: true; the input reads as it did. -/
def resumeScheduleAgreesUptoRow : OpenClaim := { program := "ythmjgadmadlpkaa", sum := "3a4108120f65f91ce117fe986e3f55aae1e070223aa49186d2c45351b6fe6d08", func := "platformfw/platformfwlaw31.ResumeScheduleAgrees", spec := "resumeScheduleAgrees", unfollowed := true, recurses := true, plainKeys := false, apart := false, narrowed := true }
def ResumeScheduleAgreesUptoSaid : Prop := resumeScheduleAgreesUptoRow.holds Try.pinned (OpenSpec.upto resumeScheduleAgreesSpec)

/-- 'platformfwlaw31.ResumeScheduleIsValid', WHERE WHAT IT READS IS OF BULK AT MOST 1048576: true; the input reads as it did. -/
def resumeScheduleIsValidUptoRow : OpenClaim := { program := "ythmjgadmadlpkaa", sum := "3a4108120f65f91ce117fe986e3f55aae1e070223aa49186d2c45351b6fe6d08", func := "platformfw/platformfwlaw31.ResumeScheduleIsValid", spec := "resumeScheduleIsValid", unfollowed := true, recurses := true, plainKeys := false, apart := false, narrowed := true }
def ResumeScheduleIsValidUptoSaid : Prop := resumeScheduleIsValidUptoRow.holds Try.pinned (OpenSpec.upto resumeScheduleIsValidSpec)

/-- 'platformfwlaw31.ResumeBounds', WHERE WHAT IT READS IS OF BULK AT MOST 1048576: true; the input reads as it did. -/
def resumeBoundsUptoRow : OpenClaim := { program := "ythmjgadmadlpkaa", sum := "3a4108120f65f91ce117fe986e3f55aae1e070223aa49186d2c45351b6fe6d08", func := "platformfw/platformfwlaw31.ResumeBounds", spec := "resumeBounds", unfollowed := true, recurses := true, plainKeys := false, apart := false, narrowed := true }
def ResumeBoundsUptoSaid : Prop := resumeBoundsUptoRow.holds Try.pinned (OpenSpec.upto resumeBoundsSpec)

/-- 'platformfwlaw31.ResumeManyWorkers', WHERE WHAT IT READS IS OF BULK AT MOST 1048576: true; the input reads as it did. -/
def resumeManyWorkersUptoRow : OpenClaim := { program := "ythmjgadmadlpkaa", sum := "3a4108120f65f91ce117fe986e3f55aae1e070223aa49186d2c45351b6fe6d08", func := "platformfw/platformfwlaw31.ResumeManyWorkers", spec := "resumeManyWorkers", unfollowed := true, recurses := true, plainKeys := false, apart := false, narrowed := true }
def ResumeManyWorkersUptoSaid : Prop := resumeManyWorkersUptoRow.holds Try.pinned (OpenSpec.upto resumeManyWorkersSpec)

/-- 'platformfwlaw31.ResumeOneWorker', WHERE WHAT IT READS IS OF BULK AT MOST 1048576: true; the input reads as it did. -/
def resumeOneWorkerUptoRow : OpenClaim := { program := "ythmjgadmadlpkaa", sum := "3a4108120f65f91ce117fe986e3f55aae1e070223aa49186d2c45351b6fe6d08", func := "platformfw/platformfwlaw31.ResumeOneWorker", spec := "resumeOneWorker", unfollowed := true, recurses := true, plainKeys := false, apart := false, narrowed := true }
def ResumeOneWorkerUptoSaid : Prop := resumeOneWorkerUptoRow.holds Try.pinned (OpenSpec.upto resumeOneWorkerSpec)

/-- 'platformfwlaw31.ResumeVerifyAgrees', WHERE WHAT IT READS IS OF BULK AT MOST 1048576: true; the input reads as it did. -/
def resumeVerifyAgreesUptoRow : OpenClaim := { program := "ythmjgadmadlpkaa", sum := "3a4108120f65f91ce117fe986e3f55aae1e070223aa49186d2c45351b6fe6d08", func := "platformfw/platformfwlaw31.ResumeVerifyAgrees", spec := "resumeVerifyAgrees", unfollowed := true, recurses := true, plainKeys := false, apart := false, narrowed := true }
def ResumeVerifyAgreesUptoSaid : Prop := resumeVerifyAgreesUptoRow.holds Try.pinned (OpenSpec.upto resumeVerifyAgreesSpec)

/-- 'platformfwlaw31.ResumeMoreWorkersOnIndependentDevices', WHERE WHAT IT READS IS OF BULK AT MOST 1048576: true; the input reads as it did. -/
def resumeMoreWorkersOnIndependentDevicesUptoRow : OpenClaim := { program := "ythmjgadmadlpkaa", sum := "3a4108120f65f91ce117fe986e3f55aae1e070223aa49186d2c45351b6fe6d08", func := "platformfw/platformfwlaw31.ResumeMoreWorkersOnIndependentDevices", spec := "resumeMoreWorkersOnIndependentDevices", unfollowed := true, recurses := true, plainKeys := false, apart := false, narrowed := true }
def ResumeMoreWorkersOnIndependentDevicesUptoSaid : Prop := resumeMoreWorkersOnIndependentDevicesUptoRow.holds Try.pinned (OpenSpec.upto resumeMoreWorkersOnIndependentDevicesSpec)

/-- 'platformfwlaw31.ResumeScales', WHERE WHAT IT READS IS OF BULK AT MOST 1048576: true; the input reads as it did. -/
def resumeScalesUptoRow : OpenClaim := { program := "ythmjgadmadlpkaa", sum := "3a4108120f65f91ce117fe986e3f55aae1e070223aa49186d2c45351b6fe6d08", func := "platformfw/platformfwlaw31.ResumeScales", spec := "resumeScales", unfollowed := true, recurses := true, plainKeys := false, apart := false, narrowed := true }
def ResumeScalesUptoSaid : Prop := resumeScalesUptoRow.holds Try.pinned (OpenSpec.upto resumeScalesSpec)

/-- 'platformfwlaw31.ResumeFollowsLevels', WHERE WHAT IT READS IS OF BULK AT MOST 1048576: true; the input reads as it did. -/
def resumeFollowsLevelsUptoRow : OpenClaim := { program := "ythmjgadmadlpkaa", sum := "3a4108120f65f91ce117fe986e3f55aae1e070223aa49186d2c45351b6fe6d08", func := "platformfw/platformfwlaw31.ResumeFollowsLevels", spec := "resumeFollowsLevels", unfollowed := true, recurses := true, plainKeys := false, apart := false, narrowed := true }
def ResumeFollowsLevelsUptoSaid : Prop := resumeFollowsLevelsUptoRow.holds Try.pinned (OpenSpec.upto resumeFollowsLevelsSpec)

/-- 'platformfwlaw31.ResumeDrivesDevices', WHERE WHAT IT READS IS OF BULK AT MOST 1048576: true; the input reads as it did. -/
def resumeDrivesDevicesUptoRow : OpenClaim := { program := "ythmjgadmadlpkaa", sum := "3a4108120f65f91ce117fe986e3f55aae1e070223aa49186d2c45351b6fe6d08", func := "platformfw/platformfwlaw31.ResumeDrivesDevices", spec := "resumeDrivesDevices", unfollowed := true, recurses := true, plainKeys := false, apart := false, narrowed := true }
def ResumeDrivesDevicesUptoSaid : Prop := resumeDrivesDevicesUptoRow.holds Try.pinned (OpenSpec.upto resumeDrivesDevicesSpec)

/-- 'platformfwlaw31.ResumeIgnoresImpliedLinks', WHERE WHAT IT READS IS OF BULK AT MOST 1048576: true; the input reads as it did. -/
def resumeIgnoresImpliedLinksUptoRow : OpenClaim := { program := "ythmjgadmadlpkaa", sum := "3a4108120f65f91ce117fe986e3f55aae1e070223aa49186d2c45351b6fe6d08", func := "platformfw/platformfwlaw31.ResumeIgnoresImpliedLinks", spec := "resumeIgnoresImpliedLinks", unfollowed := true, recurses := true, plainKeys := false, apart := false, narrowed := true }
def ResumeIgnoresImpliedLinksUptoSaid : Prop := resumeIgnoresImpliedLinksUptoRow.holds Try.pinned (OpenSpec.upto resumeIgnoresImpliedLinksSpec)

end Rows
end Go.Proofs.Ythmjgadmadlpkaa
