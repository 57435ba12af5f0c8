/-
  No cell of these rows narrows 'for every input' (looked for: loops, veiled, ifaces, maps, wideKeys, modest, calm, conditions, laid).
  DERIVED. THE GIVEN ROWS OF THIS SEAT. 10 by the template 'for every input the law returns true; each argument reads behind the call as it read before'; 0 by the template 'total and deterministic' (their statements: YtfhhklkmbcnhnaaTotals.lean).
  GIVEN WITH THE SEED: the statements are not yours to turn. If you find one false, say at which input.
  Laid BY PROGRAM, IN A SANDBOX (cutbox-rows.mjs): the forced cells as the released guide's own fill.sh prints them over the translation 37a3b36a7dfa2f5d… (all of the seat's roots in one cut). By AI agents, Wed Nov 11 2026. No macro, syntax, notation, axiom, sorry.
-/
import Derived.Test.YtfhhklkmbcnhnaaChecked
import GoSem.Claim
import GoSem.ClaimJoined
import GoSem.ClaimMapViews
import Derived.JoinedTies
import Derived.KernelRfl
namespace Go.Proofs.Ytfhhklkmbcnhnaa
/- THE CELL 'sum', in the pinned program and in every row, IS THE sha256 OF THE DUMP (.gsa) THAT YtfhhklkmbcnhnaaProg.lean LOADS. Nothing in Lean hashes anything: it is a label: what it is worth is what the hold of that sum in a sandbox is worth. -/
noncomputable def Try.pinned : Pinned := { name := "ytfhhklkmbcnhnaa", sum := "37a3b36a7dfa2f5d079bf1598f89f11b7ada1d0a4b6f13a6a977fd32eed1a948", checked := Try.checked }
namespace Rows
def none {H : Type} : Left H := { results := [], args := [] }

/-- 'platformfwlaw27.DeviceCheckAgrees': WHATEVER THE INPUT: true; the input reads as it did. -/
def deviceCheckAgreesSpec : ChangeSpec := { name := "deviceCheckAgrees", fn := fun _ => fun
  | [d1, d2, d3, d4, d5] => { results := [.lit (.bool true)], args := [d1, d2, d3, d4, d5] }
  | _ => none }
def deviceCheckAgreesRow : OpenClaim := { program := "ytfhhklkmbcnhnaa", sum := "37a3b36a7dfa2f5d079bf1598f89f11b7ada1d0a4b6f13a6a977fd32eed1a948", func := "platformfw/platformfwlaw27.DeviceCheckAgrees", spec := "deviceCheckAgrees", plainKeys := false, apart := false }
def DeviceCheckAgreesSaid : Prop := deviceCheckAgreesRow.holds Try.pinned (OpenSpec.ofChange deviceCheckAgreesSpec)

/-- ITS FALSE NEIGHBOUR: 'it returns false'. Refute it at one input. -/
def deviceCheckAgreesWrong : ChangeSpec := { name := "deviceCheckAgrees", fn := fun _ => fun
  | [d1, d2, d3, d4, d5] => { results := [.lit (.bool false)], args := [d1, d2, d3, d4, d5] }
  | _ => none }
def DeviceCheckAgreesWrongFalsely : Prop := deviceCheckAgreesRow.holds Try.pinned (OpenSpec.ofChange deviceCheckAgreesWrong)

/-- 'platformfwlaw27.DeviceTargetAgrees': WHATEVER THE INPUT: true; the input reads as it did. -/
def deviceTargetAgreesSpec : ChangeSpec := { name := "deviceTargetAgrees", fn := fun _ => fun
  | [d1, d2, d3] => { results := [.lit (.bool true)], args := [d1, d2, d3] }
  | _ => none }
def deviceTargetAgreesRow : OpenClaim := { program := "ytfhhklkmbcnhnaa", sum := "37a3b36a7dfa2f5d079bf1598f89f11b7ada1d0a4b6f13a6a977fd32eed1a948", func := "platformfw/platformfwlaw27.DeviceTargetAgrees", spec := "deviceTargetAgrees", plainKeys := false, apart := false }
def DeviceTargetAgreesSaid : Prop := deviceTargetAgreesRow.holds Try.pinned (OpenSpec.ofChange deviceTargetAgreesSpec)

/-- ITS FALSE NEIGHBOUR: 'it returns false'. Refute it at one input. -/
def deviceTargetAgreesWrong : ChangeSpec := { name := "deviceTargetAgrees", fn := fun _ => fun
  | [d1, d2, d3] => { results := [.lit (.bool false)], args := [d1, d2, d3] }
  | _ => none }
def DeviceTargetAgreesWrongFalsely : Prop := deviceTargetAgreesRow.holds Try.pinned (OpenSpec.ofChange deviceTargetAgreesWrong)

/-- 'platformfwlaw27.DeviceTargetPermitsWake': WHATEVER THE INPUT: true; the input reads as it did. -/
def deviceTargetPermitsWakeSpec : ChangeSpec := { name := "deviceTargetPermitsWake", fn := fun _ => fun
  | [d1, d2] => { results := [.lit (.bool true)], args := [d1, d2] }
  | _ => none }
def deviceTargetPermitsWakeRow : OpenClaim := { program := "ytfhhklkmbcnhnaa", sum := "37a3b36a7dfa2f5d079bf1598f89f11b7ada1d0a4b6f13a6a977fd32eed1a948", func := "platformfw/platformfwlaw27.DeviceTargetPermitsWake", spec := "deviceTargetPermitsWake", plainKeys := false, apart := false }
def DeviceTargetPermitsWakeSaid : Prop := deviceTargetPermitsWakeRow.holds Try.pinned (OpenSpec.ofChange deviceTargetPermitsWakeSpec)

/-- ITS FALSE NEIGHBOUR: 'it returns false'. Refute it at one input. -/
def deviceTargetPermitsWakeWrong : ChangeSpec := { name := "deviceTargetPermitsWake", fn := fun _ => fun
  | [d1, d2] => { results := [.lit (.bool false)], args := [d1, d2] }
  | _ => none }
def DeviceTargetPermitsWakeWrongFalsely : Prop := deviceTargetPermitsWakeRow.holds Try.pinned (OpenSpec.ofChange deviceTargetPermitsWakeWrong)

/-- 'platformfwlaw27.DeviceChangeAgrees': WHATEVER THE INPUT: true; the input reads as it did. -/
def deviceChangeAgreesSpec : ChangeSpec := { name := "deviceChangeAgrees", fn := fun _ => fun
  | [d1, d2, d3] => { results := [.lit (.bool true)], args := [d1, d2, d3] }
  | _ => none }
def deviceChangeAgreesRow : OpenClaim := { program := "ytfhhklkmbcnhnaa", sum := "37a3b36a7dfa2f5d079bf1598f89f11b7ada1d0a4b6f13a6a977fd32eed1a948", func := "platformfw/platformfwlaw27.DeviceChangeAgrees", spec := "deviceChangeAgrees", plainKeys := false, apart := false }
def DeviceChangeAgreesSaid : Prop := deviceChangeAgreesRow.holds Try.pinned (OpenSpec.ofChange deviceChangeAgreesSpec)

/-- ITS FALSE NEIGHBOUR: 'it returns false'. Refute it at one input. -/
def deviceChangeAgreesWrong : ChangeSpec := { name := "deviceChangeAgrees", fn := fun _ => fun
  | [d1, d2, d3] => { results := [.lit (.bool false)], args := [d1, d2, d3] }
  | _ => none }
def DeviceChangeAgreesWrongFalsely : Prop := deviceChangeAgreesRow.holds Try.pinned (OpenSpec.ofChange deviceChangeAgreesWrong)

/-- 'platformfwlaw27.DeviceChangeIsReversible': WHATEVER THE INPUT: true; the input reads as it did. -/
def deviceChangeIsReversibleSpec : ChangeSpec := { name := "deviceChangeIsReversible", fn := fun _ => fun
  | [d1, d2, d3] => { results := [.lit (.bool true)], args := [d1, d2, d3] }
  | _ => none }
def deviceChangeIsReversibleRow : OpenClaim := { program := "ytfhhklkmbcnhnaa", sum := "37a3b36a7dfa2f5d079bf1598f89f11b7ada1d0a4b6f13a6a977fd32eed1a948", func := "platformfw/platformfwlaw27.DeviceChangeIsReversible", spec := "deviceChangeIsReversible", plainKeys := false, apart := false }
def DeviceChangeIsReversibleSaid : Prop := deviceChangeIsReversibleRow.holds Try.pinned (OpenSpec.ofChange deviceChangeIsReversibleSpec)

/-- ITS FALSE NEIGHBOUR: 'it returns false'. Refute it at one input. -/
def deviceChangeIsReversibleWrong : ChangeSpec := { name := "deviceChangeIsReversible", fn := fun _ => fun
  | [d1, d2, d3] => { results := [.lit (.bool false)], args := [d1, d2, d3] }
  | _ => none }
def DeviceChangeIsReversibleWrongFalsely : Prop := deviceChangeIsReversibleRow.holds Try.pinned (OpenSpec.ofChange deviceChangeIsReversibleWrong)

/-- 'platformfwlaw27.DeviceHierarchy': WHATEVER THE INPUT: true; the input reads as it did. -/
def deviceHierarchySpec : ChangeSpec := { name := "deviceHierarchy", fn := fun _ => fun
  | [d1, d2, d3] => { results := [.lit (.bool true)], args := [d1, d2, d3] }
  | _ => none }
def deviceHierarchyRow : OpenClaim := { program := "ytfhhklkmbcnhnaa", sum := "37a3b36a7dfa2f5d079bf1598f89f11b7ada1d0a4b6f13a6a977fd32eed1a948", func := "platformfw/platformfwlaw27.DeviceHierarchy", spec := "deviceHierarchy", unfollowed := true, recurses := true, plainKeys := false, apart := false }
def DeviceHierarchySaid : Prop := deviceHierarchyRow.holds Try.pinned (OpenSpec.ofChange deviceHierarchySpec)

/-- ITS FALSE NEIGHBOUR: 'it returns false'. Refute it at one input. -/
def deviceHierarchyWrong : ChangeSpec := { name := "deviceHierarchy", fn := fun _ => fun
  | [d1, d2, d3] => { results := [.lit (.bool false)], args := [d1, d2, d3] }
  | _ => none }
def DeviceHierarchyWrongFalsely : Prop := deviceHierarchyRow.holds Try.pinned (OpenSpec.ofChange deviceHierarchyWrong)

/-- 'platformfwlaw27.DeviceRailsMatchStates': WHATEVER THE INPUT: true; the input reads as it did. -/
def deviceRailsMatchStatesSpec : ChangeSpec := { name := "deviceRailsMatchStates", fn := fun _ => fun
  | [d1, d2, d3] => { results := [.lit (.bool true)], args := [d1, d2, d3] }
  | _ => none }
def deviceRailsMatchStatesRow : OpenClaim := { program := "ytfhhklkmbcnhnaa", sum := "37a3b36a7dfa2f5d079bf1598f89f11b7ada1d0a4b6f13a6a977fd32eed1a948", func := "platformfw/platformfwlaw27.DeviceRailsMatchStates", spec := "deviceRailsMatchStates", unfollowed := true, recurses := true, plainKeys := false, apart := false }
def DeviceRailsMatchStatesSaid : Prop := deviceRailsMatchStatesRow.holds Try.pinned (OpenSpec.ofChange deviceRailsMatchStatesSpec)

/-- ITS FALSE NEIGHBOUR: 'it returns false'. Refute it at one input. -/
def deviceRailsMatchStatesWrong : ChangeSpec := { name := "deviceRailsMatchStates", fn := fun _ => fun
  | [d1, d2, d3] => { results := [.lit (.bool false)], args := [d1, d2, d3] }
  | _ => none }
def DeviceRailsMatchStatesWrongFalsely : Prop := deviceRailsMatchStatesRow.holds Try.pinned (OpenSpec.ofChange deviceRailsMatchStatesWrong)

/-- 'platformfwlaw27.DevicePowerUp': WHATEVER THE INPUT: true; the input reads as it did. -/
def devicePowerUpSpec : ChangeSpec := { name := "devicePowerUp", fn := fun _ => fun
  | [d1, d2, d3, d4] => { results := [.lit (.bool true)], args := [d1, d2, d3, d4] }
  | _ => none }
def devicePowerUpRow : OpenClaim := { program := "ytfhhklkmbcnhnaa", sum := "37a3b36a7dfa2f5d079bf1598f89f11b7ada1d0a4b6f13a6a977fd32eed1a948", func := "platformfw/platformfwlaw27.DevicePowerUp", spec := "devicePowerUp", unfollowed := true, recurses := true, plainKeys := false, apart := false }
def DevicePowerUpSaid : Prop := devicePowerUpRow.holds Try.pinned (OpenSpec.ofChange devicePowerUpSpec)

/-- ITS FALSE NEIGHBOUR: 'it returns false'. Refute it at one input. -/
def devicePowerUpWrong : ChangeSpec := { name := "devicePowerUp", fn := fun _ => fun
  | [d1, d2, d3, d4] => { results := [.lit (.bool false)], args := [d1, d2, d3, d4] }
  | _ => none }
def DevicePowerUpWrongFalsely : Prop := devicePowerUpRow.holds Try.pinned (OpenSpec.ofChange devicePowerUpWrong)

/-- 'platformfwlaw27.DeviceAccessiblePath': WHATEVER THE INPUT: true; the input reads as it did. -/
def deviceAccessiblePathSpec : ChangeSpec := { name := "deviceAccessiblePath", fn := fun _ => fun
  | [d1, d2, d3, d4, d5] => { results := [.lit (.bool true)], args := [d1, d2, d3, d4, d5] }
  | _ => none }
def deviceAccessiblePathRow : OpenClaim := { program := "ytfhhklkmbcnhnaa", sum := "37a3b36a7dfa2f5d079bf1598f89f11b7ada1d0a4b6f13a6a977fd32eed1a948", func := "platformfw/platformfwlaw27.DeviceAccessiblePath", spec := "deviceAccessiblePath", unfollowed := true, recurses := true, plainKeys := false, apart := false }
def DeviceAccessiblePathSaid : Prop := deviceAccessiblePathRow.holds Try.pinned (OpenSpec.ofChange deviceAccessiblePathSpec)

/-- ITS FALSE NEIGHBOUR: 'it returns false'. Refute it at one input. -/
def deviceAccessiblePathWrong : ChangeSpec := { name := "deviceAccessiblePath", fn := fun _ => fun
  | [d1, d2, d3, d4, d5] => { results := [.lit (.bool false)], args := [d1, d2, d3, d4, d5] }
  | _ => none }
def DeviceAccessiblePathWrongFalsely : Prop := deviceAccessiblePathRow.holds Try.pinned (OpenSpec.ofChange deviceAccessiblePathWrong)

/-- 'platformfwlaw27.DeviceTreeAgrees': WHATEVER THE INPUT: true; the input reads as it did. -/
def deviceTreeAgreesSpec : ChangeSpec := { name := "deviceTreeAgrees", fn := fun _ => fun
  | [d1, d2, d3, d4] => { results := [.lit (.bool true)], args := [d1, d2, d3, d4] }
  | _ => none }
def deviceTreeAgreesRow : OpenClaim := { program := "ytfhhklkmbcnhnaa", sum := "37a3b36a7dfa2f5d079bf1598f89f11b7ada1d0a4b6f13a6a977fd32eed1a948", func := "platformfw/platformfwlaw27.DeviceTreeAgrees", spec := "deviceTreeAgrees", unfollowed := true, recurses := true, plainKeys := false, apart := false }
def DeviceTreeAgreesSaid : Prop := deviceTreeAgreesRow.holds Try.pinned (OpenSpec.ofChange deviceTreeAgreesSpec)

/-- ITS FALSE NEIGHBOUR: 'it returns false'. Refute it at one input. -/
def deviceTreeAgreesWrong : ChangeSpec := { name := "deviceTreeAgrees", fn := fun _ => fun
  | [d1, d2, d3, d4] => { results := [.lit (.bool false)], args := [d1, d2, d3, d4] }
  | _ => none }
def DeviceTreeAgreesWrongFalsely : Prop := deviceTreeAgreesRow.holds Try.pinned (OpenSpec.ofChange deviceTreeAgreesWrong)

/- THE SECOND FORM. 'bulk': how many values and letters a reading holds, each counted each time it is reached (what is shared counts as often as it is met; a slice's spare places count too). A statement '..UptoSaid' is the law's where the arguments, and the package variables that the reading takes, are together of bulk at most 1048576: NARROWER than '..Said'. Prove '..Said' where nothing that the law and all that it calls make is longer than what came in: it says more and counts as full. Else prove '..UptoSaid'. A law counts once. -/
mutual
def uptoBulk {H : Type} : DataW H → Nat
  | .lit (.string bytes) => bytes.length + 1
  | .lit _ => 1
  | .nil => 1
  | .ptr d => uptoBulk d + 1
  | .slice elems spare => uptoBulkAll elems + uptoBulkAll spare + 1
  | .agg parts => uptoBulkAll parts + 1
  | .iface _ d => uptoBulk d + 1
  | .map entries => uptoBulkEntries entries + 1
  | .held _ => 1
def uptoBulkAll {H : Type} : List (DataW H) → Nat
  | [] => 0
  | d :: r => uptoBulk d + uptoBulkAll r
def uptoBulkEntries {H : Type} : List (Lit × DataW H) → Nat
  | [] => 0
  | x :: r => uptoBulkEntry x + uptoBulkEntries r
def uptoBulkEntry {H : Type} : Lit × DataW H → Nat
  | (.string bytes, d) => bytes.length + uptoBulk d + 1
  | (_, d) => uptoBulk d + 1
 end
def uptoSmall : (H : Type) → List (DataW H) → Bool := fun _ ds => decide (uptoBulkAll ds ≤ 1048576)
def OpenSpec.upto (s : _root_.Go.ChangeSpec) : _root_.Go.OpenSpec := { _root_.Go.OpenSpec.ofChange s with cond := some uptoSmall }

/-- 'platformfwlaw27.DeviceCheckAgrees', WHERE WHAT IT READS IS OF BULK AT MOST 1048576: true; the input reads as it did. -/
def deviceCheckAgreesUptoRow : OpenClaim := { program := "ytfhhklkmbcnhnaa", sum := "37a3b36a7dfa2f5d079bf1598f89f11b7ada1d0a4b6f13a6a977fd32eed1a948", func := "platformfw/platformfwlaw27.DeviceCheckAgrees", spec := "deviceCheckAgrees", plainKeys := false, apart := false, narrowed := true }
def DeviceCheckAgreesUptoSaid : Prop := deviceCheckAgreesUptoRow.holds Try.pinned (OpenSpec.upto deviceCheckAgreesSpec)

/-- 'platformfwlaw27.DeviceTargetAgrees', WHERE WHAT IT READS IS OF BULK AT MOST 1048576: true; the input reads as it did. -/
def deviceTargetAgreesUptoRow : OpenClaim := { program := "ytfhhklkmbcnhnaa", sum := "37a3b36a7dfa2f5d079bf1598f89f11b7ada1d0a4b6f13a6a977fd32eed1a948", func := "platformfw/platformfwlaw27.DeviceTargetAgrees", spec := "deviceTargetAgrees", plainKeys := false, apart := false, narrowed := true }
def DeviceTargetAgreesUptoSaid : Prop := deviceTargetAgreesUptoRow.holds Try.pinned (OpenSpec.upto deviceTargetAgreesSpec)

/-- 'platformfwlaw27.DeviceTargetPermitsWake', WHERE WHAT IT READS IS OF BULK AT MOST 1048576: true; the input reads as it did. -/
def deviceTargetPermitsWakeUptoRow : OpenClaim := { program := "ytfhhklkmbcnhnaa", sum := "37a3b36a7dfa2f5d079bf1598f89f11b7ada1d0a4b6f13a6a977fd32eed1a948", func := "platformfw/platformfwlaw27.DeviceTargetPermitsWake", spec := "deviceTargetPermitsWake", plainKeys := false, apart := false, narrowed := true }
def DeviceTargetPermitsWakeUptoSaid : Prop := deviceTargetPermitsWakeUptoRow.holds Try.pinned (OpenSpec.upto deviceTargetPermitsWakeSpec)

/-- 'platformfwlaw27.DeviceChangeAgrees', WHERE WHAT IT READS IS OF BULK AT MOST 1048576: true; the input reads as it did. -/
def deviceChangeAgreesUptoRow : OpenClaim := { program := "ytfhhklkmbcnhnaa", sum := "37a3b36a7dfa2f5d079bf1598f89f11b7ada1d0a4b6f13a6a977fd32eed1a948", func := "platformfw/platformfwlaw27.DeviceChangeAgrees", spec := "deviceChangeAgrees", plainKeys := false, apart := false, narrowed := true }
def DeviceChangeAgreesUptoSaid : Prop := deviceChangeAgreesUptoRow.holds Try.pinned (OpenSpec.upto deviceChangeAgreesSpec)

/-- 'platformfwlaw27.DeviceChangeIsReversible', WHERE WHAT IT READS IS OF BULK AT MOST 1048576: true; the input reads as it did. -/
def deviceChangeIsReversibleUptoRow : OpenClaim := { program := "ytfhhklkmbcnhnaa", sum := "37a3b36a7dfa2f5d079bf1598f89f11b7ada1d0a4b6f13a6a977fd32eed1a948", func := "platformfw/platformfwlaw27.DeviceChangeIsReversible", spec := "deviceChangeIsReversible", plainKeys := false, apart := false, narrowed := true }
def DeviceChangeIsReversibleUptoSaid : Prop := deviceChangeIsReversibleUptoRow.holds Try.pinned (OpenSpec.upto deviceChangeIsReversibleSpec)

/-- 'platformfwlaw27.DeviceHierarchy', WHERE WHAT IT READS IS OF BULK AT MOST 1048576: true; the input reads as it did. -/
def deviceHierarchyUptoRow : OpenClaim := { program := "ytfhhklkmbcnhnaa", sum := "37a3b36a7dfa2f5d079bf1598f89f11b7ada1d0a4b6f13a6a977fd32eed1a948", func := "platformfw/platformfwlaw27.DeviceHierarchy", spec := "deviceHierarchy", unfollowed := true, recurses := true, plainKeys := false, apart := false, narrowed := true }
def DeviceHierarchyUptoSaid : Prop := deviceHierarchyUptoRow.holds Try.pinned (OpenSpec.upto deviceHierarchySpec)

/-- 'platformfwlaw27.DeviceRailsMatchStates', WHERE WHAT IT READS IS OF BULK AT MOST 1048576: true; the input reads as it did. -/
def deviceRailsMatchStatesUptoRow : OpenClaim := { program := "ytfhhklkmbcnhnaa", sum := "37a3b36a7dfa2f5d079bf1598f89f11b7ada1d0a4b6f13a6a977fd32eed1a948", func := "platformfw/platformfwlaw27.DeviceRailsMatchStates", spec := "deviceRailsMatchStates", unfollowed := true, recurses := true, plainKeys := false, apart := false, narrowed := true }
def DeviceRailsMatchStatesUptoSaid : Prop := deviceRailsMatchStatesUptoRow.holds Try.pinned (OpenSpec.upto deviceRailsMatchStatesSpec)

/-- 'platformfwlaw27.DevicePowerUp', WHERE WHAT IT READS IS OF BULK AT MOST 1048576: true; the input reads as it did. -/
def devicePowerUpUptoRow : OpenClaim := { program := "ytfhhklkmbcnhnaa", sum := "37a3b36a7dfa2f5d079bf1598f89f11b7ada1d0a4b6f13a6a977fd32eed1a948", func := "platformfw/platformfwlaw27.DevicePowerUp", spec := "devicePowerUp", unfollowed := true, recurses := true, plainKeys := false, apart := false, narrowed := true }
def DevicePowerUpUptoSaid : Prop := devicePowerUpUptoRow.holds Try.pinned (OpenSpec.upto devicePowerUpSpec)

/-- 'platformfwlaw27.DeviceAccessiblePath', WHERE WHAT IT READS IS OF BULK AT MOST 1048576: true; the input reads as it did. -/
def deviceAccessiblePathUptoRow : OpenClaim := { program := "ytfhhklkmbcnhnaa", sum := "37a3b36a7dfa2f5d079bf1598f89f11b7ada1d0a4b6f13a6a977fd32eed1a948", func := "platformfw/platformfwlaw27.DeviceAccessiblePath", spec := "deviceAccessiblePath", unfollowed := true, recurses := true, plainKeys := false, apart := false, narrowed := true }
def DeviceAccessiblePathUptoSaid : Prop := deviceAccessiblePathUptoRow.holds Try.pinned (OpenSpec.upto deviceAccessiblePathSpec)

/-- 'platformfwlaw27.DeviceTreeAgrees', WHERE WHAT IT READS IS OF BULK AT MOST 1048576: true; the input reads as it did. -/
def deviceTreeAgreesUptoRow : OpenClaim := { program := "ytfhhklkmbcnhnaa", sum := "37a3b36a7dfa2f5d079bf1598f89f11b7ada1d0a4b6f13a6a977fd32eed1a948", func := "platformfw/platformfwlaw27.DeviceTreeAgrees", spec := "deviceTreeAgrees", unfollowed := true, recurses := true, plainKeys := false, apart := false, narrowed := true }
def DeviceTreeAgreesUptoSaid : Prop := deviceTreeAgreesUptoRow.holds Try.pinned (OpenSpec.upto deviceTreeAgreesSpec)

end Rows
end Go.Proofs.Ytfhhklkmbcnhnaa
