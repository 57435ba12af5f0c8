/-
  Texts of this session, part 7 of 8: the words of the walk, plain functions with the same answers as the Go functions and the proofs of it, plain lemmas. No condition.
  They are, one behind the other: RowDeviceHierarchy.
-/
import Derived.Test.YtfhhklkmbcnhnaaRows
import Derived.Test.YtfhhklkmbcnhnaaZDeviceHierarchy6

namespace Go.Proofs.Ytfhhklkmbcnhnaa.Sim
open Go
set_option linter.unusedVariables false
set_option linter.unusedSimpArgs false

open Go.ChangeShapes Go.WideShapes Go.ChangeAt Go.RowKit
namespace RowDeviceHierarchy
theorem own : ownKnob Try.prog.godebug = none := by kernel_rfl
theorem laidOut : laidOutB Try.prog = true := by kernel_rfl
set_option maxRecDepth 100000 in
theorem lifted (PU : law27_DeviceHierarchy.Pure) (os : Os) (started : os.Started) (H : Type) (enc : TypeId × Value → H) :
    ReturnsInHanded {} Try.checked os 8 .any (Rows.deviceHierarchySpec.pre6 enc Try.prog Try.f8 Rows.deviceHierarchyRow.domain false) (Rows.deviceHierarchySpec.post enc Try.prog Try.f8 false true false false) := by
  refine returnsInHanded_of_change (C := Try.checked) own started (by kernel_rfl) Try.func8
    (ChangeSpec.witness6 (enc := enc) (C := Try.checked) false ⟨#[], #[.slice none 0 0, .slice none 0 0, .slice none 0 0], []⟩ 8 (by kernel_rfl) (by kernel_rfl) (by kernel_rfl) (by kernel_rfl)) ?_
  intro W base args ds gs before hval0 hW hcnd _
  have hval : ∀ (j : Nat) t v, Try.f8.params[j]? = some t → args[j]? = some v → Value.okWide Try.prog W .any base t v := hval0
  have hW' := hW
  obtain ⟨p, q, hA0, hV, rfl, hfz, hnd⟩ := hW
  have hA : DataW.TrodAll enc Try.prog W 0 (fun _ => true) true Try.f8.params.toList args.toList ds p := hA0
  rw [Try.params8] at hA hval
  obtain ⟨v0, vs0, d0, ds0, q0, q0b, hargs, rfl, rfl, h0, r0⟩ := trodAll_cons hA
  obtain ⟨v1, vs1, d1, ds1, q1, q1b, rfl, rfl, rfl, h1, r1⟩ := trodAll_cons r0
  obtain ⟨v2, vs2, d2, ds2, q2, q2b, rfl, rfl, rfl, h2, r2⟩ := trodAll_cons r1
  obtain ⟨rfl, rfl, rfl⟩ := trodAll_nil r2
  obtain rfl : args = #[v0, v1, v2] := by cases args; simp_all
  obtain ⟨rfl, rfl⟩ := trodVars_none hV
  have k0 := h0
  have lt0 : ∀ x ∈ q0, x.block < W.heap.size := by obtain ⟨m, hm⟩ := k0; exact DataW.trod_lt m _ _ _ hm
  obtain ⟨b0, len0, cap0, rfl⟩ := okWide_slice Try.underlying22 (hval 0 22 v0 rfl rfl)
  obtain ⟨fu0, hf0⟩ := h0
  obtain ⟨a0, ⟨B0, c0, e0, R0⟩, w0⟩ := (Opens.slice Try.underlying22 (by decide) (by kernel_rfl) opens_api_PowerDevice) enc W true _ _ _ hf0
  injection e0 with e0; injection e0 with e0a e0b e0c; subst e0a; subst e0b; subst e0c
  have k1 := h1
  have lt1 : ∀ x ∈ q1, x.block < W.heap.size := by obtain ⟨m, hm⟩ := k1; exact DataW.trod_lt m _ _ _ hm
  obtain ⟨b1, len1, cap1, rfl⟩ := okWide_slice Try.underlying47 (hval 1 47 v1 rfl rfl)
  obtain ⟨fu1, hf1⟩ := h1
  obtain ⟨a1, ⟨B1, c1, e1, R1⟩, w1⟩ := (Opens.slice Try.underlying47 (by decide) (by kernel_rfl) opens_api_Rail) enc W true _ _ _ hf1
  injection e1 with e1; injection e1 with e1a e1b e1c; subst e1a; subst e1b; subst e1c
  have k2 := h2
  have lt2 : ∀ x ∈ q2, x.block < W.heap.size := by obtain ⟨m, hm⟩ := k2; exact DataW.trod_lt m _ _ _ hm
  obtain ⟨b2, len2, cap2, rfl⟩ := okWide_slice Try.underlying48 (hval 2 48 v2 rfl rfl)
  obtain ⟨fu2, hf2⟩ := h2
  obtain ⟨a2, ⟨B2, c2, e2, R2⟩, w2⟩ := (Opens.slice Try.underlying48 (by decide) (by kernel_rfl) opens_law27_Call) enc W true _ _ _ hf2
  injection e2 with e2; injection e2 with e2a e2b e2c; subst e2a; subst e2b; subst e2c
  clear hA0 hval0
  have H := PU a0 a1 a2 w0 w1 w2
  refine (law27_DeviceHierarchy.calls (p0 := a0) (p1 := a1) (p2 := a2) (w := W) (g := fun _ => 0) 1 R0 (fun c (hc : c = 0) => by omega) R1 (fun c (hc : c = 0) => by omega) R2 (fun c (hc : c = 0) => by omega) H).mono fun e W' he => ?_
  obtain ⟨v, rfl, g', rfl, F⟩ := he
  have bel := F.below
  exact ⟨_, rfl, _, _, _, [], _, [], hW', trodAll_mk1 (shut_bool Try.underlying4 _), (trodAll_cons_mk (Below.trod laidOut (by kernel_rfl) (of_decide_eq_true (by kernel_rfl)) k0 bel lt0) (trodAll_cons_mk (Below.trod laidOut (by kernel_rfl) (of_decide_eq_true (by kernel_rfl)) k1 bel lt1) (trodAll_cons_mk (Below.trod laidOut (by kernel_rfl) (of_decide_eq_true (by kernel_rfl)) k2 bel lt2) trodAll_mk0))), rfl, bel.frame _, fun h => by cases h⟩
theorem over (PU : law27_DeviceHierarchy.Pure) : Rows.deviceHierarchyRow.holds Try.pinned (OpenSpec.ofChange Rows.deviceHierarchySpec) :=
  OpenClaim.holds_of_wide 8 Try.f8 rfl rfl rfl rfl rfl rfl rfl ⟨rfl, rfl, rfl, rfl, rfl⟩ rfl rfl rfl rfl rfl (by kernel_rfl) Try.func8 (by kernel_rfl)
    (of_decide_eq_true (by kernel_rfl)) (by unfold Func.isWrapper; first | (rw [if_pos (by decide +kernel)]; kernel_rfl) | (rw [if_neg (by decide +kernel)]; exact ⟨rfl, rfl⟩))
    (fun os started H enc _ => lifted PU os started H enc)
end RowDeviceHierarchy

end Go.Proofs.Ytfhhklkmbcnhnaa.Sim
