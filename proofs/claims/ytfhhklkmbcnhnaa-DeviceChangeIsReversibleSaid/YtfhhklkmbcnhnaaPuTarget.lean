/-
  The plain law behind DeviceTargetAgrees.
-/
import Derived.Test.YtfhhklkmbcnhnaaLd
namespace Go.Proofs.Ytfhhklkmbcnhnaa.Sim
open Go
set_option linter.unusedVariables false

theorem one_made (raw : api_PowerDevice) (n : Int) (h0 : 0 ≤ n) (hn : n < 1000) (h : Wf_api_PowerDevice raw) : ∃ d, law27_Some.f [raw] n = some [d] ∧ Made n d := by
  obtain ⟨r, h1, h2, h3⟩ := some_ok [raw] n h0 hn (by simp; exact Short.of h)
  match r, h2 with
  | [d], _ => exact ⟨d, h1, h3 d (by simp)⟩

theorem targetAgrees : law27_DeviceTargetAgrees.Pure := by
  intro raw system wake h _
  obtain ⟨d, h1, h2⟩ := one_made raw 3 (by omega) (by omega) h
  obtain ⟨s, e1, l1, u1⟩ := mod_ok (x := system) (n := 6) (by omega) (by omega)
  obtain ⟨r, e2⟩ := target_some raw system wake
  obtain ⟨q, e3⟩ := target_some d s wake
  unfold law27_DeviceTargetAgrees.f
  simp only [h1, e1, target_same, e2, Option.bind_some, show idx [d] 0 = some d from rfl, e3, awake_ok, beq_self_eq_true, Bool.and_self, if_true]

theorem targetPermitsWake : law27_DeviceTargetPermitsWake.Pure := by
  intro raw system h _
  obtain ⟨d, h1, h2⟩ := one_made raw 3 (by omega) (by omega) h
  obtain ⟨s, e1, l1, u1⟩ := mod_ok (x := system) (n := 6) (by omega) (by omega)
  obtain ⟨x, hx, hm⟩ : ∃ x, idx d.Deepest.l s = some x ∧ ∀ s', s = s' + 1 → 0 ≤ s' → ∃ y, idx d.Deepest.l s' = some y ∧ y ≤ x := by
    obtain ⟨q0, q1, q2, q3, q4, q5, q6⟩ := h2.deep
    have : s = 0 ∨ s = 1 ∨ s = 2 ∨ s = 3 ∨ s = 4 ∨ s = 5 := by omega
    rcases this with rfl | rfl | rfl | rfl | rfl | rfl
    · exact ⟨_, rfl, fun s' e h => by omega⟩
    · exact ⟨_, rfl, fun s' e h => by obtain rfl : s' = 0 := by omega
                                      exact ⟨_, rfl, by show d.Deepest.a0 ≤ d.Deepest.a1; omega⟩⟩
    · exact ⟨_, rfl, fun s' e h => by obtain rfl : s' = 1 := by omega
                                      exact ⟨_, rfl, by show d.Deepest.a1 ≤ d.Deepest.a2; omega⟩⟩
    · exact ⟨_, rfl, fun s' e h => by obtain rfl : s' = 2 := by omega
                                      exact ⟨_, rfl, by show d.Deepest.a2 ≤ d.Deepest.a3; omega⟩⟩
    · exact ⟨_, rfl, fun s' e h => by obtain rfl : s' = 3 := by omega
                                      exact ⟨_, rfl, by show d.Deepest.a3 ≤ d.Deepest.a4; omega⟩⟩
    · exact ⟨_, rfl, fun s' e h => by obtain rfl : s' = 4 := by omega
                                      exact ⟨_, rfl, by show d.Deepest.a4 ≤ d.Deepest.a5; omega⟩⟩
  unfold law27_DeviceTargetPermitsWake.f
  simp only [h1, e1, Option.bind_some, show idx [d] 0 = some d from rfl, target_ok d s true l1 u1 hx, target_ok d s false l1 u1 hx, hx]
  have t1 : target d s x false = (x, 0) := rfl
  have c1 : ((!(((target d s x true).2 == 0) == decide (s ≤ d.WakeSystem))) || ((target d s x false).2 != 0)) = false := by
    unfold target
    by_cases hw : d.WakeSystem < s
    · have : ¬ s ≤ d.WakeSystem := by omega
      simp [hw, this]
    · have : s ≤ d.WakeSystem := by omega
      simp [hw, this]
  rw [c1]
  simp only [Bool.false_eq_true, if_false, Option.bind_some, t1, bne_self_eq_false]
  have c2 : (((target d s x true).2 == 0) && (((decide (d.WakeDevice < (target d s x true).1)) || (decide (x < (target d s x true).1))) || (((target d s x true).1 != d.WakeDevice) && ((target d s x true).1 != x)))) = false := by
    unfold target
    by_cases hw : d.WakeSystem < s
    · simp [hw]
    · simp [hw]
      omega
  rw [c2]
  simp only [Bool.false_eq_true, if_false]
  by_cases hs : 0 < s
  · obtain ⟨y, hy, hle⟩ := hm (s - 1) (by omega) (by omega)
    rw [if_pos (by simpa using hs), wi_id (by omega) (by omega), target_ok d (s - 1) false (by omega) (by omega) hy]
    simp only [Option.bind_some]
    have t2 : target d (s - 1) y false = (y, 0) := rfl
    rw [t2, if_neg (by simp; omega)]
    simp only [Option.bind_some, Fl.go, awake_ok]
  · rw [if_neg (by simpa using hs)]
    simp only [Option.bind_some, Fl.go, awake_ok]

end Go.Proofs.Ytfhhklkmbcnhnaa.Sim
