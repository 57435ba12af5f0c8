/-
  Plain lemmas on the printed functions of the device laws: the functions of the packages and of the reference come to the same.
-/
import Derived.Test.YtfhhklkmbcnhnaaLb
namespace Go.Proofs.Ytfhhklkmbcnhnaa.Sim
open Go
set_option linter.unusedVariables false

/-- The rails of a state. -/
def needs (d : api_PowerDevice) (s : Int) : List Int := if s = 0 then d.Rails.a0 else if s = 1 then d.Rails.a1 else if s = 2 then d.Rails.a2 else if s = 3 then d.Rails.a3 else []

theorem ar4_idx {α : Type} (x : Ar4 α) (i : Int) (h0 : 0 ≤ i) (h1 : i < 4) : idx x.l i = some (if i = 0 then x.a0 else if i = 1 then x.a1 else if i = 2 then x.a2 else x.a3) := by
  have : i = 0 ∨ i = 1 ∨ i = 2 ∨ i = 3 := by omega
  rcases this with rfl | rfl | rfl | rfl <;> rfl
theorem ar6_idx {α : Type} (x : Ar6 α) (i : Int) (h0 : 0 ≤ i) (h1 : i < 6) : idx x.l i = some (if i = 0 then x.a0 else if i = 1 then x.a1 else if i = 2 then x.a2 else if i = 3 then x.a3 else if i = 4 then x.a4 else x.a5) := by
  have : i = 0 ∨ i = 1 ∨ i = 2 ∨ i = 3 ∨ i = 4 ∨ i = 5 := by omega
  rcases this with rfl | rfl | rfl | rfl | rfl | rfl <;> rfl

theorem needs_ok (d : api_PowerDevice) (s : Int) (h0 : 0 ≤ s) (h1 : s ≤ 4) : device_needs.f d s = some (needs d s) := by
  unfold device_needs.f needs
  have : s = 0 ∨ s = 1 ∨ s = 2 ∨ s = 3 ∨ s = 4 := by omega
  rcases this with rfl | rfl | rfl | rfl | rfl <;> rfl
theorem ref_needs (d : api_PowerDevice) (s : Int) : ref27_needs.f d s = device_needs.f d s := rfl

/-- All rails' lists are at most n long. -/
def Few (n : Nat) (d : api_PowerDevice) : Prop := d.Rails.a0.length ≤ n ∧ d.Rails.a1.length ≤ n ∧ d.Rails.a2.length ≤ n ∧ d.Rails.a3.length ≤ n

theorem Few.needs {n : Nat} {d : api_PowerDevice} (h : Few n d) (s : Int) : (needs d s).length ≤ n := by
  obtain ⟨h0, h1, h2, h3⟩ := h
  unfold Sim.needs
  repeat' split
  all_goals first | assumption | simp

def isState (s : Int) : Bool := decide (0 ≤ s) && decide (s ≤ 4)

/-- What Change comes to. -/
def change (d : api_PowerDevice) (s t : Int) : List Int × List Int × Int :=
  if isState s && isState t && asc (needs d s) && asc (needs d t) then (less (needs d t) (needs d s), (less (needs d s) (needs d t)).reverse, 0) else ([], [], 1)

theorem less_length (a b : List Int) : (less a b).length ≤ a.length := List.length_filter_le _ _

theorem change_ok (d : api_PowerDevice) (s t : Int) (h : Few 1000000 d) : device_Change.f d s t = some (change d s t) := by
  unfold device_Change.f device_isState.f change
  by_cases hs : isState s = true
  · by_cases ht : isState t = true
    · have hs' : 0 ≤ s ∧ s ≤ 4 := by simpa [isState] using hs
      have ht' : 0 ≤ t ∧ t ≤ 4 := by simpa [isState] using ht
      have e1 : (decide (0 ≤ s) && decide (s ≤ 4)) = true := hs
      have e2 : (decide (0 ≤ t) && decide (t ≤ 4)) = true := ht
      have l1 := h.needs s
      have l2 := h.needs t
      have m1 : (needs d s).length ≤ maxLen := by rw [maxLen_eq]; omega
      have m2 : (needs d t).length ≤ maxLen := by rw [maxLen_eq]; omega
      have q1 := less_length (needs d s) (needs d t)
      simp only [Option.bind_some, e1, e2, Bool.not_true, Bool.false_eq_true, if_false, needs_ok d s hs'.1 hs'.2, needs_ok d t ht'.1 ht'.2, ascending_ok _ m1, ascending_ok _ m2, hs, ht, Bool.true_and]
      cases ha : asc (needs d s) <;> cases hb : asc (needs d t)
      · simp
      · simp
      · simp
      · simp only [Bool.not_true, Bool.false_eq_true, if_false, Option.bind_some, Bool.and_self, if_true]
        rw [without_ok _ _ (by omega) m1]
        simp only [Option.bind_some]
        rw [without_ok _ _ (by omega) m2]
        simp only [Option.bind_some]
        rw [turn_ok _ (by omega)]
        rfl
    · have e1 : (decide (0 ≤ s) && decide (s ≤ 4)) = true := hs
      have e2 : (decide (0 ≤ t) && decide (t ≤ 4)) = false := by simpa [isState] using ht
      simp only [Bool.not_eq_true] at ht
      simp [e1, e2, hs, ht]
  · have e1 : (decide (0 ≤ s) && decide (s ≤ 4)) = false := by simpa [isState] using hs
    simp only [Bool.not_eq_true] at hs
    simp [e1, hs]

theorem less_reverse (a b : List Int) : less a.reverse b = (less a b).reverse := by
  unfold less; rw [List.filter_reverse]

theorem ref_change_ok (d : api_PowerDevice) (s t : Int) (h : Few 1000000 d) : ref27_Change.f d s t = some (change d s t) := by
  unfold ref27_Change.f change
  by_cases hb : isState s = true ∧ isState t = true
  · obtain ⟨hs, ht⟩ := hb
    have hs' : 0 ≤ s ∧ s ≤ 4 := by simpa [isState] using hs
    have ht' : 0 ≤ t ∧ t ≤ 4 := by simpa [isState] using ht
    have l1 := h.needs s
    have l2 := h.needs t
    have m1 : (needs d s).length ≤ maxLen := by rw [maxLen_eq]; omega
    have m2 : (needs d t).length ≤ maxLen := by rw [maxLen_eq]; omega
    rw [if_neg (by simp; omega)]
    simp only [ref_needs, ref_ascending, needs_ok d s hs'.1 hs'.2, needs_ok d t ht'.1 ht'.2, Option.bind_some, ascending_ok _ m1, ascending_ok _ m2, hs, ht, Bool.true_and]
    cases ha : asc (needs d s) <;> cases hb : asc (needs d t)
    · simp
    · simp
    · simp
    · simp only [Bool.not_true, Bool.false_eq_true, if_false, Option.bind_some, Bool.and_self, if_true]
      have c0 := change_l0 (needs d t) (needs d s) (by omega) m1 (needs d t).length FUEL 0 [] (by omega) (by unfold FUEL; omega) (by simp)
      have c1 := change_l1 (needs d s) (needs d t) m2 (needs d s).length FUEL [] (by omega) (by unfold FUEL; omega) (by simp; omega)
      simp only [Int.natCast_zero, List.drop_zero, List.nil_append, List.take_length, less_reverse] at c0 c1
      rw [c0]
      simp only [Option.bind_some]
      rw [wi_id (by omega) (by omega), c1]
      rfl
  · have : (isState s && isState t) = false := by
      cases h1 : isState s <;> cases h2 : isState t <;> simp_all
    rw [if_pos, if_neg (by rw [this]; simp)]
    simp only [isState, Bool.and_eq_true, decide_eq_true_eq] at hb
    simp only [Bool.or_eq_true, decide_eq_true_eq]
    omega

theorem target_same (d : api_PowerDevice) (s : Int) (w : Bool) : ref27_Target.f d s w = device_Target.f d s w := rfl

/-- What Target comes to. -/
def target (d : api_PowerDevice) (s x : Int) (w : Bool) : Int × Int := if w = false then (x, 0) else if d.WakeSystem < s then (0, 13) else (min x d.WakeDevice, 0)

theorem target_ok (d : api_PowerDevice) (s : Int) (w : Bool) (h0 : 0 ≤ s) (h1 : s < 6) {x : Int} (hx : idx d.Deepest.l s = some x) : device_Target.f d s w = some (target d s x w) := by
  unfold device_Target.f target
  rw [if_neg (by simp; omega), hx]
  cases w
  · simp
  · by_cases h : d.WakeSystem < s <;> simp [h]

theorem target_some (d : api_PowerDevice) (s : Int) (w : Bool) : ∃ r, device_Target.f d s w = some r := by
  by_cases h : 0 ≤ s ∧ s < 6
  · exact ⟨_, target_ok d s w h.1 h.2 (ar6_idx _ s h.1 h.2)⟩
  · unfold device_Target.f
    exact ⟨_, if_pos (by simp; omega)⟩

end Go.Proofs.Ytfhhklkmbcnhnaa.Sim
