/-
  The plain laws behind DeviceChangeAgrees and DeviceChangeIsReversible.
-/
import Derived.Test.YtfhhklkmbcnhnaaPuTarget
namespace Go.Proofs.Ytfhhklkmbcnhnaa.Sim
open Go
set_option linter.unusedVariables false

theorem change_few (d : api_PowerDevice) (s t : Int) (h : Few 1000000 d) : (change d s t).1.length ≤ 1000000 ∧ (change d s t).2.1.length ≤ 1000000 := by
  unfold change
  split
  · have h1 := less_length (needs d t) (needs d s)
    have h2 := less_length (needs d s) (needs d t)
    have h3 := h.needs s
    have h4 := h.needs t
    simp only [List.length_reverse]
    omega
  · simp

theorem changes_l1 (p1 p2 : Int) (x : api_PowerDevice) (a b : Int) (h : Few 1000000 x) : law27_DeviceChangeAgrees.l1 p1 p2 x a b FUEL 0 = some (.nxt ()) := by
  have hF : FUEL = (18446744073709551613 + 1 + 1 + 1) := rfl
  have w0 : wi ((0 : Int) + 1) = 1 := rfl
  have w1 : wi ((1 : Int) + 1) = 2 := rfl
  have q0 : idx (Ar2.l (Ar2.mk (Ar2.mk p1 p2) (Ar2.mk a b))) 0 = some (Ar2.mk p1 p2) := rfl
  have q1 : idx (Ar2.l (Ar2.mk (Ar2.mk p1 p2) (Ar2.mk a b))) 1 = some (Ar2.mk a b) := rfl
  have same : ∀ s t, ((if ((change x s t).2.2 != (change x s t).2.2) = true then some true else (help_Equal_int.f (change x s t).1 (change x s t).1).bind fun r => some (!r)).bind fun t1 =>
      (if t1 = true then some true else (help_Equal_int.f (change x s t).2.1 (change x s t).2.1).bind fun r => some (!r))) = some false := by
    intro s t
    obtain ⟨h1, h2⟩ := change_few x s t h
    rw [equal_ok _ _ (by rw [maxLen_eq]; omega), equal_ok _ _ (by rw [maxLen_eq]; omega)]
    simp
  rw [hF, law27_DeviceChangeAgrees.l1, if_pos (by simp), q0]
  simp only [Option.bind_some, change_ok _ _ _ h, ref_change_ok _ _ _ h]
  have s0 := same p1 p2
  have s1 := same a b
  rw [Option.bind_eq_some_iff] at s0 s1
  obtain ⟨t0, e0, e0'⟩ := s0
  obtain ⟨t1, e1, e1'⟩ := s1
  rw [e0]
  simp only [Option.bind_some]
  rw [e0']
  simp only [Option.bind_some, Bool.false_eq_true, if_false]
  rw [w0, law27_DeviceChangeAgrees.l1, if_pos (by simp), q1]
  simp only [Option.bind_some, change_ok _ _ _ h, ref_change_ok _ _ _ h]
  rw [e1]
  simp only [Option.bind_some]
  rw [e1']
  simp only [Option.bind_some, Bool.false_eq_true, if_false]
  rw [w1, law27_DeviceChangeAgrees.l1, if_neg (by simp)]

theorem changeAgrees : law27_DeviceChangeAgrees.Pure := by
  intro raw s t h _ _
  unfold law27_DeviceChangeAgrees.f
  rcases large_ok [raw] with h1 | ⟨h1, _, h2⟩
  · simp only [h1, Option.bind_some, if_true, awake_ok]
  · obtain ⟨d, h3, h4⟩ := one_made raw 5 (by omega) (by omega) h
    obtain ⟨a, e1, _, _⟩ := mod_ok (x := s) (n := 5) (by omega) (by omega)
    obtain ⟨b, e2, _, _⟩ := mod_ok (x := t) (n := 5) (by omega) (by omega)
    have f1 : Few 1000000 raw := (h2 raw (by simp)).mono (by omega)
    have f2 := h4.few
    have w0 : wi ((0 : Int) + 1) = 1 := rfl
    have w1 : wi ((1 : Int) + 1) = 2 := rfl
    have l0 : ∀ q : Nat, law27_DeviceChangeAgrees.l0 raw s t d (q + 1 + 1 + 1) 0 = some (.nxt ()) := by
      intro q
      rw [law27_DeviceChangeAgrees.l0, if_pos (by simp), show idx (Ar2.l (Ar2.mk raw d)) 0 = some raw from rfl]
      simp only [Option.bind_some, e1, e2, changes_l1 s t raw a b f1, Fl.go]
      rw [w0, law27_DeviceChangeAgrees.l0, if_pos (by simp), show idx (Ar2.l (Ar2.mk raw d)) 1 = some d from rfl]
      simp only [Option.bind_some, e1, e2, changes_l1 s t d a b f2, Fl.go]
      rw [w1, law27_DeviceChangeAgrees.l0, if_neg (by simp)]
    have l0 : law27_DeviceChangeAgrees.l0 raw s t d FUEL 0 = some (.nxt ()) := l0 18446744073709551613
    simp only [h1, Option.bind_some, Bool.false_eq_true, if_false, h3, show idx [d] 0 = some d from rfl, l0, Fl.go, awake_ok]

theorem apart_l1 (r : List Int × List Int × Int) (i : Nat) (hi : i < r.1.length) (h : ∀ y ∈ r.2.1, r.1[i] ≠ y) (hl : r.2.1.length ≤ maxLen) : ∀ (d fuel k : Nat), k + d = r.2.1.length → d < fuel →
    law27_DeviceChangeIsReversible.l1 r (i : Int) fuel (k : Int) = some (.nxt ()) := by
  rw [maxLen_eq] at hl
  intro d
  induction d with
  | zero =>
    intro fuel k h1 h2
    obtain ⟨q, rfl⟩ : ∃ m, fuel = m + 1 := ⟨fuel - 1, by omega⟩
    rw [law27_DeviceChangeIsReversible.l1, if_neg (by simp; omega)]
  | succ d ih =>
    intro fuel k h1 h2
    obtain ⟨q, rfl⟩ : ∃ m, fuel = m + 1 := ⟨fuel - 1, by omega⟩
    have hk : k < r.2.1.length := by omega
    rw [law27_DeviceChangeIsReversible.l1, if_pos (by simp; omega), idx_get hi, idx_get hk]
    simp only [Option.bind_some]
    rw [if_neg (by simpa using h _ (List.getElem_mem hk)), wi_id (by omega) (by omega)]
    exact ih q (k + 1) (by omega) (by omega)

theorem apart_l0 (r : List Int × List Int × Int) (h : ∀ x ∈ r.1, ∀ y ∈ r.2.1, x ≠ y) (hl : r.1.length ≤ maxLen) (hl2 : r.2.1.length ≤ maxLen) : ∀ (d fuel i : Nat), i + d = r.1.length → d < fuel →
    law27_DeviceChangeIsReversible.l0 r fuel (i : Int) = some (.nxt ()) := by
  rw [maxLen_eq] at hl
  intro d
  induction d with
  | zero =>
    intro fuel i h1 h2
    obtain ⟨q, rfl⟩ : ∃ m, fuel = m + 1 := ⟨fuel - 1, by omega⟩
    rw [law27_DeviceChangeIsReversible.l0, if_neg (by simp; omega)]
  | succ d ih =>
    intro fuel i h1 h2
    obtain ⟨q, rfl⟩ : ∃ m, fuel = m + 1 := ⟨fuel - 1, by omega⟩
    have hi : i < r.1.length := by omega
    have h3 := apart_l1 r i hi (h _ (List.getElem_mem hi)) hl2 r.2.1.length FUEL 0 (by omega) (FUEL_lt hl2)
    rw [Int.natCast_zero] at h3
    rw [law27_DeviceChangeIsReversible.l0, if_pos (by simp; omega), h3]
    simp only [Option.bind_some, Fl.go]
    rw [wi_id (by omega) (by omega)]
    exact ih q (i + 1) (by omega) (by omega)

theorem changeIsReversible : law27_DeviceChangeIsReversible.Pure := by
  intro raw s t h _ _
  unfold law27_DeviceChangeIsReversible.f
  rcases large_ok [raw] with h1 | ⟨h1, _, h2⟩
  · simp only [h1, Option.bind_some, if_true, awake_ok]
  · obtain ⟨d, h3, h4⟩ := one_made raw 5 (by omega) (by omega) h
    obtain ⟨a, e1, l1, u1⟩ := mod_ok (x := s) (n := 5) (by omega) (by omega)
    obtain ⟨b, e2, l2, u2⟩ := mod_ok (x := t) (n := 5) (by omega) (by omega)
    have f := h4.few
    have c1 : change d a b = (less (needs d b) (needs d a), (less (needs d a) (needs d b)).reverse, 0) := by
      unfold change isState
      rw [if_pos (by simp [(h4.needs a).asc, (h4.needs b).asc]; omega)]
    have c2 : change d b a = (less (needs d a) (needs d b), (less (needs d b) (needs d a)).reverse, 0) := by
      unfold change isState
      rw [if_pos (by simp [(h4.needs a).asc, (h4.needs b).asc]; omega)]
    have g1 := less_length (needs d b) (needs d a)
    have g2 := less_length (needs d a) (needs d b)
    have g3 := (h4.needs a).few
    have g4 := (h4.needs b).few
    have ap : ∀ x ∈ less (needs d b) (needs d a), ∀ y ∈ (less (needs d a) (needs d b)).reverse, x ≠ y := by
      intro x hx y hy e
      subst e
      simp only [less, List.mem_reverse, List.mem_filter, Bool.not_eq_true', decide_eq_false_iff_not] at hx hy
      exact hx.2 hy.1
    have l0 := apart_l0 (less (needs d b) (needs d a), (less (needs d a) (needs d b)).reverse, 0) ap (by rw [maxLen_eq]; simp only []; omega) (by rw [maxLen_eq]; simp only [List.length_reverse]; omega) _ FUEL 0 (Nat.zero_add _) (by unfold FUEL; simp only []; omega)
    rw [Int.natCast_zero] at l0
    simp only [h1, Option.bind_some, Bool.false_eq_true, if_false, h3, e1, e2, show idx [d] 0 = some d from rfl, change_ok _ _ _ f, c1, c2, bne_self_eq_false, Bool.or_self]
    rw [rev_ok _ (by simp only [List.length_reverse]; omega)]
    simp only [Option.bind_some]
    rw [equal_ok _ _ (by rw [maxLen_eq]; omega), rev_ok _ (by omega)]
    simp only [Option.bind_some, List.reverse_reverse, decide_true, Bool.not_true, Bool.false_eq_true, if_false]
    rw [equal_ok _ _ (by rw [maxLen_eq]; simp only [List.length_reverse]; omega)]
    simp only [Option.bind_some, decide_true, Bool.not_true, Bool.false_eq_true, if_false, l0, Fl.go, awake_ok]

end Go.Proofs.Ytfhhklkmbcnhnaa.Sim
