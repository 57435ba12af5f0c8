/-
  Plain lemmas on the printed functions: numbers, loops over lists.
-/
import Derived.Test.YtfhhklkmbcnhnaaPu
namespace Go.Proofs.Ytfhhklkmbcnhnaa.Sim
open Go
set_option linter.unusedVariables false

theorem wi_id {x : Int} (h0 : -9223372036854775808 ≤ x) (h1 : x < 9223372036854775808) : wi x = x := by
  unfold wi; simp only [IntKind.wrap, IntKind.bits, IntKind.signed, Bool.true_and]; split <;> rename_i h <;> simp at h <;> omega
theorem wu_eq (x : Int) : wu x = x % 18446744073709551616 := by
  unfold wu; simp only [IntKind.wrap, IntKind.bits, IntKind.signed, Bool.false_and]; rfl
theorem wu_id {x : Int} (h0 : 0 ≤ x) (h1 : x < 18446744073709551616) : wu x = x := by rw [wu_eq]; omega
theorem wu_range (x : Int) : 0 ≤ wu x ∧ wu x < 18446744073709551616 := by rw [wu_eq]; omega
theorem maxLen_eq : maxLen = 9223372036854775807 := rfl

theorem idx_get {α : Type} {xs : List α} {i : Nat} (h : i < xs.length) : idx xs (i : Int) = some xs[i] := by
  unfold idx; rw [if_pos (by omega)]; simp [h]

theorem idx_of {α : Type} {xs : List α} {i : Int} (h0 : 0 ≤ i) (h1 : i < (xs.length : Int)) : ∃ x, idx xs i = some x ∧ x ∈ xs := by
  obtain ⟨n, rfl⟩ := Int.eq_ofNat_of_zero_le h0
  have hn : n < xs.length := by omega
  exact ⟨xs[n], idx_get hn, List.getElem_mem hn⟩

theorem app_ok {α : Type} {xs ys : List α} (h : xs.length + ys.length ≤ 4294967296) : app xs ys = some (xs ++ ys) := by
  unfold app; rw [if_pos h]

theorem mod_ok {x n : Int} (h0 : 0 < n) (h1 : n < 9223372036854775808) : ∃ r, help_Mod.f x n = some r ∧ 0 ≤ r ∧ r < n := by
  have hn := wu_id (x := n) (by omega) (by omega)
  have hx := wu_range x
  refine ⟨wi (Int.tmod (wu x) (wu n)), by unfold help_Mod.f; rw [if_neg (by rw [hn]; omega)], ?_⟩
  rw [hn, Int.tmod_eq_emod_of_nonneg hx.1]
  have h2 := Int.emod_nonneg (wu x) (show n ≠ 0 by omega)
  have h3 := Int.emod_lt_of_pos (wu x) h0
  rw [wi_id (by omega) (by omega)]
  exact ⟨h2, h3⟩

/-- Neighbours rise. -/
def asc : List Int → Bool
  | a :: b :: t => decide (a < b) && asc (b :: t)
  | _ => true

theorem asc_drop {xs : List Int} {i : Nat} (h : i + 1 < xs.length) : asc (xs.drop i) = (decide (xs[i] < xs[i + 1]) && asc (xs.drop (i + 1))) := by
  rw [List.drop_eq_getElem_cons (by omega : i < xs.length), List.drop_eq_getElem_cons h]
  rfl

theorem asc_last {xs : List Int} {i : Nat} (h : xs.length ≤ i + 1) : asc (xs.drop i) = true := by
  rcases Nat.lt_or_ge i xs.length with h1 | h1
  · rw [List.drop_eq_getElem_cons h1, List.drop_of_length_le h]; rfl
  · rw [List.drop_of_length_le h1]; rfl

theorem asc_pairwise : ∀ {xs : List Int}, asc xs = true ↔ xs.Pairwise (· < ·)
  | [] => by simp [asc]
  | [a] => by simp [asc]
  | a :: b :: t => by
    rw [asc, Bool.and_eq_true, asc_pairwise (xs := b :: t), List.pairwise_cons (a := a)]
    simp only [decide_eq_true_eq]
    constructor
    · rintro ⟨h1, h2⟩
      refine ⟨fun y hy => ?_, h2⟩
      rcases List.mem_cons.1 hy with rfl | hy
      · exact h1
      · have := List.rel_of_pairwise_cons h2 hy; omega
    · rintro ⟨h1, h2⟩
      exact ⟨h1 b (by simp), h2⟩

theorem ascending_l0 (xs : List Int) (hx : xs.length ≤ maxLen) : ∀ (d fuel i : Nat), i + d = xs.length → d < fuel → device_ascending.l0 xs fuel ((i : Int) + 1) = if asc (xs.drop i) = true then some (.nxt ()) else some (.out false) := by
  rw [maxLen_eq] at hx
  intro d
  induction d with
  | zero =>
    intro fuel i h1 h2
    obtain ⟨k, rfl⟩ : ∃ m, fuel = m + 1 := ⟨fuel - 1, by omega⟩
    rw [device_ascending.l0, if_neg (by simp; omega), asc_last (by omega), if_pos rfl]
  | succ d ih =>
    intro fuel i h1 h2
    obtain ⟨k, rfl⟩ : ∃ m, fuel = m + 1 := ⟨fuel - 1, by omega⟩
    rw [device_ascending.l0]
    by_cases hlt : i + 1 < xs.length
    · rw [if_pos (by simp; omega), show ((i : Int) + 1) = ((i + 1 : Nat) : Int) from rfl, idx_get hlt, wi_id (by omega) (by omega), show (((i + 1 : Nat) : Int) - 1) = (i : Int) from by omega, idx_get (by omega)]
      simp only [Option.bind_some, decide_eq_true_eq]
      rw [asc_drop hlt]
      by_cases hc : xs[i + 1] ≤ xs[i]
      · rw [if_pos hc, if_neg (by simp; omega)]
      · rw [if_neg hc, wi_id (by omega) (by omega), ih k (i + 1) (by omega) (by omega)]
        have : decide (xs[i] < xs[i + 1]) = true := by simp; omega
        rw [this, Bool.true_and]
    · rw [if_neg (by simp; omega), asc_last (by omega), if_pos rfl]

theorem FUEL_lt {n : Nat} (h : n ≤ maxLen) : n < FUEL := by rw [maxLen_eq] at h; unfold FUEL; omega

theorem ascending_ok (xs : List Int) (hx : xs.length ≤ maxLen) : device_ascending.f xs = some (asc xs) := by
  unfold device_ascending.f
  have h := ascending_l0 xs hx xs.length FUEL 0 (by omega) (FUEL_lt hx)
  simp only [Int.natCast_zero, Int.zero_add, List.drop_zero] at h
  rw [show (1 : Int) = ((0 : Nat) : Int) + 1 from rfl] at *
  simp only [Int.natCast_zero, Int.zero_add] at *
  rw [h]
  cases asc xs <;> rfl

theorem ref_ascending_l0 (xs : List Int) : ∀ k i, ref27_ascending.l0 xs k i = device_ascending.l0 xs k i
  | 0, _ => rfl
  | k + 1, i => by
    rw [ref27_ascending.l0, device_ascending.l0]
    simp only [ref_ascending_l0 xs k]
theorem ref_ascending (xs : List Int) : ref27_ascending.f xs = device_ascending.f xs := by
  unfold ref27_ascending.f device_ascending.f
  rw [ref_ascending_l0]

theorem awake_ok : law27_awake.f = some true := by kernel_rfl

end Go.Proofs.Ytfhhklkmbcnhnaa.Sim
