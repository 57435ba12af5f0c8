/-
  Plain lemmas on the printed functions of the device laws: searching, filtering, turning round, comparing.
-/
import Derived.Test.YtfhhklkmbcnhnaaLa
namespace Go.Proofs.Ytfhhklkmbcnhnaa.Sim
open Go
set_option linter.unusedVariables false

theorem index_l0 (xs : List Int) (v : Int) (hx : xs.length ≤ maxLen) : ∀ (d fuel i : Nat), i + d = xs.length → d < fuel →
    (v ∈ xs.drop i ∧ ∃ j, 0 ≤ j ∧ slices_Index_int_int.l0 xs v fuel (i : Int) = some (.out j)) ∨ (v ∉ xs.drop i ∧ slices_Index_int_int.l0 xs v fuel (i : Int) = some (.nxt ())) := by
  rw [maxLen_eq] at hx
  intro d
  induction d with
  | zero =>
    intro fuel i h1 h2
    obtain ⟨k, rfl⟩ : ∃ m, fuel = m + 1 := ⟨fuel - 1, by omega⟩
    refine .inr ⟨by rw [List.drop_of_length_le (by omega)]; simp, ?_⟩
    rw [slices_Index_int_int.l0, if_neg (by simp <;> omega)]
  | succ d ih =>
    intro fuel i h1 h2
    obtain ⟨k, rfl⟩ : ∃ m, fuel = m + 1 := ⟨fuel - 1, by omega⟩
    have hlt : i < xs.length := by omega
    rw [slices_Index_int_int.l0, if_pos (by simp <;> omega), idx_get hlt, List.drop_eq_getElem_cons hlt]
    simp only [Option.bind_some, beq_iff_eq]
    by_cases e : v = xs[i]
    · rw [if_pos e]
      exact .inl ⟨by rw [← e]; simp, _, by omega, rfl⟩
    · rw [if_neg e, wi_id (by omega) (by omega)]
      rcases ih k (i + 1) (by omega) (by omega) with ⟨h3, h4⟩ | ⟨h3, h4⟩
      · exact .inl ⟨List.mem_cons_of_mem _ h3, h4⟩
      · exact .inr ⟨fun h => (List.mem_cons.1 h).elim e h3, h4⟩

theorem contains_ok (xs : List Int) (v : Int) (hx : xs.length ≤ maxLen) : slices_Contains_int_int.f xs v = some (decide (v ∈ xs)) := by
  unfold slices_Contains_int_int.f slices_Index_int_int.f
  have h := index_l0 xs v hx xs.length FUEL 0 (by omega) (FUEL_lt hx)
  simp only [List.drop_zero, Int.natCast_zero] at h
  rcases h with ⟨h1, j, h2, h3⟩ | ⟨h1, h3⟩
  · rw [h3]; simp [Fl.go, h1, h2]
  · rw [h3]; simp [Fl.go, h1]

theorem has_l0 (xs : List Int) (v : Int) (hx : xs.length ≤ maxLen) : ∀ (d fuel i : Nat), i + d = xs.length → d < fuel →
    ref27_has.l0 xs v fuel (i : Int) = if v ∈ xs.drop i then some (.out true) else some (.nxt ()) := by
  rw [maxLen_eq] at hx
  intro d
  induction d with
  | zero =>
    intro fuel i h1 h2
    obtain ⟨k, rfl⟩ : ∃ m, fuel = m + 1 := ⟨fuel - 1, by omega⟩
    rw [ref27_has.l0, if_neg (by simp <;> omega), if_neg (by rw [List.drop_of_length_le (by omega)]; simp)]
  | succ d ih =>
    intro fuel i h1 h2
    obtain ⟨k, rfl⟩ : ∃ m, fuel = m + 1 := ⟨fuel - 1, by omega⟩
    have hlt : i < xs.length := by omega
    rw [ref27_has.l0, if_pos (by simp <;> omega), idx_get hlt, List.drop_eq_getElem_cons hlt]
    simp only [Option.bind_some, beq_iff_eq]
    by_cases e : xs[i] = v
    · rw [if_pos e, if_pos (by simp [e])]
    · have e' : ¬ v = xs[i] := fun h => e h.symm
      rw [if_neg e, wi_id (by omega) (by omega), show ((i : Int) + 1) = ((i + 1 : Nat) : Int) from rfl, ih k (i + 1) (by omega) (by omega)]
      simp only [List.mem_cons, e', false_or]

theorem has_ok (xs : List Int) (v : Int) (hx : xs.length ≤ maxLen) : ref27_has.f xs v = some (decide (v ∈ xs)) := by
  unfold ref27_has.f
  have h := has_l0 xs v hx xs.length FUEL 0 (by omega) (FUEL_lt hx)
  simp only [List.drop_zero, Int.natCast_zero] at h
  rw [h]
  by_cases e : v ∈ xs <;> simp [e, Fl.go]

/-- What is in a and not in b. -/
def less (a b : List Int) : List Int := a.filter (fun x => !decide (x ∈ b))

theorem without_l0 (a b : List Int) (ha : a.length ≤ 2147483648) (hb : b.length ≤ maxLen) : ∀ (d fuel i : Nat) (acc : List Int), i + d = a.length → d < fuel → acc.length ≤ i →
    device_without.l0 a b fuel acc (i : Int) = some (acc ++ less (a.drop i) b) := by
  intro d
  induction d with
  | zero =>
    intro fuel i acc h1 h2 h3
    obtain ⟨k, rfl⟩ : ∃ m, fuel = m + 1 := ⟨fuel - 1, by omega⟩
    rw [device_without.l0, if_neg (by simp <;> omega), List.drop_of_length_le (by omega)]
    simp [less]
  | succ d ih =>
    intro fuel i acc h1 h2 h3
    obtain ⟨k, rfl⟩ : ∃ m, fuel = m + 1 := ⟨fuel - 1, by omega⟩
    have hlt : i < a.length := by omega
    rw [device_without.l0, if_pos (by simp <;> omega), idx_get hlt, List.drop_eq_getElem_cons hlt]
    simp only [Option.bind_some, contains_ok b _ hb]
    by_cases e : a[i] ∈ b
    · simp only [e, decide_true, Bool.not_true, Bool.false_eq_true, if_false, Option.bind_some]
      rw [wi_id (by omega) (by omega), show ((i : Int) + 1) = ((i + 1 : Nat) : Int) from rfl, ih k (i + 1) acc (by omega) (by omega) (by omega)]
      simp [less, e, -List.getElem_cons_drop]
    · simp only [e, decide_false, Bool.not_false, if_true]
      rw [app_ok (by simp <;> omega)]
      simp only [Option.bind_some]
      rw [wi_id (by omega) (by omega), show ((i : Int) + 1) = ((i + 1 : Nat) : Int) from rfl, ih k (i + 1) (acc ++ [a[i]]) (by omega) (by omega) (by simp <;> omega)]
      simp [less, e, -List.getElem_cons_drop]

theorem without_ok (a b : List Int) (ha : a.length ≤ 2147483648) (hb : b.length ≤ maxLen) : device_without.f a b = some (less a b) := by
  unfold device_without.f
  have h := without_l0 a b ha hb a.length FUEL 0 [] (by omega) (by unfold FUEL; omega) (by simp)
  simp only [Int.natCast_zero, List.drop_zero, List.nil_append] at h
  rw [h]; rfl

theorem change_l0 (a b : List Int) (ha : a.length ≤ 2147483648) (hb : b.length ≤ maxLen) : ∀ (d fuel i : Nat) (acc : List Int), i + d = a.length → d < fuel → acc.length ≤ i →
    ref27_Change.l0 b a fuel acc (i : Int) = some (acc ++ less (a.drop i) b) := by
  intro d
  induction d with
  | zero =>
    intro fuel i acc h1 h2 h3
    obtain ⟨k, rfl⟩ : ∃ m, fuel = m + 1 := ⟨fuel - 1, by omega⟩
    rw [ref27_Change.l0, if_neg (by simp <;> omega), List.drop_of_length_le (by omega)]
    simp [less]
  | succ d ih =>
    intro fuel i acc h1 h2 h3
    obtain ⟨k, rfl⟩ : ∃ m, fuel = m + 1 := ⟨fuel - 1, by omega⟩
    have hlt : i < a.length := by omega
    rw [ref27_Change.l0, if_pos (by simp <;> omega), idx_get hlt, List.drop_eq_getElem_cons hlt]
    simp only [Option.bind_some, has_ok b _ hb]
    by_cases e : a[i] ∈ b
    · simp only [e, decide_true, Bool.not_true, Bool.false_eq_true, if_false, Option.bind_some]
      rw [wi_id (by omega) (by omega), show ((i : Int) + 1) = ((i + 1 : Nat) : Int) from rfl, ih k (i + 1) acc (by omega) (by omega) (by omega)]
      simp [less, e, -List.getElem_cons_drop]
    · simp only [e, decide_false, Bool.not_false, if_true]
      rw [app_ok (by simp <;> omega)]
      simp only [Option.bind_some]
      rw [wi_id (by omega) (by omega), show ((i : Int) + 1) = ((i + 1 : Nat) : Int) from rfl, ih k (i + 1) (acc ++ [a[i]]) (by omega) (by omega) (by simp <;> omega)]
      simp [less, e, -List.getElem_cons_drop]

theorem change_l1 (a b : List Int) (hb : b.length ≤ maxLen) : ∀ (n fuel : Nat) (acc : List Int), n ≤ a.length → n < fuel → acc.length + n ≤ 2147483648 →
    ref27_Change.l1 a b fuel acc ((n : Int) - 1) = some (acc ++ less (a.take n).reverse b) := by
  intro n
  induction n with
  | zero =>
    intro fuel acc h1 h2 h3
    obtain ⟨k, rfl⟩ : ∃ m, fuel = m + 1 := ⟨fuel - 1, by omega⟩
    rw [ref27_Change.l1, if_neg (by simp)]
    simp [less]
  | succ n ih =>
    intro fuel acc h1 h2 h3
    obtain ⟨k, rfl⟩ : ∃ m, fuel = m + 1 := ⟨fuel - 1, by omega⟩
    have hlt : n < a.length := by omega
    rw [ref27_Change.l1, if_pos (by simp <;> omega), show (((n + 1 : Nat) : Int) - 1) = (n : Int) from by omega, idx_get hlt, List.take_succ_eq_append_getElem hlt]
    simp only [Option.bind_some, has_ok b _ hb, List.reverse_append, List.reverse_cons, List.reverse_nil, List.nil_append, List.singleton_append]
    by_cases e : a[n] ∈ b
    · simp only [e, decide_true, Bool.not_true, Bool.false_eq_true, if_false, Option.bind_some]
      rw [wi_id (by omega) (by omega), ih k acc (by omega) (by omega) (by omega)]
      simp [less, e, -List.getElem_cons_drop]
    · simp only [e, decide_false, Bool.not_false, if_true]
      rw [app_ok (by simp <;> omega)]
      simp only [Option.bind_some]
      rw [wi_id (by omega) (by omega), ih k (acc ++ [a[n]]) (by omega) (by omega) (by simp <;> omega)]
      simp [less, e, -List.getElem_cons_drop]

theorem equal_l0 (xs ys : List Int) (hl : xs.length = ys.length) (hx : xs.length ≤ maxLen) : ∀ (d fuel i : Nat), i + d = xs.length → d < fuel →
    help_Equal_int.l0 xs ys fuel (i : Int) = if xs.drop i = ys.drop i then some (.nxt ()) else some (.out false) := by
  rw [maxLen_eq] at hx
  intro d
  induction d with
  | zero =>
    intro fuel i h1 h2
    obtain ⟨k, rfl⟩ : ∃ m, fuel = m + 1 := ⟨fuel - 1, by omega⟩
    rw [help_Equal_int.l0, if_neg (by simp <;> omega), if_pos (by rw [List.drop_of_length_le (by omega), List.drop_of_length_le (by omega)])]
  | succ d ih =>
    intro fuel i h1 h2
    obtain ⟨k, rfl⟩ : ∃ m, fuel = m + 1 := ⟨fuel - 1, by omega⟩
    have hlt : i < xs.length := by omega
    have hlt2 : i < ys.length := by omega
    rw [help_Equal_int.l0, if_pos (by simp <;> omega), idx_get hlt, idx_get hlt2, List.drop_eq_getElem_cons hlt, List.drop_eq_getElem_cons hlt2]
    simp only [Option.bind_some, bne_iff_ne, ne_eq]
    by_cases e : xs[i] = ys[i]
    · rw [if_neg (by simp [e]), wi_id (by omega) (by omega), show ((i : Int) + 1) = ((i + 1 : Nat) : Int) from rfl, ih k (i + 1) (by omega) (by omega)]
      simp only [List.cons.injEq, e, true_and]
    · rw [if_pos e, if_neg (fun h => e (List.cons.inj h).1)]

theorem equal_ok (xs ys : List Int) (hx : xs.length ≤ maxLen) : help_Equal_int.f xs ys = some (decide (xs = ys)) := by
  unfold help_Equal_int.f
  by_cases hl : xs.length = ys.length
  · have h := equal_l0 xs ys hl hx xs.length FUEL 0 (by omega) (FUEL_lt hx)
    simp only [List.drop_zero, Int.natCast_zero] at h
    rw [if_neg (by simp [hl]), h]
    by_cases e : xs = ys <;> simp [e, Fl.go]
  · rw [if_pos (by simp <;> omega)]
    have : ¬ xs = ys := fun e => hl (by rw [e])
    simp [this]

theorem rev_l0 (xs : List Int) (hx : xs.length ≤ 2147483648) : ∀ (n fuel : Nat) (acc : List Int), n ≤ xs.length → n < fuel → acc.length + n ≤ 2147483648 →
    law27_reverse.l0 xs fuel acc ((n : Int) - 1) = some (acc ++ (xs.take n).reverse) := by
  intro n
  induction n with
  | zero =>
    intro fuel acc h1 h2 h3
    obtain ⟨k, rfl⟩ : ∃ m, fuel = m + 1 := ⟨fuel - 1, by omega⟩
    rw [law27_reverse.l0, if_neg (by simp)]
    simp
  | succ n ih =>
    intro fuel acc h1 h2 h3
    obtain ⟨k, rfl⟩ : ∃ m, fuel = m + 1 := ⟨fuel - 1, by omega⟩
    have hlt : n < xs.length := by omega
    rw [law27_reverse.l0, if_pos (by simp <;> omega), show (((n + 1 : Nat) : Int) - 1) = (n : Int) from by omega, idx_get hlt, List.take_succ_eq_append_getElem hlt]
    simp only [Option.bind_some]
    rw [app_ok (by simp <;> omega)]
    simp only [Option.bind_some]
    rw [wi_id (by omega) (by omega), ih k (acc ++ [xs[n]]) (by omega) (by omega) (by simp <;> omega), List.reverse_append]
    simp only [List.append_assoc, List.reverse_cons, List.reverse_nil, List.nil_append]

theorem rev_ok (xs : List Int) (hx : xs.length ≤ 2147483648) : law27_reverse.f xs = some xs.reverse := by
  unfold law27_reverse.f
  have h := rev_l0 xs hx xs.length FUEL [] (by omega) (by unfold FUEL; omega) (by simp <;> omega)
  rw [wi_id (by omega) (by omega), h]
  simp

theorem turn_l0 : ∀ (n : Nat) (m p s : List Int) (fuel : Nat), m.length ≤ n → (p ++ m ++ s).length ≤ 2147483648 → m.length < fuel →
    slices_Reverse_int_int.l0 fuel (p ++ m ++ s) (p.length : Int) ((p.length : Int) + m.length - 1) = some (p ++ m.reverse ++ s) := by
  intro n
  induction n with
  | zero =>
    intro m p s fuel h1 h2 h3
    obtain ⟨k, rfl⟩ : ∃ q, fuel = q + 1 := ⟨fuel - 1, by omega⟩
    have : m = [] := List.eq_nil_of_length_eq_zero (by omega)
    subst this
    rw [slices_Reverse_int_int.l0, if_neg (by simp <;> omega)]
    simp
  | succ n ih =>
    intro m p s fuel h1 h2 h3
    obtain ⟨k, rfl⟩ : ∃ q, fuel = q + 1 := ⟨fuel - 1, by omega⟩
    rcases Nat.lt_or_ge m.length 2 with h4 | h4
    · rw [slices_Reverse_int_int.l0, if_neg (by simp <;> omega)]
      match m, h4 with
      | [], _ => simp
      | [x], _ => simp
    · obtain ⟨a, m', z, rfl⟩ : ∃ a m' z, m = a :: (m' ++ [z]) := by
        match m, h4 with
        | a :: b :: t, _ => exact ⟨a, (b :: t).dropLast, (b :: t).getLast (by simp), by rw [List.dropLast_concat_getLast]⟩
      simp only [List.length_append, List.length_cons, List.length_nil] at h1 h2 h3 h4
      have hL : (p ++ a :: (m' ++ [z]) ++ s).length = p.length + (m'.length + 2) + s.length := by simp; omega
      have e1 : idx (p ++ a :: (m' ++ [z]) ++ s) ((p.length : Int) + ((a :: (m' ++ [z])).length : Nat) - 1) = some z := by
        have : ((p.length : Int) + ((a :: (m' ++ [z])).length : Nat) - 1) = ((p.length + m'.length + 1 : Nat) : Int) := by simp; omega
        rw [this]; unfold idx; rw [if_pos (by omega), Int.toNat_natCast]
        rw [List.append_assoc, List.getElem?_append_right (by omega), show p.length + m'.length + 1 - p.length = m'.length + 1 from by omega]
        simp
      have e2 : idx (p ++ a :: (m' ++ [z]) ++ s) (p.length : Int) = some a := by
        unfold idx; rw [if_pos (by omega), Int.toNat_natCast, List.append_assoc, List.getElem?_append_right (by omega)]
        simp
      have e3 : upd (p ++ a :: (m' ++ [z]) ++ s) (p.length : Int) z = p ++ z :: (m' ++ [z]) ++ s := by
        unfold upd; rw [Int.toNat_natCast, List.append_assoc, List.set_append_right _ _ (by omega)]
        simp
      have hj : ((p.length : Int) + ((a :: (m' ++ [z])).length : Nat) - 1) = ((p.length + m'.length + 1 : Nat) : Int) := by simp; omega
      have e4 : idx (p ++ z :: (m' ++ [z]) ++ s) ((p.length + m'.length + 1 : Nat) : Int) = some z := by
        unfold idx; rw [if_pos (by omega), Int.toNat_natCast]
        rw [List.append_assoc, List.getElem?_append_right (by omega), show p.length + m'.length + 1 - p.length = m'.length + 1 from by omega]
        simp
      have e5 : upd (p ++ z :: (m' ++ [z]) ++ s) ((p.length + m'.length + 1 : Nat) : Int) a = (p ++ [z]) ++ m' ++ (a :: s) := by
        unfold upd; rw [Int.toNat_natCast, List.append_assoc, List.set_append_right _ _ (by omega), show p.length + m'.length + 1 - p.length = m'.length + 1 from by omega]
        simp
      rw [slices_Reverse_int_int.l0, if_pos (by simp <;> omega), e1, e2]
      simp only [Option.bind_some]
      rw [e3, hj, e4]
      simp only [Option.bind_some]
      rw [e5, wi_id (by omega) (by omega), wi_id (by omega) (by omega)]
      have h5 := ih m' (p ++ [z]) (a :: s) k (by omega) (by simp <;> omega) (by omega)
      rw [show ((p ++ [z]).length : Int) = (p.length : Int) + 1 from by simp] at h5
      rw [show (((p.length + m'.length + 1 : Nat) : Int) - 1) = (p.length : Int) + 1 + (m'.length : Int) - 1 from by omega, h5]
      simp

theorem turn_ok (xs : List Int) (hx : xs.length ≤ 2147483648) : slices_Reverse_int_int.f xs = some xs.reverse := by
  unfold slices_Reverse_int_int.f
  have h := turn_l0 xs.length xs [] [] FUEL (by omega) (by simp <;> omega) (by unfold FUEL; omega)
  simp only [List.nil_append, List.append_nil, List.length_nil, Int.natCast_zero, Int.zero_add] at h
  rw [wi_id (by omega) (by omega), h]

end Go.Proofs.Ytfhhklkmbcnhnaa.Sim
