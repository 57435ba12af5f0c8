/-
  Plain lemmas: searching loops, equality of lists, the checks of a graph, the graphs of the statements.
-/
import Derived.Test.YtphgandhncmaoaaG1
namespace Go.Proofs.Ytphgandhncmaoaa.Sim
open Go
set_option linter.unusedVariables false

/-- A loop that looks for the first element with P. -/
theorem search_ok {α ρ : Type} {L : Nat → Int → Option (Fl ρ Unit)} (xs : List α) (P : α → Bool) (v : ρ) (hlen : xs.length ≤ maxLen)
    (hL : ∀ k (i : Nat), L (k + 1) (i : Int) = if decide ((i : Int) < (xs.length : Int)) = true then (idx xs (i : Int)).bind fun x => if P x = true then some (.out v) else L k (wi ((i : Int) + 1)) else some (.nxt ())) :
    L FUEL 0 = some (if xs.any P = true then .out v else .nxt ()) := by
  rw [maxLen_eq] at hlen
  refine loop_c (L := fun k (_ : Unit) i => L k i) xs.length (fun i _ => ∀ x ∈ xs.take i, P x = false) (fun o => o = some (if xs.any P = true then .out v else .nxt ())) ?_ ?_ FUEL 0 () (Nat.zero_le _) (FUEL_pos (by omega)) (by simp)
  · intro k s i hi hI
    simp only [hL]
    rw [if_pos (by simp; omega), idx_get hi]
    simp only [Option.bind_some]
    by_cases hp : P xs[i] = true
    · rw [if_pos hp]
      refine .inr ?_
      rw [if_pos (List.any_eq_true.2 ⟨_, List.getElem_mem hi, hp⟩)]
    · rw [if_neg hp]
      refine .inl ⟨(), ?_, by rw [wi_succ (by omega)]⟩
      intro x hx
      rw [List.take_succ_eq_append_getElem hi] at hx
      rcases List.mem_append.1 hx with h | h
      · exact hI x h
      · simp only [List.mem_singleton] at h; subst h; simpa using hp
  · intro k s hI
    simp only [hL]
    rw [if_neg (by simp)]
    rw [List.take_length] at hI
    rw [if_neg]
    intro h
    obtain ⟨x, h1, h2⟩ := List.any_eq_true.1 h
    rw [hI x h1] at h2; cases h2

theorem contains_ok (xs : List Int) (v : Int) (h : xs.length ≤ maxLen) : law24_contains.f xs v = some (decide (v ∈ xs)) := by
  unfold law24_contains.f
  rw [search_ok (L := law24_contains.l0 xs v) xs (fun x => x == v) true h (fun k i => by rw [law24_contains.l0])]
  by_cases hm : v ∈ xs
  · rw [if_pos (List.any_eq_true.2 ⟨v, hm, by simp⟩), decide_eq_true hm]; rfl
  · rw [if_neg (fun hh => by obtain ⟨x, h1, h2⟩ := List.any_eq_true.1 hh; simp only [beq_iff_eq] at h2; subst h2; exact hm h1), decide_eq_false hm]; rfl

theorem linked_ok (ls : List api_Link) (c s : Int) (h : ls.length ≤ maxLen) : law24_linked.f ls c s = some (decide (api_Link.mk c s ∈ ls)) := by
  unfold law24_linked.f
  rw [search_ok (L := law24_linked.l0 ls c s) ls (fun x => (x.Consumer == c) && (x.Supplier == s)) true h (fun k i => by rw [law24_linked.l0])]
  by_cases hm : api_Link.mk c s ∈ ls
  · rw [if_pos (List.any_eq_true.2 ⟨_, hm, by simp⟩), decide_eq_true hm]; rfl
  · rw [if_neg (fun hh => by obtain ⟨x, h1, h2⟩ := List.any_eq_true.1 hh; simp only [Bool.and_eq_true, beq_iff_eq] at h2; obtain ⟨rfl, rfl⟩ := h2; exact hm h1), decide_eq_false hm]; rfl

theorem equal_ok (xs ys : List Int) (h : xs.length ≤ maxLen) : help_Equal_int.f xs ys = some (decide (xs = ys)) := by
  rw [maxLen_eq] at h
  unfold help_Equal_int.f
  by_cases hl : xs.length = ys.length
  · rw [if_neg (by simp; omega)]
    have key : help_Equal_int.l0 xs ys FUEL 0 = some (if xs = ys then .nxt () else .out false) := by
      refine loop_c (L := fun k (_ : Unit) i => help_Equal_int.l0 xs ys k i) xs.length (fun i _ => xs.take i = ys.take i) (fun o => o = some (if xs = ys then .nxt () else .out false)) ?_ ?_ FUEL 0 () (Nat.zero_le _) (FUEL_pos (by omega)) (by simp)
      · intro k s i hi hI
        rw [help_Equal_int.l0, if_pos (by simp; omega), idx_get hi, idx_get (by omega)]
        simp only [Option.bind_some]
        by_cases e : xs[i] = ys[i]
        · rw [if_neg (by simp [e])]
          refine .inl ⟨(), ?_, by rw [wi_succ (by omega)]⟩
          rw [List.take_succ_eq_append_getElem hi, List.take_succ_eq_append_getElem (by omega : i < ys.length), hI, e]
        · rw [if_pos (by simp [e])]
          refine .inr ?_
          rw [if_neg (fun h => e (by subst h; rfl))]
      · intro k s hI
        rw [help_Equal_int.l0, if_neg (by simp)]
        rw [List.take_length, hl, List.take_length] at hI
        rw [if_pos hI]
    rw [key]
    by_cases e : xs = ys
    · rw [if_pos e, decide_eq_true e]; rfl
    · rw [if_neg e, decide_eq_false e]; rfl
  · rw [if_pos (by simp; omega), decide_eq_false (fun e => hl (by rw [e]))]

/-! ### the checks -/

def badL (n : Int) (x : api_Link) : Bool := ((((decide (x.Consumer < 0)) || (decide (n ≤ x.Consumer))) || (decide (x.Supplier < 0))) || (decide (n ≤ x.Supplier)))
def vcode (n : Int) (ls : List api_Link) : Int :=
  if (((decide (n < 0)) || (decide (128 < n))) || (decide (1024 < (ls.length : Int)))) = true then 1 else if ls.any (badL n) = true then 1 else if ls.Nodup then 0 else 7

theorem nodup_take {α : Type} {xs : List α} (i : Nat) (h : xs.Nodup) : (xs.take i).Nodup := List.Sublist.nodup (List.take_sublist i xs) h

theorem mem_take_succ {α : Type} {xs : List α} {i : Nat} {x : α} (hi : i < xs.length) : x ∈ xs.take (i + 1) ↔ x ∈ xs.take i ∨ x = xs[i] := by
  rw [List.take_succ_eq_append_getElem hi, List.mem_append, List.mem_singleton]

theorem nodup_step {α : Type} {xs : List α} {i : Nat} (hi : i < xs.length) (h : (xs.take i).Nodup) : (xs.take (i + 1)).Nodup ↔ xs[i] ∉ xs.take i := by
  rw [List.take_succ_eq_append_getElem hi, List.nodup_append]
  constructor
  · rintro ⟨_, _, h3⟩ hm
    exact h3 _ hm _ (by simp) rfl
  · intro hm
    refine ⟨h, by simp, fun a ha b hb => ?_⟩
    simp only [List.mem_singleton] at hb
    subst hb
    exact fun e => hm (e ▸ ha)

theorem validate_ok (n : Int) (ls : List api_Link) (h : ls.length ≤ maxLen) : depgraph_validate.f n ls = some (vcode n ls) := by
  unfold depgraph_validate.f vcode
  by_cases h0 : (((decide (n < 0)) || (decide (128 < n))) || (decide (1024 < (ls.length : Int)))) = true
  · rw [if_pos h0, if_pos h0]
  · rw [if_neg h0, if_neg h0]
    have hlen : ls.length ≤ 1024 := by simp at h0; omega
    rw [search_ok (L := depgraph_validate.l0 n ls) ls (badL n) 1 h (fun k i => by rw [depgraph_validate.l0]; rfl)]
    by_cases hb : ls.any (badL n) = true
    · rw [if_pos hb, if_pos hb]; rfl
    · rw [if_neg hb, if_neg hb]
      simp only [Option.bind_some, Fl.go]
      have key : depgraph_validate.l1 ls FUEL [] 0 = some (if ls.Nodup then .nxt () else .out 7) := by
        refine loop_c (L := fun k (s : List api_Link) i => depgraph_validate.l1 ls k s i) ls.length (fun i s => s = ls.take i ∧ (ls.take i).Nodup) (fun o => o = some (if ls.Nodup then .nxt () else .out 7)) ?_ ?_ FUEL 0 [] (Nat.zero_le _) (FUEL_pos (by omega)) (by simp)
        · rintro k s i hi ⟨rfl, hI⟩
          rw [depgraph_validate.l1, if_pos (by simp; omega), idx_get hi]
          simp only [Option.bind_some]
          by_cases hm : ls[i] ∈ ls.take i
          · rw [if_pos (by simpa using hm)]
            refine .inr ?_
            rw [if_neg (fun hn => (nodup_step hi hI).1 (nodup_take (i + 1) hn) hm)]
          · rw [if_neg (by simpa using hm)]
            refine .inl ⟨_, ⟨?_, (nodup_step hi hI).2 hm⟩, by rw [wi_succ (by omega)]⟩
            rw [List.take_succ_eq_append_getElem hi]
        · rintro k s ⟨rfl, hI⟩
          rw [depgraph_validate.l1, if_neg (by simp)]
          rw [List.take_length] at hI
          rw [if_pos hI]
      rw [key]
      by_cases hn : ls.Nodup
      · rw [if_pos hn, if_pos hn]; rfl
      · rw [if_neg hn, if_neg hn]; rfl

theorem invalid_ok (n : Int) (ls : List api_Link) (h : ls.length ≤ maxLen) : ref24_invalid.f n ls = some ((((decide (n < 0)) || (decide (128 < n))) || (decide (1024 < (ls.length : Int)))) || ls.any (badL n)) := by
  unfold ref24_invalid.f
  by_cases h0 : (((decide (n < 0)) || (decide (128 < n))) || (decide (1024 < (ls.length : Int)))) = true
  · rw [if_pos h0, h0]; rfl
  · rw [if_neg h0]
    rw [search_ok (L := ref24_invalid.l0 n ls) ls (badL n) true h (fun k i => by rw [ref24_invalid.l0]; rfl)]
    rw [Bool.not_eq_true] at h0
    rw [h0, Bool.false_or]
    cases ls.any (badL n) <;> rfl

theorem basic_ok (n : Int) (ls : List api_Link) (h : ls.length ≤ maxLen) : ref24_Basic.f n ls = some (vcode n ls) := by
  unfold ref24_Basic.f vcode
  rw [invalid_ok n ls h]
  simp only [Option.bind_some]
  by_cases h0 : (((decide (n < 0)) || (decide (128 < n))) || (decide (1024 < (ls.length : Int)))) = true
  · rw [if_pos (by rw [h0]; rfl), if_pos h0]
  · rw [if_neg h0]
    have hlen : ls.length ≤ 1024 := by simp at h0; omega
    rw [Bool.not_eq_true] at h0
    rw [h0, Bool.false_or]
    by_cases hb : ls.any (badL n) = true
    · rw [if_pos hb, if_pos hb]
    · rw [if_neg hb, if_neg hb]
      have key : ref24_Basic.l0 ls FUEL 0 = some (if ls.Nodup then .nxt () else .out 7) := by
        refine loop_c (L := fun k (s : Unit) i => ref24_Basic.l0 ls k i) ls.length (fun i s => (ls.take i).Nodup) (fun o => o = some (if ls.Nodup then .nxt () else .out 7)) ?_ ?_ FUEL 0 () (Nat.zero_le _) (FUEL_pos (by omega)) (by simp)
        · intro k s i hi hI
          rw [ref24_Basic.l0, if_pos (by simp; omega)]
          have inner : ref24_Basic.l1 ls (i : Int) FUEL 0 = some (if ls[i] ∈ ls.take i then .out (.out 7) else .nxt ()) := by
            refine loop_c (L := fun k (s : Unit) j => ref24_Basic.l1 ls (i : Int) k j) i (fun j s => ls[i] ∉ ls.take j) (fun o => o = some (if ls[i] ∈ ls.take i then .out (.out 7) else .nxt ())) ?_ ?_ FUEL 0 () (Nat.zero_le _) (FUEL_pos (by omega)) (by simp)
            · intro k s j hj hJ
              rw [ref24_Basic.l1, if_pos (by simp; omega), idx_get hi, idx_get (by omega)]
              simp only [Option.bind_some]
              by_cases e : ls[i] = ls[j]
              · rw [if_pos (by simpa using e)]
                refine .inr ?_
                rw [if_pos]
                rw [e]
                exact List.mem_take_iff_getElem.2 ⟨j, by omega, rfl⟩
              · rw [if_neg (by simpa using e)]
                refine .inl ⟨(), ?_, by rw [wi_succ (by omega)]⟩
                rw [mem_take_succ (by omega)]
                exact fun h => h.elim hJ e
            · intro k s hJ
              rw [ref24_Basic.l1, if_neg (by simp), if_neg hJ]
          rw [inner]
          simp only [Option.bind_some]
          by_cases hm : ls[i] ∈ ls.take i
          · rw [if_pos hm]
            refine .inr ?_
            rw [if_neg (fun hn => (nodup_step hi hI).1 (nodup_take (i + 1) hn) hm)]; rfl
          · rw [if_neg hm]
            exact .inl ⟨(), (nodup_step hi hI).2 hm, by rw [wi_succ (by omega)]; rfl⟩
        · intro k s hI
          rw [ref24_Basic.l0, if_neg (by simp)]
          rw [List.take_length] at hI
          rw [if_pos hI]
      rw [key]
      by_cases hn : ls.Nodup
      · rw [if_pos hn, if_pos hn]; rfl
      · rw [if_neg hn, if_neg hn]; rfl

/-- What the checks let pass. -/
structure GoodG (n : Nat) (ls : List api_Link) : Prop where
  n128 : n ≤ 128
  len : ls.length ≤ 1024
  c0 : ∀ l ∈ ls, 0 ≤ l.Consumer ∧ l.Consumer < n
  s0 : ∀ l ∈ ls, 0 ≤ l.Supplier ∧ l.Supplier < n
  nodup : ls.Nodup

theorem vcode_good {p : Int} {ls : List api_Link} (h : vcode p ls = 0) : ∃ n : Nat, p = n ∧ GoodG n ls := by
  unfold vcode at h
  split at h
  · cases h
  · rename_i h0
    simp only [Bool.or_eq_true, decide_eq_true_eq, not_or] at h0
    split at h
    · cases h
    · rename_i hb
      split at h
      · rename_i hn
        refine ⟨p.toNat, by omega, by omega, by omega, fun l hl => ?_, fun l hl => ?_, hn⟩
        all_goals
          have : badL p l = false := by
            rw [Bool.not_eq_true, List.any_eq_false] at hb
            simpa using hb l hl
          simp [badL] at this
          omega
      · cases h
theorem good_vcode {n : Nat} {ls : List api_Link} (g : GoodG n ls) : vcode n ls = 0 := by
  unfold vcode
  rw [if_neg (by have := g.n128; have := g.len; simp; omega), if_neg, if_pos g.nodup]
  rw [Bool.not_eq_true, List.any_eq_false]
  intro l hl
  have := g.c0 l hl
  have := g.s0 l hl
  simp [badL]; omega

/-! ### the graphs of the statements -/

theorem mod_ok {x n : Int} (h0 : 0 < n) (h1 : n < 9223372036854775808) : ∃ r, help_Mod.f x n = some r ∧ 0 ≤ r ∧ r < n := by
  have hn := wu_id (x := n) (by omega) (by omega)
  have hx := wu_range x
  refine ⟨wi (Int.tmod (wu x) (wu n)), by unfold help_Mod.f; rw [if_neg (by rw [hn]; omega)], ?_⟩
  rw [hn, Int.tmod_eq_emod_of_nonneg hx.1]
  have h2 := Int.emod_nonneg (wu x) (show n ≠ 0 by omega)
  have h3 := Int.emod_lt_of_pos (wu x) h0
  rw [wi_id (by omega) (by omega)]
  exact ⟨h2, h3⟩

/-- The rank by which the graphs without cycles are made. -/
def rank (shift c : Int) : Int := (7 * c + shift) % 13

theorem rank_eq {s c : Int} (h0 : 0 ≤ c ∧ c < 13) (hs : 0 ≤ s ∧ s < 13) : Int.tmod (wi ((wi (7 * c)) + s)) 13 = rank s c := by
  rw [wi_id (x := 7 * c) (by omega) (by omega), wi_id (by omega) (by omega), Int.tmod_eq_emod_of_nonneg (by omega)]; rfl
theorem rank_inj {s c d : Int} (hc : 0 ≤ c ∧ c < 13) (hd : 0 ≤ d ∧ d < 13) (h : rank s c = rank s d) : c = d := by
  unfold rank at h; omega

structure Gr (n : Nat) (ls : List api_Link) (acyc : Bool) : Prop where
  good : GoodG n ls
  n13 : n ≤ 13
  len : ls.length ≤ 40
  down : acyc = true → ∃ r : Int → Int, ∀ l ∈ ls, r l.Supplier < r l.Consumer

theorem graph_ok (p0 : Int) (p1 : List api_Link) (b : Bool) (h : p1.length ≤ maxLen) : ∃ (n : Nat) (ls : List api_Link), law24_Graph.f p0 p1 b = some ((n : Int), ls) ∧ Gr n ls b := by
  rw [maxLen_eq] at h
  unfold law24_Graph.f
  obtain ⟨r, hr, hr0, hr1⟩ := mod_ok (x := p0) (n := 14) (by omega) (by omega)
  rw [hr]
  simp only [Option.bind_some]
  by_cases h2 : r < 2
  · rw [if_pos (by simpa using h2)]
    refine ⟨r.toNat, [], by rw [Int.toNat_of_nonneg hr0], ⟨by omega, by simp, by simp, by simp, by simp⟩, by omega, by simp, fun _ => ⟨fun _ => 0, by simp⟩⟩
  · rw [if_neg (by simpa using h2)]
    obtain ⟨t, ht, ht0, ht1⟩ := mod_ok (x := p0) (n := 13) (by omega) (by omega)
    rw [ht]
    simp only [Option.bind_some]
    obtain ⟨n, rfl⟩ := Int.eq_ofNat_of_zero_le hr0
    have key : ∃ ls, law24_Graph.l0 p1 b (n : Int) t FUEL [] 0 = some ls ∧ ls.length ≤ 40 ∧ ls.Nodup ∧ (∀ l ∈ ls, 0 ≤ l.Consumer ∧ l.Consumer < n) ∧ (∀ l ∈ ls, 0 ≤ l.Supplier ∧ l.Supplier < n) ∧ (b = true → ∀ l ∈ ls, rank t l.Supplier < rank t l.Consumer) := by
      refine loop_c (L := fun k (s : List api_Link) i => law24_Graph.l0 p1 b (n : Int) t k s i) (min p1.length 40) (fun i s => s.length ≤ i ∧ s.Nodup ∧ (∀ l ∈ s, 0 ≤ l.Consumer ∧ l.Consumer < n) ∧ (∀ l ∈ s, 0 ≤ l.Supplier ∧ l.Supplier < n) ∧ (b = true → ∀ l ∈ s, rank t l.Supplier < rank t l.Consumer))
        (fun o => ∃ ls, o = some ls ∧ ls.length ≤ 40 ∧ ls.Nodup ∧ (∀ l ∈ ls, 0 ≤ l.Consumer ∧ l.Consumer < n) ∧ (∀ l ∈ ls, 0 ≤ l.Supplier ∧ l.Supplier < n) ∧ (b = true → ∀ l ∈ ls, rank t l.Supplier < rank t l.Consumer)) ?_ ?_ FUEL 0 [] (Nat.zero_le _) (FUEL_pos (by omega)) (by simp)
      · rintro k s i hi ⟨i1, i2, i3, i4, i5⟩
        have hi1 : i < p1.length := by omega
        rw [law24_Graph.l0, if_pos (by simp; omega), idx_get hi1]
        simp only [Option.bind_some]
        obtain ⟨c, hc, hc0, hc1⟩ := mod_ok (x := p1[i].Consumer) (n := (n : Int)) (by omega) (by omega)
        obtain ⟨d, hd, hd0, hd1⟩ := mod_ok (x := p1[i].Supplier) (n := (n : Int)) (by omega) (by omega)
        rw [hc, hd]
        simp only [Option.bind_some]
        -- what the pair becomes
        have pair : (∃ u v, (if b = true then (if (c == d) = true then (some (.out s)) else (if decide ((Int.tmod (wi ((wi (7 * c)) + t)) 13) < (Int.tmod (wi ((wi (7 * d)) + t)) 13)) = true then (some (.nxt (d, c))) else (some (.nxt (c, d))))) else (some (.nxt (c, d))) : Option (Fl ((List api_Link)) (Int × Int))) = some (.nxt (u, v)) ∧ (0 ≤ u ∧ u < n) ∧ (0 ≤ v ∧ v < n) ∧ (b = true → rank t v < rank t u)) ∨
            (if b = true then (if (c == d) = true then (some (.out s)) else (if decide ((Int.tmod (wi ((wi (7 * c)) + t)) 13) < (Int.tmod (wi ((wi (7 * d)) + t)) 13)) = true then (some (.nxt (d, c))) else (some (.nxt (c, d))))) else (some (.nxt (c, d))) : Option (Fl ((List api_Link)) (Int × Int))) = some (.out s) := by
          cases b
          · exact .inl ⟨c, d, by simp, ⟨hc0, hc1⟩, ⟨hd0, hd1⟩, by simp⟩
          · simp only [if_true]
            by_cases e : c = d
            · exact .inr (by simp [e])
            · rw [if_neg (by simpa using e), rank_eq ⟨hc0, by omega⟩ ⟨ht0, ht1⟩, rank_eq ⟨hd0, by omega⟩ ⟨ht0, ht1⟩]
              by_cases hlt : rank t c < rank t d
              · exact .inl ⟨d, c, by rw [if_pos (by simpa using hlt)], ⟨hd0, hd1⟩, ⟨hc0, hc1⟩, fun _ => hlt⟩
              · refine .inl ⟨c, d, by rw [if_neg (by simpa using hlt)], ⟨hc0, hc1⟩, ⟨hd0, hd1⟩, fun _ => ?_⟩
                have : rank t c ≠ rank t d := fun h => e (rank_inj ⟨hc0, by omega⟩ ⟨hd0, by omega⟩ h)
                omega
        rcases pair with ⟨u, v, hp, hu, hv, huv⟩ | hp
        · rw [hp]
          simp only [Option.bind_some, Fl.go]
          have fresh : law24_Graph.l1 s (u, v) FUEL true 0 = some (decide (api_Link.mk u v ∉ s)) := by
            refine loop_c (L := fun k (q : Bool) j => law24_Graph.l1 s (u, v) k q j) s.length (fun j q => q = decide (api_Link.mk u v ∉ s.take j)) (fun o => o = some (decide (api_Link.mk u v ∉ s))) ?_ ?_ FUEL 0 true (Nat.zero_le _) (FUEL_pos (by omega)) (by simp)
            · rintro k q j hj rfl
              rw [law24_Graph.l1, if_pos (by simp; omega), idx_get hj]
              simp only [Option.bind_some]
              refine .inl ⟨_, rfl, ?_⟩
              rw [wi_succ (by omega)]
              by_cases hm : api_Link.mk u v ∈ s.take j
              · rw [if_neg (by simp [hm]), decide_eq_false (fun h => h ((mem_take_succ hj).2 (.inl hm)))]; rfl
              · rw [if_pos (by simp [hm])]
                by_cases e : s[j] = api_Link.mk u v
                · rw [decide_eq_false (p := ¬ api_Link.mk u v ∈ s.take (j + 1)) (fun h => h ((mem_take_succ hj).2 (.inr e.symm))), decide_eq_true e]; rfl
                · rw [decide_eq_true (p := ¬ api_Link.mk u v ∈ s.take (j + 1)) (fun h => ((mem_take_succ hj).1 h).elim hm (fun h => e h.symm)), decide_eq_false e]; rfl
            · rintro k q rfl
              rw [law24_Graph.l1, if_neg (by simp), List.take_length]
          rw [fresh]
          simp only [Option.bind_some]
          by_cases hm : api_Link.mk u v ∈ s
          · rw [if_neg (by simp [hm])]
            exact .inl ⟨s, ⟨by omega, i2, i3, i4, i5⟩, by rw [wi_succ (by omega)]; rfl⟩
          · rw [if_pos (by simp [hm]), app_ok (by simp; omega)]
            refine .inl ⟨s ++ [api_Link.mk u v], ⟨by simp; omega, ?_, ?_, ?_, ?_⟩, by rw [wi_succ (by omega)]; rfl⟩
            · rw [List.nodup_append]
              refine ⟨i2, by simp, fun a ha b' hb => ?_⟩
              simp only [List.mem_singleton] at hb
              subst hb
              exact fun e => hm (e ▸ ha)
            all_goals
              simp only [List.mem_append, List.mem_singleton]
            · rintro l (hl | rfl)
              · exact i3 l hl
              · exact hu
            · rintro l (hl | rfl)
              · exact i4 l hl
              · exact hv
            · rintro hb l (hl | rfl)
              · exact i5 hb l hl
              · exact huv hb
        · rw [hp]
          simp only [Option.bind_some, Fl.go]
          exact .inl ⟨s, ⟨by omega, i2, i3, i4, i5⟩, by rw [wi_succ (by omega)]⟩
      · rintro k s ⟨i1, i2, i3, i4, i5⟩
        rw [law24_Graph.l0, if_neg (by simp; omega)]
        exact ⟨s, rfl, by omega, i2, i3, i4, i5⟩
    obtain ⟨ls, h1, h3, h4, h5, h6, h7⟩ := key
    rw [h1]
    exact ⟨n, ls, rfl, ⟨by omega, by omega, h5, h6, h4⟩, by omega, h3, fun hb => ⟨rank t, h7 hb⟩⟩

end Go.Proofs.Ytphgandhncmaoaa.Sim
