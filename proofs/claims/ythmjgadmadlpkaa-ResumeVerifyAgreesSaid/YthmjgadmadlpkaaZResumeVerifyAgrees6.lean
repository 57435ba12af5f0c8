/-
  Texts of this session, part 6 of 6: the words of the walk, plain functions with the same answers as the Go functions and the proofs of it, plain lemmas. No condition.
  They are, one behind the other: G2 G3 G4 S1 S2 S3 S4 S5 S6 S7 SV S8 QRef24Remove QRef24Order GR RS RV PuVerify.
-/
import Derived.Test.YthmjgadmadlpkaaProg
import Derived.Test.YthmjgadmadlpkaaZResumeVerifyAgrees5

namespace Go.Proofs.Ythmjgadmadlpkaa.Sim
open Go
set_option linter.unusedVariables false

/-- A loop that looks for the first element with P. -/
theorem search_ok {α ρ : Type} {L : Nat → Int → Option (Fl ρ Unit)} (xs : List α) (P : α → Bool) (v : ρ) (hlen : xs.length ≤ maxLen)
    (hL : ∀ k (i : Nat), L (k + 1) (i : Int) = if decide ((i : Int) < (xs.length : Int)) = true then (idx xs (i : Int)).bind fun x => if P x = true then some (.out v) else L k (wi ((i : Int) + 1)) else some (.nxt ())) :
    L FUEL 0 = some (if xs.any P = true then .out v else .nxt ()) := by
  rw [maxLen_eq] at hlen
  refine loop_c (L := fun k (_ : Unit) i => L k i) xs.length (fun i _ => ∀ x ∈ xs.take i, P x = false) (fun o => o = some (if xs.any P = true then .out v else .nxt ())) ?_ ?_ FUEL 0 () (Nat.zero_le _) (FUEL_pos (by omega)) (by simp)
  · intro k s i hi hI
    simp only [hL]
    rw [if_pos (by simp; omega), idx_get hi]
    simp only [Option.bind_some]
    by_cases hp : P xs[i] = true
    · rw [if_pos hp]
      refine .inr ?_
      rw [if_pos (List.any_eq_true.2 ⟨_, List.getElem_mem hi, hp⟩)]
    · rw [if_neg hp]
      refine .inl ⟨(), ?_, by rw [wi_succ (by omega)]⟩
      intro x hx
      rw [List.take_succ_eq_append_getElem hi] at hx
      rcases List.mem_append.1 hx with h | h
      · exact hI x h
      · simp only [List.mem_singleton] at h; subst h; simpa using hp
  · intro k s hI
    simp only [hL]
    rw [if_neg (by simp)]
    rw [List.take_length] at hI
    rw [if_neg]
    intro h
    obtain ⟨x, h1, h2⟩ := List.any_eq_true.1 h
    rw [hI x h1] at h2; cases h2

/-! ### the checks -/

def badL (n : Int) (x : api_Link) : Bool := ((((decide (x.Consumer < 0)) || (decide (n ≤ x.Consumer))) || (decide (x.Supplier < 0))) || (decide (n ≤ x.Supplier)))
def vcode (n : Int) (ls : List api_Link) : Int :=
  if (((decide (n < 0)) || (decide (128 < n))) || (decide (1024 < (ls.length : Int)))) = true then 1 else if ls.any (badL n) = true then 1 else if ls.Nodup then 0 else 7

theorem nodup_take {α : Type} {xs : List α} (i : Nat) (h : xs.Nodup) : (xs.take i).Nodup := List.Sublist.nodup (List.take_sublist i xs) h

theorem mem_take_succ {α : Type} {xs : List α} {i : Nat} {x : α} (hi : i < xs.length) : x ∈ xs.take (i + 1) ↔ x ∈ xs.take i ∨ x = xs[i] := by
  rw [List.take_succ_eq_append_getElem hi, List.mem_append, List.mem_singleton]

theorem nodup_step {α : Type} {xs : List α} {i : Nat} (hi : i < xs.length) (h : (xs.take i).Nodup) : (xs.take (i + 1)).Nodup ↔ xs[i] ∉ xs.take i := by
  rw [List.take_succ_eq_append_getElem hi, List.nodup_append]
  constructor
  · rintro ⟨_, _, h3⟩ hm
    exact h3 _ hm _ (by simp) rfl
  · intro hm
    refine ⟨h, by simp, fun a ha b hb => ?_⟩
    simp only [List.mem_singleton] at hb
    subst hb
    exact fun e => hm (e ▸ ha)

theorem validate_ok (n : Int) (ls : List api_Link) (h : ls.length ≤ maxLen) : depgraph_validate.f n ls = some (vcode n ls) := by
  unfold depgraph_validate.f vcode
  by_cases h0 : (((decide (n < 0)) || (decide (128 < n))) || (decide (1024 < (ls.length : Int)))) = true
  · rw [if_pos h0, if_pos h0]
  · rw [if_neg h0, if_neg h0]
    have hlen : ls.length ≤ 1024 := by simp at h0; omega
    rw [search_ok (L := depgraph_validate.l0 n ls) ls (badL n) 1 h (fun k i => by rw [depgraph_validate.l0]; rfl)]
    by_cases hb : ls.any (badL n) = true
    · rw [if_pos hb, if_pos hb]; rfl
    · rw [if_neg hb, if_neg hb]
      simp only [Option.bind_some, Fl.go]
      have key : depgraph_validate.l1 ls FUEL [] 0 = some (if ls.Nodup then .nxt () else .out 7) := by
        refine loop_c (L := fun k (s : List api_Link) i => depgraph_validate.l1 ls k s i) ls.length (fun i s => s = ls.take i ∧ (ls.take i).Nodup) (fun o => o = some (if ls.Nodup then .nxt () else .out 7)) ?_ ?_ FUEL 0 [] (Nat.zero_le _) (FUEL_pos (by omega)) (by simp)
        · rintro k s i hi ⟨rfl, hI⟩
          rw [depgraph_validate.l1, if_pos (by simp; omega), idx_get hi]
          simp only [Option.bind_some]
          by_cases hm : ls[i] ∈ ls.take i
          · rw [if_pos (by simpa using hm)]
            refine .inr ?_
            rw [if_neg (fun hn => (nodup_step hi hI).1 (nodup_take (i + 1) hn) hm)]
          · rw [if_neg (by simpa using hm)]
            refine .inl ⟨_, ⟨?_, (nodup_step hi hI).2 hm⟩, by rw [wi_succ (by omega)]⟩
            rw [List.take_succ_eq_append_getElem hi]
        · rintro k s ⟨rfl, hI⟩
          rw [depgraph_validate.l1, if_neg (by simp)]
          rw [List.take_length] at hI
          rw [if_pos hI]
      rw [key]
      by_cases hn : ls.Nodup
      · rw [if_pos hn, if_pos hn]; rfl
      · rw [if_neg hn, if_neg hn]; rfl

/-- What the checks let pass. -/
structure GoodG (n : Nat) (ls : List api_Link) : Prop where
  n128 : n ≤ 128
  len : ls.length ≤ 1024
  c0 : ∀ l ∈ ls, 0 ≤ l.Consumer ∧ l.Consumer < n
  s0 : ∀ l ∈ ls, 0 ≤ l.Supplier ∧ l.Supplier < n
  nodup : ls.Nodup

theorem vcode_good {p : Int} {ls : List api_Link} (h : vcode p ls = 0) : ∃ n : Nat, p = n ∧ GoodG n ls := by
  unfold vcode at h
  split at h
  · cases h
  · rename_i h0
    simp only [Bool.or_eq_true, decide_eq_true_eq, not_or] at h0
    split at h
    · cases h
    · rename_i hb
      split at h
      · rename_i hn
        refine ⟨p.toNat, by omega, by omega, by omega, fun l hl => ?_, fun l hl => ?_, hn⟩
        all_goals
          have : badL p l = false := by
            rw [Bool.not_eq_true, List.any_eq_false] at hb
            simpa using hb l hl
          simp [badL] at this
          omega
      · cases h
theorem good_vcode {n : Nat} {ls : List api_Link} (g : GoodG n ls) : vcode n ls = 0 := by
  unfold vcode
  rw [if_neg (by have := g.n128; have := g.len; simp; omega), if_neg, if_pos g.nodup]
  rw [Bool.not_eq_true, List.any_eq_false]
  intro l hl
  have := g.c0 l hl
  have := g.s0 l hl
  simp [badL]; omega

/-! ### the graphs of the statements -/

theorem mod_ok {x n : Int} (h0 : 0 < n) (h1 : n < 9223372036854775808) : ∃ r, help_Mod.f x n = some r ∧ 0 ≤ r ∧ r < n := by
  have hn := wu_id (x := n) (by omega) (by omega)
  have hx := wu_range x
  refine ⟨wi (Int.tmod (wu x) (wu n)), by unfold help_Mod.f; rw [if_neg (by rw [hn]; omega)], ?_⟩
  rw [hn, Int.tmod_eq_emod_of_nonneg hx.1]
  have h2 := Int.emod_nonneg (wu x) (show n ≠ 0 by omega)
  have h3 := Int.emod_lt_of_pos (wu x) h0
  rw [wi_id (by omega) (by omega)]
  exact ⟨h2, h3⟩

/-- The rank by which the graphs without cycles are made. -/
def rank (shift c : Int) : Int := (7 * c + shift) % 13

theorem rank_eq {s c : Int} (h0 : 0 ≤ c ∧ c < 13) (hs : 0 ≤ s ∧ s < 13) : Int.tmod (wi ((wi (7 * c)) + s)) 13 = rank s c := by
  rw [wi_id (x := 7 * c) (by omega) (by omega), wi_id (by omega) (by omega), Int.tmod_eq_emod_of_nonneg (by omega)]; rfl
theorem rank_inj {s c d : Int} (hc : 0 ≤ c ∧ c < 13) (hd : 0 ≤ d ∧ d < 13) (h : rank s c = rank s d) : c = d := by
  unfold rank at h; omega

structure Gr (n : Nat) (ls : List api_Link) (acyc : Bool) : Prop where
  good : GoodG n ls
  n13 : n ≤ 13
  len : ls.length ≤ 40
  down : acyc = true → ∃ r : Int → Int, ∀ l ∈ ls, r l.Supplier < r l.Consumer

theorem graph_ok (p0 : Int) (p1 : List api_Link) (b : Bool) (h : p1.length ≤ maxLen) : ∃ (n : Nat) (ls : List api_Link), law24_Graph.f p0 p1 b = some ((n : Int), ls) ∧ Gr n ls b := by
  rw [maxLen_eq] at h
  unfold law24_Graph.f
  obtain ⟨r, hr, hr0, hr1⟩ := mod_ok (x := p0) (n := 14) (by omega) (by omega)
  rw [hr]
  simp only [Option.bind_some]
  by_cases h2 : r < 2
  · rw [if_pos (by simpa using h2)]
    refine ⟨r.toNat, [], by rw [Int.toNat_of_nonneg hr0], ⟨by omega, by simp, by simp, by simp, by simp⟩, by omega, by simp, fun _ => ⟨fun _ => 0, by simp⟩⟩
  · rw [if_neg (by simpa using h2)]
    obtain ⟨t, ht, ht0, ht1⟩ := mod_ok (x := p0) (n := 13) (by omega) (by omega)
    rw [ht]
    simp only [Option.bind_some]
    obtain ⟨n, rfl⟩ := Int.eq_ofNat_of_zero_le hr0
    have key : ∃ ls, law24_Graph.l0 p1 b (n : Int) t FUEL [] 0 = some ls ∧ ls.length ≤ 40 ∧ ls.Nodup ∧ (∀ l ∈ ls, 0 ≤ l.Consumer ∧ l.Consumer < n) ∧ (∀ l ∈ ls, 0 ≤ l.Supplier ∧ l.Supplier < n) ∧ (b = true → ∀ l ∈ ls, rank t l.Supplier < rank t l.Consumer) := by
      refine loop_c (L := fun k (s : List api_Link) i => law24_Graph.l0 p1 b (n : Int) t k s i) (min p1.length 40) (fun i s => s.length ≤ i ∧ s.Nodup ∧ (∀ l ∈ s, 0 ≤ l.Consumer ∧ l.Consumer < n) ∧ (∀ l ∈ s, 0 ≤ l.Supplier ∧ l.Supplier < n) ∧ (b = true → ∀ l ∈ s, rank t l.Supplier < rank t l.Consumer))
        (fun o => ∃ ls, o = some ls ∧ ls.length ≤ 40 ∧ ls.Nodup ∧ (∀ l ∈ ls, 0 ≤ l.Consumer ∧ l.Consumer < n) ∧ (∀ l ∈ ls, 0 ≤ l.Supplier ∧ l.Supplier < n) ∧ (b = true → ∀ l ∈ ls, rank t l.Supplier < rank t l.Consumer)) ?_ ?_ FUEL 0 [] (Nat.zero_le _) (FUEL_pos (by omega)) (by simp)
      · rintro k s i hi ⟨i1, i2, i3, i4, i5⟩
        have hi1 : i < p1.length := by omega
        rw [law24_Graph.l0, if_pos (by simp; omega), idx_get hi1]
        simp only [Option.bind_some]
        obtain ⟨c, hc, hc0, hc1⟩ := mod_ok (x := p1[i].Consumer) (n := (n : Int)) (by omega) (by omega)
        obtain ⟨d, hd, hd0, hd1⟩ := mod_ok (x := p1[i].Supplier) (n := (n : Int)) (by omega) (by omega)
        rw [hc, hd]
        simp only [Option.bind_some]
        -- what the pair becomes
        have pair : (∃ u v, (if b = true then (if (c == d) = true then (some (.out s)) else (if decide ((Int.tmod (wi ((wi (7 * c)) + t)) 13) < (Int.tmod (wi ((wi (7 * d)) + t)) 13)) = true then (some (.nxt (d, c))) else (some (.nxt (c, d))))) else (some (.nxt (c, d))) : Option (Fl ((List api_Link)) (Int × Int))) = some (.nxt (u, v)) ∧ (0 ≤ u ∧ u < n) ∧ (0 ≤ v ∧ v < n) ∧ (b = true → rank t v < rank t u)) ∨
            (if b = true then (if (c == d) = true then (some (.out s)) else (if decide ((Int.tmod (wi ((wi (7 * c)) + t)) 13) < (Int.tmod (wi ((wi (7 * d)) + t)) 13)) = true then (some (.nxt (d, c))) else (some (.nxt (c, d))))) else (some (.nxt (c, d))) : Option (Fl ((List api_Link)) (Int × Int))) = some (.out s) := by
          cases b
          · exact .inl ⟨c, d, by simp, ⟨hc0, hc1⟩, ⟨hd0, hd1⟩, by simp⟩
          · simp only [if_true]
            by_cases e : c = d
            · exact .inr (by simp [e])
            · rw [if_neg (by simpa using e), rank_eq ⟨hc0, by omega⟩ ⟨ht0, ht1⟩, rank_eq ⟨hd0, by omega⟩ ⟨ht0, ht1⟩]
              by_cases hlt : rank t c < rank t d
              · exact .inl ⟨d, c, by rw [if_pos (by simpa using hlt)], ⟨hd0, hd1⟩, ⟨hc0, hc1⟩, fun _ => hlt⟩
              · refine .inl ⟨c, d, by rw [if_neg (by simpa using hlt)], ⟨hc0, hc1⟩, ⟨hd0, hd1⟩, fun _ => ?_⟩
                have : rank t c ≠ rank t d := fun h => e (rank_inj ⟨hc0, by omega⟩ ⟨hd0, by omega⟩ h)
                omega
        rcases pair with ⟨u, v, hp, hu, hv, huv⟩ | hp
        · rw [hp]
          simp only [Option.bind_some, Fl.go]
          have fresh : law24_Graph.l1 s (u, v) FUEL true 0 = some (decide (api_Link.mk u v ∉ s)) := by
            refine loop_c (L := fun k (q : Bool) j => law24_Graph.l1 s (u, v) k q j) s.length (fun j q => q = decide (api_Link.mk u v ∉ s.take j)) (fun o => o = some (decide (api_Link.mk u v ∉ s))) ?_ ?_ FUEL 0 true (Nat.zero_le _) (FUEL_pos (by omega)) (by simp)
            · rintro k q j hj rfl
              rw [law24_Graph.l1, if_pos (by simp; omega), idx_get hj]
              simp only [Option.bind_some]
              refine .inl ⟨_, rfl, ?_⟩
              rw [wi_succ (by omega)]
              by_cases hm : api_Link.mk u v ∈ s.take j
              · rw [if_neg (by simp [hm]), decide_eq_false (fun h => h ((mem_take_succ hj).2 (.inl hm)))]; rfl
              · rw [if_pos (by simp [hm])]
                by_cases e : s[j] = api_Link.mk u v
                · rw [decide_eq_false (p := ¬ api_Link.mk u v ∈ s.take (j + 1)) (fun h => h ((mem_take_succ hj).2 (.inr e.symm))), decide_eq_true e]; rfl
                · rw [decide_eq_true (p := ¬ api_Link.mk u v ∈ s.take (j + 1)) (fun h => ((mem_take_succ hj).1 h).elim hm (fun h => e h.symm)), decide_eq_false e]; rfl
            · rintro k q rfl
              rw [law24_Graph.l1, if_neg (by simp), List.take_length]
          rw [fresh]
          simp only [Option.bind_some]
          by_cases hm : api_Link.mk u v ∈ s
          · rw [if_neg (by simp [hm])]
            exact .inl ⟨s, ⟨by omega, i2, i3, i4, i5⟩, by rw [wi_succ (by omega)]; rfl⟩
          · rw [if_pos (by simp [hm]), app_ok (by simp; omega)]
            refine .inl ⟨s ++ [api_Link.mk u v], ⟨by simp; omega, ?_, ?_, ?_, ?_⟩, by rw [wi_succ (by omega)]; rfl⟩
            · rw [List.nodup_append]
              refine ⟨i2, by simp, fun a ha b' hb => ?_⟩
              simp only [List.mem_singleton] at hb
              subst hb
              exact fun e => hm (e ▸ ha)
            all_goals
              simp only [List.mem_append, List.mem_singleton]
            · rintro l (hl | rfl)
              · exact i3 l hl
              · exact hu
            · rintro l (hl | rfl)
              · exact i4 l hl
              · exact hv
            · rintro hb l (hl | rfl)
              · exact i5 hb l hl
              · exact huv hb
        · rw [hp]
          simp only [Option.bind_some, Fl.go]
          exact .inl ⟨s, ⟨by omega, i2, i3, i4, i5⟩, by rw [wi_succ (by omega)]⟩
      · rintro k s ⟨i1, i2, i3, i4, i5⟩
        rw [law24_Graph.l0, if_neg (by simp; omega)]
        exact ⟨s, rfl, by omega, i2, i3, i4, i5⟩
    obtain ⟨ls, h1, h3, h4, h5, h6, h7⟩ := key
    rw [h1]
    exact ⟨n, ls, rfl, ⟨by omega, by omega, h5, h6, h4⟩, by omega, h3, fun hb => ⟨rank t, h7 hb⟩⟩

end Go.Proofs.Ythmjgadmadlpkaa.Sim

namespace Go.Proofs.Ythmjgadmadlpkaa.Sim
open Go
set_option linter.unusedVariables false

/-! ### consumers and counts -/

def consOf (ls : List api_Link) (s : Int) : List Int := (ls.filter (fun l => l.Supplier == s)).map (·.Consumer)
def rem (ls : List api_Link) (out : List Int) (c : Int) : Nat := ls.countP (fun l => (l.Consumer == c) && decide (l.Supplier ∉ out))

theorem mem_consOf {ls : List api_Link} {s c : Int} : c ∈ consOf ls s ↔ api_Link.mk c s ∈ ls := by
  unfold consOf
  simp only [List.mem_map, List.mem_filter, beq_iff_eq]
  constructor
  · rintro ⟨l, ⟨h1, h2⟩, rfl⟩; subst h2; exact h1
  · intro h; exact ⟨_, ⟨h, rfl⟩, rfl⟩

theorem rem_split {out : List Int} {x : Int} (hx : x ∉ out) : ∀ (ls : List api_Link) (c : Int), rem ls out c = rem ls (out ++ [x]) c + (consOf ls x).count c
  | [], c => by simp [rem, consOf]
  | l :: t, c => by
    have ih := rem_split hx t c
    unfold rem consOf at ih ⊢
    simp only [List.countP_cons, List.filter_cons]
    by_cases h1 : l.Consumer = c <;> by_cases h2 : l.Supplier = x <;> by_cases h4 : l.Supplier ∈ out <;> grind

theorem consOf_snoc (ls : List api_Link) (l : api_Link) (s : Int) : consOf (ls ++ [l]) s = if l.Supplier = s then consOf ls s ++ [l.Consumer] else consOf ls s := by
  unfold consOf
  by_cases h : l.Supplier = s <;> simp [List.filter_append, h]
theorem rem_snoc (ls : List api_Link) (l : api_Link) (c : Int) : rem (ls ++ [l]) [] c = rem ls [] c + if l.Consumer = c then 1 else 0 := by
  unfold rem
  by_cases h : l.Consumer = c <;> simp [List.countP_append, h]
theorem rem_le (ls : List api_Link) (out : List Int) (c : Int) : rem ls out c ≤ ls.length := List.countP_le_length
theorem consOf_le (ls : List api_Link) (s : Int) : (consOf ls s).length ≤ ls.length := by
  unfold consOf; rw [List.length_map]; exact List.length_filter_le _ _

theorem adjacent_ok {n : Nat} {ls : List api_Link} (g : GoodG n ls) : ∃ adj cnt, depgraph_adjacent.f (n : Int) ls = some (adj, cnt) ∧ adj.length = n ∧ cnt.length = n ∧ ∀ v, 0 ≤ v → v < (n : Int) → idx adj v = some (consOf ls v) ∧ idx cnt v = some (rem ls [] v : Int) := by
  have hn := g.n128
  have hl := g.len
  unfold depgraph_adjacent.f
  rw [mk_ok (by omega), mk_ok (by omega)]
  simp only [Option.bind_some]
  have key : ∃ adj cnt, depgraph_adjacent.l0 ls FUEL (List.replicate n []) (List.replicate n 0) 0 = some (adj, cnt) ∧ adj.length = n ∧ cnt.length = n ∧ ∀ v, 0 ≤ v → v < (n : Int) → idx adj v = some (consOf ls v) ∧ idx cnt v = some (rem ls [] v : Int) := by
    refine loop_c (L := fun k (s : List (List Int) × List Int) i => depgraph_adjacent.l0 ls k s.1 s.2 i) ls.length (fun i s => s.1.length = n ∧ s.2.length = n ∧ ∀ v, 0 ≤ v → v < (n : Int) → idx s.1 v = some (consOf (ls.take i) v) ∧ idx s.2 v = some (rem (ls.take i) [] v : Int))
      (fun o => ∃ adj cnt, o = some (adj, cnt) ∧ adj.length = n ∧ cnt.length = n ∧ ∀ v, 0 ≤ v → v < (n : Int) → idx adj v = some (consOf ls v) ∧ idx cnt v = some (rem ls [] v : Int)) ?_ ?_ FUEL 0 (_, _) (Nat.zero_le _) (FUEL_pos (by omega)) ?_
    · rintro k ⟨adj, cnt⟩ i hi ⟨h1, h2, h3⟩
      simp only at h1 h2 h3 ⊢
      have hm := List.getElem_mem hi
      have hc := g.c0 _ hm
      have hs := g.s0 _ hm
      rw [depgraph_adjacent.l0, if_pos (by simp; omega), idx_get hi]
      simp only [Option.bind_some]
      have hcl := consOf_le (ls.take i) ls[i].Supplier
      rw [List.length_take] at hcl
      have hrl := rem_le (ls.take i) [] ls[i].Consumer
      rw [List.length_take] at hrl
      rw [(h3 _ hs.1 hs.2).1]
      simp only [Option.bind_some]
      rw [app_ok (by simp only [List.length_singleton]; omega)]
      simp only [Option.bind_some]
      rw [(h3 _ hc.1 hc.2).2]
      simp only [Option.bind_some]
      refine .inl ⟨(upd adj ls[i].Supplier (consOf (ls.take i) ls[i].Supplier ++ [ls[i].Consumer]), upd cnt ls[i].Consumer ((rem (ls.take i) [] ls[i].Consumer + 1 : Nat) : Int)), ?_, by rw [wi_succ (by omega), wi_succ (by omega)]⟩
      refine ⟨by rw [upd_length]; exact h1, by rw [upd_length]; exact h2, fun v v0 v1 => ?_⟩
      rw [idx_upd (xs := adj) hs.1 v0 (by omega), idx_upd (xs := cnt) hc.1 v0 (by omega), List.take_succ_eq_append_getElem hi, consOf_snoc, rem_snoc]
      obtain ⟨q1, q2⟩ := h3 v v0 v1
      constructor
      · by_cases e : ls[i].Supplier = v
        · subst e; rw [if_pos rfl, if_pos rfl]
        · rw [if_neg e, if_neg e]; exact q1
      · by_cases e : ls[i].Consumer = v
        · subst e; rw [if_pos rfl, if_pos rfl]
        · rw [if_neg e, if_neg e]; exact q2
    · rintro k ⟨adj, cnt⟩ ⟨h1, h2, h3⟩
      simp only at h1 h2 h3 ⊢
      rw [depgraph_adjacent.l0, if_neg (by simp)]
      rw [List.take_length] at h3
      exact ⟨adj, cnt, rfl, h1, h2, h3⟩
    · refine ⟨by simp, by simp, fun v v0 v1 => ?_⟩
      simp only
      rw [idx_replicate v0 v1, idx_replicate v0 v1]
      simp [consOf, rem]
  obtain ⟨adj, cnt, h1, h2⟩ := key
  rw [h1]
  exact ⟨adj, cnt, rfl, h2⟩

/-! ### the order -/

def free (ls : List api_Link) (out : List Int) (v : Int) : Bool := decide (v ∉ out) && ls.all (fun l => !(l.Consumer == v) || decide (l.Supplier ∈ out))
def least (n : Nat) (ls : List api_Link) (out : List Int) : Option Int := (below n).find? (free ls out)

theorem free_iff {ls : List api_Link} {out : List Int} {v : Int} : free ls out v = true ↔ v ∉ out ∧ ∀ l ∈ ls, l.Consumer = v → l.Supplier ∈ out := by
  unfold free
  simp only [Bool.and_eq_true, decide_eq_true_eq, List.all_eq_true, Bool.or_eq_true, Bool.not_eq_true', beq_eq_false_iff_ne, ne_eq]
  constructor
  · rintro ⟨h1, h2⟩; exact ⟨h1, fun l hl e => (h2 l hl).resolve_left (fun h => h e)⟩
  · rintro ⟨h1, h2⟩; exact ⟨h1, fun l hl => by by_cases e : l.Consumer = v <;> simp [e, h2 l hl]⟩

theorem free_rem {ls : List api_Link} {out : List Int} {v : Int} : free ls out v = true ↔ v ∉ out ∧ rem ls out v = 0 := by
  rw [free_iff]
  unfold rem
  rw [List.countP_eq_zero]
  simp only [Bool.and_eq_true, beq_iff_eq, decide_eq_true_eq, not_and, Decidable.not_not]

theorem find_below (P : Int → Bool) : ∀ (n : Nat), ((∀ u : Int, 0 ≤ u → u < n → P u = false) ∧ (below n).find? P = none) ∨ ∃ v : Int, 0 ≤ v ∧ v < n ∧ P v = true ∧ (∀ u : Int, 0 ≤ u → u < v → P u = false) ∧ (below n).find? P = some v
  | 0 => .inl ⟨fun u h0 h1 => by omega, by simp [below]⟩
  | n + 1 => by
    rw [below_succ, List.find?_append]
    rcases find_below P n with ⟨h1, h2⟩ | ⟨v, h1, h2, h3, h4, h5⟩
    · rw [h2]
      by_cases hp : P (n : Int) = true
      · exact .inr ⟨n, by omega, by omega, hp, h1, by simp [hp]⟩
      · refine .inl ⟨fun u h0 h3 => ?_, by simp [hp]⟩
        by_cases e : u = n
        · subst e; simpa using hp
        · exact h1 u h0 (by omega)
    · exact .inr ⟨v, h1, by omega, h3, h4, by rw [h5]; rfl⟩

theorem least_of {n : Nat} {ls : List api_Link} {out : List Int} {v : Int} (h0 : 0 ≤ v) (h1 : v < n) (h2 : free ls out v = true) (h3 : ∀ u, 0 ≤ u → u < v → free ls out u = false) : least n ls out = some v := by
  rcases find_below (free ls out) n with ⟨h4, h5⟩ | ⟨u, h4, h5, h6, h7, h8⟩
  · rw [h4 v h0 h1] at h2; cases h2
  · have : u = v := by
      rcases Int.lt_trichotomy u v with h | h | h
      · rw [h3 u h4 h] at h6; cases h6
      · exact h
      · rw [h7 v h0 h] at h2; cases h2
    subst this; exact h8
theorem least_some {n : Nat} {ls : List api_Link} {out : List Int} {v : Int} (h : least n ls out = some v) : 0 ≤ v ∧ v < n ∧ free ls out v = true ∧ ∀ u, 0 ≤ u → u < v → free ls out u = false := by
  rcases find_below (free ls out) n with ⟨h4, h5⟩ | ⟨u, h4, h5, h6, h7, h8⟩
  · unfold least at h; rw [h5] at h; cases h
  · unfold least at h; rw [h8] at h; injection h with h; subst h; exact ⟨h4, h5, h6, h7⟩
theorem least_none {n : Nat} {ls : List api_Link} {out : List Int} : least n ls out = none ↔ ∀ u : Int, 0 ≤ u → u < n → free ls out u = false := by
  rcases find_below (free ls out) n with ⟨h4, h5⟩ | ⟨u, h4, h5, h6, h7, h8⟩
  · exact ⟨fun _ => h4, fun _ => h5⟩
  · refine ⟨fun h => ?_, fun h => ?_⟩
    · unfold least at h; rw [h8] at h; cases h
    · rw [h u h4 h5] at h6; cases h6

inductive Run (n : Nat) (ls : List api_Link) : List Int → Prop where
  | nil : Run n ls []
  | snoc {out : List Int} {v : Int} (h : Run n ls out) (hv : least n ls out = some v) : Run n ls (out ++ [v])

theorem Run.facts {n : Nat} {ls : List api_Link} {out : List Int} (h : Run n ls out) : out.Nodup ∧ (∀ v ∈ out, 0 ≤ v ∧ v < n) ∧ ∀ l ∈ ls, l.Consumer ∈ out → l.Supplier ∈ out := by
  induction h with
  | nil => simp
  | @snoc out v h hv ih =>
    obtain ⟨h1, h2, h3⟩ := ih
    obtain ⟨h4, h5, h6, h7⟩ := least_some hv
    obtain ⟨h8, h9⟩ := free_iff.1 h6
    refine ⟨?_, fun u hu => ?_, fun l hl hc => ?_⟩
    · rw [List.nodup_append]
      refine ⟨h1, by simp, fun a ha b hb => ?_⟩
      simp only [List.mem_singleton] at hb
      subst hb
      exact fun e => h8 (e ▸ ha)
    · rcases List.mem_append.1 hu with hu | hu
      · exact h2 u hu
      · simp only [List.mem_singleton] at hu; subst hu; exact ⟨h4, h5⟩
    · rcases List.mem_append.1 hc with hc | hc
      · exact List.mem_append.2 (.inl (h3 l hl hc))
      · simp only [List.mem_singleton] at hc
        exact List.mem_append.2 (.inl (h9 l hl hc))
theorem Run.length_le {n : Nat} {ls : List api_Link} {out : List Int} (h : Run n ls out) : out.length ≤ n := by
  have := nodup_le h.facts.1 (fun x hx => mem_below.2 (h.facts.2.1 x hx))
  rwa [below_length] at this

def greedy (n : Nat) (ls : List api_Link) : Nat → List Int → List Int
  | 0, out => out
  | k + 1, out => match least n ls out with
    | none => out
    | some v => greedy n ls k (out ++ [v])
def ord (n : Nat) (ls : List api_Link) : List Int := greedy n ls (n + 1) []

theorem Run.greedy {n : Nat} {ls : List api_Link} {out : List Int} (h : Run n ls out) (k : Nat) : Sim.greedy n ls (k + out.length) [] = Sim.greedy n ls k out := by
  induction h generalizing k with
  | nil => rfl
  | @snoc out v h hv ih =>
    have := ih (k + 1)
    rw [show k + 1 + out.length = k + (out ++ [v]).length from by simp; omega] at this
    rw [this, Sim.greedy, hv]
theorem Run.ord {n : Nat} {ls : List api_Link} {out : List Int} (h : Run n ls out) (hn : least n ls out = none) : out = Sim.ord n ls := by
  have h1 := h.length_le
  have h2 := h.greedy (n + 1 - out.length)
  rw [show n + 1 - out.length + out.length = n + 1 from by omega] at h2
  unfold Sim.ord
  rw [h2, show n + 1 - out.length = (n - out.length) + 1 from by omega, Sim.greedy, hn]
theorem greedy_run {n : Nat} {ls : List api_Link} : ∀ (k : Nat) (out : List Int), Run n ls out → n < k + out.length → Run n ls (greedy n ls k out) ∧ least n ls (greedy n ls k out) = none
  | 0, out, h, hk => by have := h.length_le; omega
  | k + 1, out, h, hk => by
    rw [greedy]
    split
    · rename_i hn; exact ⟨h, hn⟩
    · rename_i v hv; exact greedy_run k _ (h.snoc hv) (by simp; omega)
theorem ord_run (n : Nat) (ls : List api_Link) : Run n ls (ord n ls) ∧ least n ls (ord n ls) = none := greedy_run _ _ .nil (by simp)
/-! ### the program's way -/

structure Que (n : Nat) (q : List Int) (P : Int → Prop) : Prop where
  heap : Heap q q.length
  nodup : q.Nodup
  mem : ∀ v, v ∈ q ↔ 0 ≤ v ∧ v < (n : Int) ∧ P v

theorem Que.len {n : Nat} {q : List Int} {P : Int → Prop} (h : Que n q P) : q.length ≤ n := by
  have := nodup_le h.nodup (fun x hx => mem_below.2 ⟨((h.mem x).1 hx).1, ((h.mem x).1 hx).2.1⟩)
  rwa [below_length] at this
theorem Que.congr {n : Nat} {q : List Int} {P Q : Int → Prop} (h : Que n q P) (hpq : ∀ v, 0 ≤ v → v < (n : Int) → (P v ↔ Q v)) : Que n q Q :=
  ⟨h.heap, h.nodup, fun v => by rw [h.mem]; constructor <;> rintro ⟨a, b, c⟩; exact ⟨a, b, (hpq v a b).1 c⟩; exact ⟨a, b, (hpq v a b).2 c⟩⟩
theorem Que.push {n : Nat} {q : List Int} {P : Int → Prop} (h : Que n q P) (hn : n ≤ 128) {x : Int} (h0 : 0 ≤ x) (h1 : x < n) (hx : ¬ P x) : ∃ q', heap_Push.f ⟨q⟩ x = some ⟨q'⟩ ∧ Que n q' (fun v => v = x ∨ P v) := by
  have hl := h.len
  obtain ⟨q', e, hp, hh⟩ := push_ok q x (by omega) h.heap
  refine ⟨q', e, hh, ?_, fun v => ?_⟩
  · rw [hp.nodup_iff, List.nodup_cons]
    exact ⟨fun hm => hx ((h.mem x).1 hm).2.2, h.nodup⟩
  · rw [hp.mem_iff, List.mem_cons, h.mem]
    constructor
    · rintro (rfl | ⟨a, b, c⟩)
      · exact ⟨h0, h1, .inl rfl⟩
      · exact ⟨a, b, .inr c⟩
    · rintro ⟨a, b, rfl | c⟩
      · exact .inl rfl
      · exact .inr ⟨a, b, c⟩

theorem sort_l0 {n : Nat} (hn : n ≤ 128) {adj : List (List Int)} {cnt : List Int} (hc : cnt.length = n) : ∃ q, depgraph_sort.l0 (adj, cnt) FUEL [] 0 = some q ∧ Que n q (fun v => idx cnt v = some 0) := by
  refine loop_c (L := fun k (s : List Int) i => depgraph_sort.l0 (adj, cnt) k s i) n (fun i s => Que n s (fun v => v < (i : Int) ∧ idx cnt v = some 0)) (fun o => ∃ q, o = some q ∧ Que n q (fun v => idx cnt v = some 0)) ?_ ?_ FUEL 0 [] (Nat.zero_le _) (FUEL_pos (by omega)) ⟨fun k h0 h1 => by simp at h1, by simp, fun v => by simp; omega⟩
  · rintro k s i hi hq
    rw [depgraph_sort.l0, if_pos (by show decide ((i : Int) < (cnt.length : Int)) = true; simp; omega), idx_get (xs := cnt) (by omega)]
    simp only [Option.bind_some]
    by_cases e : cnt[i] = 0
    · rw [if_pos (by simp [e])]
      obtain ⟨q', h1, h2⟩ := hq.push hn (x := (i : Int)) (by omega) (by omega) (fun h => by omega)
      rw [h1]
      refine .inl ⟨q', h2.congr (fun v v0 v1 => ?_), by rw [wi_succ (by omega)]; rfl⟩
      constructor
      · rintro (rfl | ⟨h3, h4⟩)
        · exact ⟨by omega, by rw [idx_get (by omega), e]⟩
        · exact ⟨by omega, h4⟩
      · rintro ⟨h3, h4⟩
        by_cases e2 : v = i
        · exact .inl e2
        · exact .inr ⟨by omega, h4⟩
    · rw [if_neg (by simp [e])]
      refine .inl ⟨s, hq.congr (fun v v0 v1 => ?_), by rw [wi_succ (by omega)]; rfl⟩
      constructor
      · rintro ⟨h3, h4⟩; exact ⟨by omega, h4⟩
      · rintro ⟨h3, h4⟩
        by_cases e2 : v = i
        · subst e2; rw [idx_get (by omega)] at h4; injection h4 with h4; exact absurd h4 e
        · exact ⟨by omega, h4⟩
  · rintro k s hq
    rw [depgraph_sort.l0, if_neg (by simp only [decide_eq_true_eq]; omega)]
    exact ⟨s, rfl, hq.congr (fun v v0 v1 => ⟨fun h => h.2, fun h => ⟨v1, h⟩⟩)⟩

theorem sort_l2 {n : Nat} {ls : List api_Link} (g : GoodG n ls) {out : List Int} (hr : Run n ls out) {x : Int} (hx : least n ls out = some x) {cnt q : List Int} (hc : cnt.length = n) (hcv : ∀ v : Int, 0 ≤ v → v < n → idx cnt v = some (rem ls out v : Int)) (hq : Que n q (fun v => v ∉ out ++ [x] ∧ idx cnt v = some 0)) :
    ∃ cnt' q', depgraph_sort.l2 (out ++ [x]) (consOf ls x) FUEL cnt q 0 = some (.nxt (cnt', q', out ++ [x])) ∧ cnt'.length = n ∧ (∀ v : Int, 0 ≤ v → v < n → idx cnt' v = some (rem ls (out ++ [x]) v : Int)) ∧ Que n q' (fun v => v ∉ out ++ [x] ∧ idx cnt' v = some 0) := by
  have hn := g.n128
  have hl := g.len
  have hcl := consOf_le ls x
  obtain ⟨x0, x1, hfree, _⟩ := least_some hx
  obtain ⟨hxo, hxs⟩ := free_iff.1 hfree
  have hmem : ∀ c ∈ consOf ls x, (0 ≤ c ∧ c < n) ∧ c ∉ out ++ [x] := by
    intro c hc
    have hm := mem_consOf.1 hc
    refine ⟨g.c0 _ hm, fun h => ?_⟩
    rcases List.mem_append.1 h with h | h
    · exact hxo (hr.facts.2.2 _ hm h)
    · simp only [List.mem_singleton] at h
      exact hxo (hxs _ hm h)
  refine loop_c (L := fun k (s : List Int × List Int) i => depgraph_sort.l2 (out ++ [x]) (consOf ls x) k s.1 s.2 i) (consOf ls x).length
    (fun i s => s.1.length = n ∧ (∀ v : Int, 0 ≤ v → v < n → idx s.1 v = some ((rem ls (out ++ [x]) v + ((consOf ls x).drop i).count v : Nat) : Int)) ∧ Que n s.2 (fun v => v ∉ out ++ [x] ∧ idx s.1 v = some 0))
    (fun o => ∃ cnt' q', o = some (.nxt (cnt', q', out ++ [x])) ∧ cnt'.length = n ∧ (∀ v : Int, 0 ≤ v → v < n → idx cnt' v = some (rem ls (out ++ [x]) v : Int)) ∧ Que n q' (fun v => v ∉ out ++ [x] ∧ idx cnt' v = some 0)) ?_ ?_ FUEL 0 (cnt, q) (Nat.zero_le _) (FUEL_pos (by omega)) ⟨hc, fun v v0 v1 => by rw [hcv v v0 v1, rem_split hxo]; rfl, hq⟩
  · rintro k ⟨cn, qq⟩ i hi ⟨i1, i2, i3⟩
    simp only at i1 i2 i3 ⊢
    obtain ⟨⟨c0, c1⟩, co⟩ := hmem _ (List.getElem_mem hi)
    rw [depgraph_sort.l2, if_pos (by simp; omega), idx_get hi]
    simp only [Option.bind_some]
    generalize hcc : (consOf ls x)[i] = c at *
    have hdrop : (consOf ls x).drop i = c :: (consOf ls x).drop (i + 1) := by rw [List.drop_eq_getElem_cons hi, hcc]
    have hcur := i2 c c0 c1
    have hrle := rem_le ls (out ++ [x]) c
    have hcle : ((consOf ls x).drop (i + 1)).count c ≤ (consOf ls x).length := Nat.le_trans List.count_le_length (by simp)
    rw [hdrop, List.count_cons_self] at hcur
    rw [hcur]
    simp only [Option.bind_some]
    have e1 : wi (((rem ls (out ++ [x]) c + (((consOf ls x).drop (i + 1)).count c + 1) : Nat) : Int) - 1) = ((rem ls (out ++ [x]) c + ((consOf ls x).drop (i + 1)).count c : Nat) : Int) := by
      rw [wi_id (by omega) (by omega)]; omega
    rw [e1]
    have hnew : ∀ v : Int, 0 ≤ v → v < n → idx (upd cn c ((rem ls (out ++ [x]) c + ((consOf ls x).drop (i + 1)).count c : Nat) : Int)) v = some ((rem ls (out ++ [x]) v + ((consOf ls x).drop (i + 1)).count v : Nat) : Int) := by
      intro v v0 v1
      rw [idx_upd (xs := cn) c0 v0 (by omega)]
      by_cases e : c = v
      · subst e; rw [if_pos rfl]
      · rw [if_neg e, i2 v v0 v1, hdrop, List.count_cons_of_ne e]
    rw [hnew c c0 c1]
    simp only [Option.bind_some]
    have hne : ∀ v, v ≠ c → 0 ≤ v → v < (n : Int) → (idx (upd cn c ((rem ls (out ++ [x]) c + ((consOf ls x).drop (i + 1)).count c : Nat) : Int)) v = some 0 ↔ idx cn v = some 0) := by
      intro v hv v0 v1
      rw [idx_upd (xs := cn) c0 v0 (by omega), if_neg (fun e => hv e.symm)]
    have hpos : idx cn c ≠ some 0 := by
      rw [hcur]; intro h; injection h with h; omega
    by_cases hz : (rem ls (out ++ [x]) c + ((consOf ls x).drop (i + 1)).count c) = 0
    · rw [if_pos (by rw [hz]; rfl)]
      obtain ⟨q', p1, p2⟩ := i3.push hn c0 c1 (fun h => hpos h.2)
      rw [p1]
      refine .inl ⟨(upd cn c ((rem ls (out ++ [x]) c + ((consOf ls x).drop (i + 1)).count c : Nat) : Int), q'), ⟨by rw [upd_length]; exact i1, hnew, p2.congr (fun v v0 v1 => ?_)⟩, by rw [wi_succ (by omega)]; rfl⟩
      by_cases e : v = c
      · subst e
        refine ⟨fun _ => ⟨co, by rw [hnew v c0 c1, hz]; rfl⟩, fun _ => .inl rfl⟩
      · constructor
        · rintro (h | ⟨h1, h2⟩)
          · exact absurd h e
          · exact ⟨h1, (hne v e v0 v1).2 h2⟩
        · rintro ⟨h1, h2⟩; exact .inr ⟨h1, (hne v e v0 v1).1 h2⟩
    · rw [if_neg (by simp only [beq_iff_eq]; omega)]
      refine .inl ⟨(upd cn c ((rem ls (out ++ [x]) c + ((consOf ls x).drop (i + 1)).count c : Nat) : Int), qq), ⟨by rw [upd_length]; exact i1, hnew, i3.congr (fun v v0 v1 => ?_)⟩, by rw [wi_succ (by omega)]; rfl⟩
      by_cases e : v = c
      · subst e
        refine ⟨fun h => absurd h.2 hpos, fun h => ?_⟩
        have h2 := h.2
        rw [hnew v c0 c1] at h2
        injection h2 with h2; omega
      · exact ⟨fun h => ⟨h.1, (hne v e v0 v1).2 h.2⟩, fun h => ⟨h.1, (hne v e v0 v1).1 h.2⟩⟩
  · rintro k ⟨cn, qq⟩ ⟨i1, i2, i3⟩
    simp only at i1 i2 i3 ⊢
    rw [depgraph_sort.l2, if_neg (by simp)]
    refine ⟨cn, qq, rfl, i1, fun v v0 v1 => ?_, i3⟩
    rw [i2 v v0 v1, List.drop_length]; rfl

theorem sort_ok {n : Nat} {ls : List api_Link} (g : GoodG n ls) : depgraph_sort.f (n : Int) ls = some (ord n ls) := by
  have hn := g.n128
  unfold depgraph_sort.f
  obtain ⟨adj, cnt, ha, hal, hcl, hac⟩ := adjacent_ok g
  rw [ha]
  simp only [Option.bind_some]
  obtain ⟨q, h1, h2⟩ := sort_l0 (n := n) hn (adj := adj) (cnt := cnt) hcl
  rw [h1]
  simp only [Option.bind_some]
  have key : depgraph_sort.l1 (adj, cnt) FUEL cnt q [] = some (ord n ls) := by
    refine loop_m (L := fun k (s : List Int × List Int × List Int) => depgraph_sort.l1 (adj, cnt) k s.1 s.2.1 s.2.2) (fun s => Run n ls s.2.2 ∧ s.1.length = n ∧ (∀ v : Int, 0 ≤ v → v < n → idx s.1 v = some (rem ls s.2.2 v : Int)) ∧ Que n s.2.1 (fun v => v ∉ s.2.2 ∧ idx s.1 v = some 0))
      (fun s => n - s.2.2.length) (fun o => o = some (ord n ls)) ?_ FUEL (cnt, q, []) ⟨.nil, hcl, fun v v0 v1 => (hac v v0 v1).2, h2.congr (fun v _ _ => by simp)⟩ (FUEL_pos (by show n - 0 ≤ _; omega))
    rintro k ⟨cn, qq, out⟩ ⟨i1, i2, i3, i4⟩
    simp only at i1 i2 i3 i4 ⊢
    have hlen := i1.length_le
    have hql := i4.len
    have hiff : ∀ v : Int, 0 ≤ v → v < n → ((v ∉ out ∧ idx cn v = some 0) ↔ free ls out v = true) := by
      intro v v0 v1
      rw [free_rem, i3 v v0 v1]
      constructor
      · rintro ⟨h1, h2⟩; injection h2 with h2; exact ⟨h1, by omega⟩
      · rintro ⟨h1, h2⟩; exact ⟨h1, by rw [h2]; rfl⟩
    rw [depgraph_sort.l1]
    by_cases h0 : 0 < qq.length
    · rw [if_pos (by simp; omega)]
      obtain ⟨q', x, p1, p2, p3, p4⟩ := pop_ok qq (by omega) h0 i4.heap
      rw [p1]
      simp only [Option.bind_some, Bool.not_true, Bool.false_eq_true, if_false]
      have hxq : x ∈ qq := p2.mem_iff.1 (List.mem_cons_self ..)
      obtain ⟨x0, x1, hxf⟩ := (i4.mem x).1 hxq
      have hx : least n ls out = some x := least_of x0 x1 ((hiff x x0 x1).1 hxf) (fun u u0 ux => by
        rw [Bool.eq_false_iff]
        intro hf
        have := p4 u ((i4.mem u).2 ⟨u0, by omega, (hiff u u0 (by omega)).2 hf⟩)
        omega)
      rw [app_ok (by simp; omega)]
      simp only [Option.bind_some]
      rw [(hac x x0 x1).1]
      simp only [Option.bind_some]
      have hnd : (x :: q').Nodup := p2.nodup_iff.2 i4.nodup
      rw [List.nodup_cons] at hnd
      obtain ⟨cnt', q2, r1, r2, r3, r4⟩ := sort_l2 g i1 hx i2 i3 (q := q') ⟨p3, hnd.2, fun v => by
        have hv := i4.mem v
        rw [← p2.mem_iff, List.mem_cons] at hv
        constructor
        · intro hm
          obtain ⟨v0, v1, v2, v3⟩ := hv.1 (.inr hm)
          refine ⟨v0, v1, fun h => ?_, v3⟩
          rcases List.mem_append.1 h with h | h
          · exact v2 h
          · simp only [List.mem_singleton] at h; subst h; exact hnd.1 hm
        · rintro ⟨v0, v1, v2, v3⟩
          rw [List.mem_append, List.mem_singleton, not_or] at v2
          exact (hv.2 ⟨v0, v1, v2.1, v3⟩).resolve_left v2.2⟩
      rw [r1]
      have hr' := i1.snoc hx
      have := hr'.length_le
      simp only [List.length_append, List.length_singleton] at this
      exact .inl ⟨(cnt', q2, out ++ [x]), ⟨hr', r2, r3, r4⟩, by simp; omega, rfl⟩
    · rw [if_neg (by simp only [decide_eq_true_eq]; omega)]
      have hq0 : qq = [] := List.eq_nil_of_length_eq_zero (by omega)
      subst hq0
      refine .inr ?_
      have := i1.ord (least_none.2 (fun u u0 u1 => by
        rw [Bool.eq_false_iff]
        intro hf
        have := (i4.mem u).2 ⟨u0, u1, (hiff u u0 u1).2 hf⟩
        simp at this))
      rw [← this]
  rw [key]
  rfl

end Go.Proofs.Ythmjgadmadlpkaa.Sim

namespace Go.Proofs.Ythmjgadmadlpkaa.Sim
open Go
set_option linter.unusedVariables false

inductive Path (ls : List api_Link) : Int → Int → Prop where
  | one {a b : Int} (h : api_Link.mk a b ∈ ls) : Path ls a b
  | more {a b c : Int} (h : api_Link.mk a b ∈ ls) (h' : Path ls b c) : Path ls a c

theorem Path.trans {ls : List api_Link} {a b c : Int} (h : Path ls a b) (h' : Path ls b c) : Path ls a c := by
  induction h with
  | one h => exact .more h h'
  | more h _ ih => exact .more h (ih h')
theorem Path.first {ls : List api_Link} {a b : Int} (h : Path ls a b) : ∃ c, api_Link.mk a c ∈ ls ∧ (c = b ∨ Path ls c b) := by
  cases h with
  | one h => exact ⟨_, h, .inl rfl⟩
  | more h h' => exact ⟨_, h, .inr h'⟩
theorem Path.range {n : Nat} {ls : List api_Link} (g : GoodG n ls) {a b : Int} (h : Path ls a b) : (0 ≤ a ∧ a < n) ∧ (0 ≤ b ∧ b < n) := by
  induction h with
  | one h => exact ⟨g.c0 _ h, g.s0 _ h⟩
  | more h _ ih => exact ⟨g.c0 _ h, ih.2⟩

theorem Run.closed {n : Nat} {ls : List api_Link} {out : List Int} (hr : Run n ls out) {a b : Int} (h : Path ls a b) (ha : a ∈ out) : b ∈ out := by
  induction h with
  | one h => exact hr.facts.2.2 _ h ha
  | more h _ ih => exact ih (hr.facts.2.2 _ h ha)

theorem Run.acyclic {n : Nat} {ls : List api_Link} {out : List Int} (hr : Run n ls out) : ∀ a ∈ out, ¬ Path ls a a := by
  induction hr with
  | nil => simp
  | @snoc out v h hv ih =>
    intro a ha hp
    rcases List.mem_append.1 ha with ha | ha
    · exact ih a ha hp
    · simp only [List.mem_singleton] at ha
      subst ha
      obtain ⟨_, _, hf, _⟩ := least_some hv
      obtain ⟨h1, h2⟩ := free_iff.1 hf
      obtain ⟨c, hc, h3⟩ := hp.first
      have hco := h2 _ hc rfl
      rcases h3 with rfl | h3
      · exact h1 hco
      · exact h1 (h.closed h3 hco)

/-- A walk that never leaves n numbers comes back. -/
theorem walk_back {n : Nat} (w : Nat → Int) (h : ∀ i, 0 ≤ w i ∧ w i < n) : ∃ i j, i < j ∧ j ≤ n ∧ w i = w j := by
  refine Classical.byContradiction fun hno => ?_
  have hnd : ((List.range (n + 1)).map w).Nodup := by
    rw [List.nodup_iff_pairwise_ne, List.pairwise_map]
    refine List.Pairwise.imp_of_mem ?_ List.pairwise_lt_range
    intro i j hi hj hij e
    exact hno ⟨i, j, hij, by have := List.mem_range.1 hj; omega, e⟩
  have := nodup_le hnd (s := below n) (fun x hx => by
    obtain ⟨i, _, rfl⟩ := List.mem_map.1 hx
    exact mem_below.2 (h i))
  rw [below_length, List.length_map, List.length_range] at this
  omega

theorem ord_short {n : Nat} {ls : List api_Link} (g : GoodG n ls) (h : (ord n ls).length < n) : ∃ u : Int, 0 ≤ u ∧ u < n ∧ u ∉ ord n ls := by
  refine Classical.byContradiction fun hno => ?_
  have := nodup_le (below_nodup n) (s := ord n ls) (fun x hx => Classical.byContradiction fun hx' => hno ⟨x, (mem_below.1 hx).1, (mem_below.1 hx).2, hx'⟩)
  rw [below_length] at this
  omega
theorem ord_full {n : Nat} {ls : List api_Link} (h : ¬ (ord n ls).length < n) {v : Int} (h0 : 0 ≤ v) (h1 : v < n) : v ∈ ord n ls := by
  refine Classical.byContradiction fun hv => ?_
  have hr := (ord_run n ls).1.facts
  have := nodup_le (l := v :: ord n ls) (s := below n) (List.nodup_cons.2 ⟨hv, hr.1⟩) (fun x hx => by
    rcases List.mem_cons.1 hx with rfl | hx
    · exact mem_below.2 ⟨h0, h1⟩
    · exact mem_below.2 (hr.2.1 x hx))
  rw [below_length, List.length_cons] at this
  omega

/-- A node outside the order has a supplier outside the order. -/
theorem ord_stuck {n : Nat} {ls : List api_Link} (g : GoodG n ls) {u : Int} (h0 : 0 ≤ u) (h1 : u < n) (hu : u ∉ ord n ls) : ∃ s, api_Link.mk u s ∈ ls ∧ s ∉ ord n ls := by
  have hn := least_none.1 (ord_run n ls).2 u h0 h1
  refine Classical.byContradiction fun hno => ?_
  have : free ls (ord n ls) u = true := free_iff.2 ⟨hu, fun l hl hc => Classical.byContradiction fun hs => hno ⟨l.Supplier, by subst hc; exact hl, hs⟩⟩
  rw [this] at hn; cases hn

theorem ord_cyclic {n : Nat} {ls : List api_Link} (g : GoodG n ls) (h : (ord n ls).length < n) : ∃ i : Int, 0 ≤ i ∧ i < n ∧ Path ls i i := by
  obtain ⟨u, u0, u1, hu⟩ := ord_short g h
  let R := { v : Int // 0 ≤ v ∧ v < n ∧ v ∉ ord n ls }
  have nx : ∀ v : R, ∃ s : R, api_Link.mk v.1 s.1 ∈ ls := fun v => by
    obtain ⟨s, h1, h2⟩ := ord_stuck g v.2.1 v.2.2.1 v.2.2.2
    have := g.s0 _ h1
    exact ⟨⟨s, this.1, this.2, h2⟩, h1⟩
  let f : R → R := fun v => (nx v).choose
  have hf : ∀ v : R, api_Link.mk v.1 (f v).1 ∈ ls := fun v => (nx v).choose_spec
  let w : Nat → R := fun i => Nat.rec ⟨u, u0, u1, hu⟩ (fun _ v => f v) i
  have hw : ∀ i, api_Link.mk (w i).1 (w (i + 1)).1 ∈ ls := fun i => hf (w i)
  obtain ⟨i, j, hij, _, e⟩ := walk_back (n := n) (fun i => (w i).1) (fun i => ⟨(w i).2.1, (w i).2.2.1⟩)
  have hp : ∀ d, Path ls (w i).1 (w (i + d + 1)).1 := by
    intro d
    induction d with
    | zero => exact .one (hw i)
    | succ d ih => exact ih.trans (.one (hw (i + d + 1)))
  have := hp (j - i - 1)
  rw [show i + (j - i - 1) + 1 = j from by omega] at this
  refine ⟨(w i).1, (w i).2.1, (w i).2.2.1, ?_⟩
  rw [← e] at this
  exact this

/-! ### Check, Order -/

def ccode (p : Int) (ls : List api_Link) : Int := if vcode p ls = 0 then (if (ord p.toNat ls).length < p.toNat then 18 else 0) else vcode p ls

theorem ccode_good {n : Nat} {ls : List api_Link} (g : GoodG n ls) : ccode (n : Int) ls = if (ord n ls).length < n then 18 else 0 := by
  unfold ccode; rw [if_pos (good_vcode g)]; rfl

theorem check_ok (p : Int) (ls : List api_Link) (h : ls.length ≤ maxLen) : depgraph_Check.f p ls = some (ccode p ls) := by
  unfold depgraph_Check.f
  rw [validate_ok p ls h]
  simp only [Option.bind_some]
  by_cases hv : vcode p ls = 0
  · obtain ⟨n, rfl, g⟩ := vcode_good hv
    rw [if_neg (by simp [hv]), ccode_good g, sort_ok g]
    simp only [Option.bind_some]
    by_cases hc : (ord n ls).length < n
    · rw [if_pos (by simp; omega), if_pos hc]
    · rw [if_neg (by simp; omega), if_neg hc]
  · rw [if_pos (by simpa using hv)]
    unfold ccode; rw [if_neg hv]

end Go.Proofs.Ythmjgadmadlpkaa.Sim

namespace Go.Proofs.Ythmjgadmadlpkaa.Sim
open Go
set_option linter.unusedVariables false
set_option maxRecDepth 100000

/-- The first number below n with P, or -1. -/
def fst (n : Nat) (P : Int → Bool) : Int := ((below n).find? P).getD (-1)
theorem fst_none {n : Nat} {P : Int → Bool} (h : ∀ u : Int, 0 ≤ u → u < n → P u = false) : fst n P = -1 := by
  unfold fst
  have : (below n).find? P = none := List.find?_eq_none.2 fun x hx => by have := mem_below.1 hx; simp [h x this.1 this.2]
  rw [this]; rfl
theorem fst_some {n : Nat} {P : Int → Bool} {v : Int} (h0 : 0 ≤ v) (h1 : v < n) (h2 : P v = true) (h3 : ∀ u, 0 ≤ u → u < v → P u = false) : fst n P = v := by
  unfold fst
  rcases find_below P n with ⟨h, _⟩ | ⟨u, a, b, c, d, e⟩
  · rw [h v h0 h1] at h2; cases h2
  · rw [e]
    rcases Int.lt_trichotomy u v with x | x | x
    · rw [h3 u a x] at c; cases c
    · rw [x]; rfl
    · rw [d v h0 x] at h2; cases h2
theorem fst_spec {n : Nat} {P : Int → Bool} : (fst n P = -1 ∧ ∀ u : Int, 0 ≤ u → u < n → P u = false) ∨ (0 ≤ fst n P ∧ fst n P < n ∧ P (fst n P) = true ∧ ∀ u : Int, 0 ≤ u → u < fst n P → P u = false) := by
  unfold fst
  rcases find_below P n with ⟨h, e⟩ | ⟨u, a, b, c, d, e⟩
  · left; rw [e]; exact ⟨rfl, h⟩
  · right; rw [e]; exact ⟨a, b, c, d⟩
/-- A loop that looks for the first index with P. -/
theorem find_ok {ρ : Type} {L : Nat → Int → Option (Fl ρ Unit)} (n : Nat) (P : Int → Bool) (v : Int → ρ) (hn : n ≤ 9223372036854775807)
    (hL : ∀ k (i : Nat), i < n → L (k + 1) (i : Int) = if P i = true then some (.out (v i)) else L k ((i + 1 : Nat) : Int)) (hE : ∀ k, L (k + 1) (n : Int) = some (.nxt ())) :
    L FUEL 0 = some (if 0 ≤ fst n P then .out (v (fst n P)) else .nxt ()) := by
  refine loop_c (L := fun k (_ : Unit) i => L k i) n (fun i _ => ∀ u : Int, 0 ≤ u → u < i → P u = false) (fun o => o = some (if 0 ≤ fst n P then .out (v (fst n P)) else .nxt ())) ?_ ?_ FUEL 0 () (Nat.zero_le _) (FUEL_pos (by omega)) (fun u h0 h1 => by omega)
  · intro k s i hi hI
    rw [hL k i hi]
    by_cases hp : P i = true
    · rw [if_pos hp]
      refine .inr ?_
      rw [fst_some (by omega) (by omega) hp hI, if_pos (by omega)]
    · rw [if_neg hp]
      refine .inl ⟨(), fun u h0 h1 => ?_, rfl⟩
      by_cases e : u = i
      · subst e; simpa using hp
      · exact hI u h0 (by omega)
  · intro k s hI
    rw [hE, fst_none hI]; rfl

end Go.Proofs.Ythmjgadmadlpkaa.Sim

namespace Go.Proofs.Ythmjgadmadlpkaa.Sim
open Go
set_option linter.unusedVariables false
set_option maxRecDepth 100000

def RepV {α : Type} (n : Nat) (l : List α) (c : Int → α) : Prop := l.length = n ∧ ∀ i : Int, 0 ≤ i → i < n → idx l i = some (c i)
def fset {α : Type} (f : Int → α) (k : Int) (v : α) : Int → α := fun i => if i = k then v else f i
theorem fset_self {α : Type} (f : Int → α) (k : Int) (v : α) : fset f k v k = v := by simp [fset]
theorem fset_ne {α : Type} (f : Int → α) {k i : Int} (v : α) (h : i ≠ k) : fset f k v i = f i := by simp [fset, h]
theorem RepV.set {α : Type} {n : Nat} {l : List α} {c : Int → α} (h : RepV n l c) {k : Int} (h0 : 0 ≤ k) (v : α) : RepV n (upd l k v) (fset c k v) := by
  refine ⟨by rw [upd_length]; exact h.1, fun i i0 i1 => ?_⟩
  rw [idx_upd_some h0 (h.2 i i0 i1)]
  unfold fset
  by_cases e : k = i
  · subst e; simp
  · simp [e, Ne.symm e]
theorem RepV.rep {α : Type} (n : Nat) (x : α) : RepV n (List.replicate n x) (fun _ => x) := ⟨by simp, fun i h0 h1 => idx_replicate h0 h1⟩
theorem RepV.congr {α : Type} {n : Nat} {l : List α} {c d : Int → α} (h : RepV n l c) (e : ∀ i : Int, 0 ≤ i → i < n → c i = d i) : RepV n l d := ⟨h.1, fun i i0 i1 => by rw [h.2 i i0 i1, e i i0 i1]⟩

/-- What has begun, the slots, when each worker is free, the time. -/
structure Ms where
  b : Int → Bool
  s : Int → api_Slot
  f : Int → Int
  t : Int
def over (m : Ms) (k : Int) : Bool := m.b k && decide ((m.s k).End ≤ m.t)
def rdy (ls : List api_Link) (m : Ms) (d : Int) : Bool := !m.b d && ls.all (fun l => !(l.Consumer == d) || over m l.Supplier)
def nextD (n : Nat) (ls : List api_Link) (m : Ms) : Int := fst n (rdy ls m)
def nextW (w : Nat) (m : Ms) : Int := fst w (fun i => decide (m.f i ≤ m.t))
structure RI (n w : Nat) (ls : List api_Link) (a : resume_scheduler) (m : Ms) : Prop where
  l : a.links = ls
  b : RepV n a.begun m.b
  s : RepV n a.slot m.s
  f : RepV w a.free m.f
  t : a.now = m.t

section
variable {n w : Nat} {ls : List api_Link} {a : resume_scheduler} {m : Ms}

end
end Go.Proofs.Ythmjgadmadlpkaa.Sim

namespace Go.Proofs.Ythmjgadmadlpkaa.Sim
open Go
set_option linter.unusedVariables false
set_option maxRecDepth 100000

def lowest (l : List Int) : Option Int := l.find? (fun m => l.all (fun x => decide (m ≤ x)))
theorem lowest_of {l : List Int} {m : Int} (h : m ∈ l) (h2 : ∀ x ∈ l, m ≤ x) : lowest l = some m := by
  unfold lowest
  rcases hf : l.find? (fun m => l.all (fun x => decide (m ≤ x))) with _ | y
  · have := List.find?_eq_none.1 hf m h
    simp at this
    obtain ⟨x, hx, hlt⟩ := this
    have := h2 x hx; omega
  · have h3 := List.find?_some hf
    have h4 := List.mem_of_find?_eq_some hf
    simp only [List.all_eq_true, decide_eq_true_eq] at h3
    have a := h3 m h
    have b := h2 y h4
    rw [show y = m by omega]
theorem RepV.eq {α : Type} {n : Nat} {l : List α} {c : Int → α} (h : RepV n l c) : l = (below n).map c := by
  apply List.ext_getElem
  · simp [below_length, h.1]
  · intro i h1 h2
    have := h.2 i (by omega) (by have := h.1; omega)
    rw [idx_get h1] at this
    have e : (below n)[i]'(by rw [below_length]; have := h.1; omega) = (i : Int) := by simp [below]
    rw [List.getElem_map, e]
    exact Option.some.inj this

def running (w : Nat) (m : Ms) : List Int := ((below w).map m.f).filter (fun x => !decide (x ≤ m.t))
def place (du : Int → Int) (m : Ms) (d k : Int) : Ms := ⟨fset m.b d true, fset m.s d (api_Slot.mk d k m.t (m.t + du d)), fset m.f k (m.t + du d), m.t⟩
def nxt (n w : Nat) (ls : List api_Link) (du : Int → Int) (z : Ms × List api_Slot) : Option (Ms × List api_Slot) :=
  if 0 ≤ nextD n ls z.1 ∧ 0 ≤ nextW w z.1 then some (place du z.1 (nextD n ls z.1) (nextW w z.1), z.2 ++ [api_Slot.mk (nextD n ls z.1) (nextW w z.1) z.1.t (z.1.t + du (nextD n ls z.1))])
  else match lowest (running w z.1) with
    | none => none
    | some t => some (⟨z.1.b, z.1.s, z.1.f, t⟩, z.2)
def it (n w : Nat) (ls : List api_Link) (du : Int → Int) : Nat → Ms × List api_Slot → Ms × List api_Slot
  | 0, z => z
  | k + 1, z => match nxt n w ls du z with
    | none => z
    | some z' => it n w ls du k z'
end Go.Proofs.Ythmjgadmadlpkaa.Sim

namespace Go.Proofs.Ythmjgadmadlpkaa.Sim
open Go
set_option linter.unusedVariables false
set_option maxRecDepth 100000

theorem it_succ {n w : Nat} {ls : List api_Link} {du : Int → Int} : ∀ (k : Nat) (z z' : Ms × List api_Slot), nxt n w ls du (it n w ls du k z) = some z' → it n w ls du (k + 1) z = z'
  | 0, z, z', h => by simp only [it] at h; rw [it, h]; rfl
  | k + 1, z, z', h => by
    rw [it] at h ⊢
    cases hz : nxt n w ls du z with
    | none => rw [hz] at h; simp only at h; rw [hz] at h; cases h
    | some y => rw [hz] at h; exact it_succ k y z' h

/-- What the program's state tells of the machine's after some steps. -/
structure Go1 (n w : Nat) (ls : List api_Link) (du : Int → Int) (z0 : Ms × List api_Slot) (s : resume_scheduler × List api_Slot) (m : Ms) (j : Nat) : Prop where
  r : RI n w ls s.1 m
  it : it n w ls du j z0 = (m, s.2)
  c : s.2.length + s.1.begun.count false = n
  t : 0 ≤ m.t ∧ m.t ≤ s.2.length * 9007199254740992
  f : ∀ i, 0 ≤ m.f i ∧ m.f i ≤ s.2.length * 9007199254740992

theorem lowest_spec {l : List Int} {m : Int} (h : lowest l = some m) : m ∈ l ∧ ∀ x ∈ l, m ≤ x := by
  unfold lowest at h
  refine ⟨List.mem_of_find?_eq_some h, ?_⟩
  have := List.find?_some h
  simpa using this
end Go.Proofs.Ythmjgadmadlpkaa.Sim

namespace Go.Proofs.Ythmjgadmadlpkaa.Sim
open Go
set_option linter.unusedVariables false
set_option maxRecDepth 100000

theorem fst_lt {n : Nat} {P : Int → Bool} (h : 0 ≤ fst n P) : fst n P < n ∧ P (fst n P) = true ∧ ∀ u : Int, 0 ≤ u → u < fst n P → P u = false := by
  rcases fst_spec (n := n) (P := P) with ⟨e, _⟩ | ⟨_, b, c, d⟩
  · omega
  · exact ⟨b, c, d⟩
theorem fst_neg {n : Nat} {P : Int → Bool} (h : ¬ 0 ≤ fst n P) : ∀ u : Int, 0 ≤ u → u < n → P u = false := by
  rcases fst_spec (n := n) (P := P) with ⟨_, a⟩ | ⟨a, _⟩
  · exact a
  · exact absurd a h
theorem over_iff {m : Ms} {k : Int} : over m k = true ↔ m.b k = true ∧ (m.s k).End ≤ m.t := by unfold over; simp
theorem rdy_iff {ls : List api_Link} {m : Ms} {d : Int} : rdy ls m d = true ↔ m.b d = false ∧ ∀ l ∈ ls, l.Consumer = d → m.b l.Supplier = true ∧ (m.s l.Supplier).End ≤ m.t := by
  unfold rdy
  simp only [Bool.and_eq_true, Bool.not_eq_true', List.all_eq_true, Bool.or_eq_true, beq_eq_false_iff_ne, over_iff]
  constructor
  · rintro ⟨h1, h2⟩
    exact ⟨h1, fun l hl hc => (h2 l hl).resolve_left (fun hn => hn hc)⟩
  · rintro ⟨h1, h2⟩
    refine ⟨h1, fun l hl => ?_⟩
    by_cases hc : l.Consumer = d
    · exact .inr (h2 l hl hc)
    · exact .inl hc
theorem rdy_not {ls : List api_Link} {m : Ms} {d : Int} (h : rdy ls m d = false) (hb : m.b d = false) : ∃ l ∈ ls, l.Consumer = d ∧ (m.b l.Supplier = true → m.t < (m.s l.Supplier).End) := by
  refine Classical.byContradiction fun hno => ?_
  have : rdy ls m d = true := rdy_iff.2 ⟨hb, fun l hl hc => by
    refine Classical.byContradiction fun hn => hno ⟨l, hl, hc, fun hbs => ?_⟩
    refine Classical.byContradiction fun hlt => hn ⟨hbs, by omega⟩⟩
  rw [this] at h; cases h
theorem mem_running {w : Nat} {m : Ms} {x : Int} : x ∈ running w m ↔ ∃ k : Int, 0 ≤ k ∧ k < w ∧ m.f k = x ∧ m.t < x := by
  unfold running
  simp only [List.mem_filter, List.mem_map, mem_below]
  constructor
  · rintro ⟨⟨k, ⟨h0, h1⟩, rfl⟩, h⟩; exact ⟨k, h0, h1, rfl, by simpa using h⟩
  · rintro ⟨k, h0, h1, rfl, h⟩; exact ⟨⟨k, ⟨h0, h1⟩, rfl⟩, by simpa using h⟩
theorem lowest_none {l : List Int} (h : lowest l = none) : l = [] := by
  cases l with
  | nil => rfl
  | cons a t =>
    exfalso
    have key : ∀ (l : List Int), l ≠ [] → ∃ m ∈ l, ∀ x ∈ l, m ≤ x := by
      intro l
      induction l with
      | nil => intro h; exact absurd rfl h
      | cons a t ih =>
        intro _
        by_cases ht : t = []
        · subst ht; exact ⟨a, by simp, by simp⟩
        · obtain ⟨m, h1, h2⟩ := ih ht
          by_cases ha : a ≤ m
          · refine ⟨a, by simp, fun x hx => ?_⟩
            rcases List.mem_cons.1 hx with e | e
            · omega
            · have := h2 x e; omega
          · refine ⟨m, List.mem_cons_of_mem _ h1, fun x hx => ?_⟩
            rcases List.mem_cons.1 hx with e | e
            · omega
            · exact h2 x e
    obtain ⟨m, h1, h2⟩ := key (a :: t) (by simp)
    rw [lowest_of h1 h2] at h; cases h

/-- One step: a device begins, or time moves. -/
theorem nxt_cases {n w : Nat} {ls : List api_Link} {du : Int → Int} {m : Ms} {out : List api_Slot} {z' : Ms × List api_Slot} (h : nxt n w ls du (m, out) = some z') :
    (∃ d k : Int, d = nextD n ls m ∧ k = nextW w m ∧ (0 ≤ d ∧ d < n) ∧ (0 ≤ k ∧ k < w) ∧ rdy ls m d = true ∧ m.f k ≤ m.t ∧ z' = (place du m d k, out ++ [api_Slot.mk d k m.t (m.t + du d)])) ∨
    (∃ t, ¬ (0 ≤ nextD n ls m ∧ 0 ≤ nextW w m) ∧ t ∈ running w m ∧ (∀ x ∈ running w m, t ≤ x) ∧ m.t < t ∧ z' = (⟨m.b, m.s, m.f, t⟩, out)) := by
  unfold nxt at h
  split at h
  · rename_i hp
    obtain ⟨h1, h2⟩ := hp
    simp only at h1 h2 h
    obtain ⟨a1, a2, a3⟩ := fst_lt h1
    obtain ⟨b1, b2, b3⟩ := fst_lt h2
    exact .inl ⟨_, _, rfl, rfl, ⟨h1, a1⟩, ⟨h2, b1⟩, a2, of_decide_eq_true b2, (Option.some.inj h).symm⟩
  · rename_i hp
    simp only at h hp
    cases hl : lowest (running w m) with
    | none => rw [hl] at h; cases h
    | some t =>
      rw [hl] at h
      obtain ⟨a, b⟩ := lowest_spec hl
      obtain ⟨k, _, _, _, ht⟩ := mem_running.1 a
      exact .inr ⟨t, hp, a, b, ht, (Option.some.inj h).symm⟩
theorem nxt_none {n w : Nat} {ls : List api_Link} {du : Int → Int} {m : Ms} {out : List api_Slot} (h : nxt n w ls du (m, out) = none) : ¬ (0 ≤ nextD n ls m ∧ 0 ≤ nextW w m) ∧ running w m = [] := by
  unfold nxt at h
  split at h
  · cases h
  · rename_i hp
    refine ⟨hp, ?_⟩
    simp only at h
    cases hl : lowest (running w m) with
    | none => exact lowest_none hl
    | some t => rw [hl] at h; cases h

def z00 : Ms × List api_Slot := (⟨fun _ => false, fun _ => api_Slot.mk 0 0 0 0, fun _ => 0, 0⟩, [])

structure Inv (n w : Nat) (ls : List api_Link) (du : Int → Int) (m : Ms) (out : List api_Slot) : Prop where
  t0 : 0 ≤ m.t
  f0 : ∀ k, 0 ≤ m.f k
  dev : ∀ x ∈ out, 0 ≤ x.Device ∧ x.Device < n
  wrk : ∀ x ∈ out, 0 ≤ x.Worker ∧ x.Worker < w
  len : ∀ x ∈ out, x.End = x.Start + du x.Device
  st : ∀ x ∈ out, 0 ≤ x.Start ∧ x.Start ≤ m.t
  sl : ∀ x ∈ out, m.b x.Device = true ∧ m.s x.Device = x
  bs : ∀ d, m.b d = true → m.s d ∈ out ∧ (m.s d).Device = d
  nd : (out.map api_Slot.Device).Nodup
  fle : ∀ x ∈ out, x.End ≤ m.f x.Worker
  fex : ∀ k, m.f k = 0 ∨ ∃ x ∈ out, x.Worker = k ∧ x.End = m.f k
  ord : out.Pairwise (fun x y => x.Start ≤ y.Start ∧ (x.Worker = y.Worker → x.End ≤ y.Start))
  lnk : ∀ l ∈ ls, m.b l.Consumer = true → m.b l.Supplier = true ∧ (m.s l.Supplier).End ≤ (m.s l.Consumer).Start
  org : ∀ x ∈ out, x.Start = 0 ∨ ∃ y ∈ out, y.End = x.Start
  torg : m.t = 0 ∨ ∃ y ∈ out, y.End = m.t

section
variable {n w : Nat} {ls : List api_Link} {du : Int → Int}

theorem Inv.start : Inv n w ls du z00.1 z00.2 := by
  unfold z00
  refine ⟨Int.le_refl _, fun _ => Int.le_refl _, ?_, ?_, ?_, ?_, ?_, ?_, List.nodup_nil, ?_, fun _ => .inl rfl, List.Pairwise.nil, ?_, ?_, .inl rfl⟩ <;> simp

theorem Inv.step (hdu : ∀ i, 0 ≤ du i) {m : Ms} {out : List api_Slot} (I : Inv n w ls du m out) {z' : Ms × List api_Slot} (h : nxt n w ls du (m, out) = some z') : Inv n w ls du z'.1 z'.2 := by
  rcases nxt_cases h with ⟨d, k, _, _, hd, hk, hr, hf, rfl⟩ | ⟨t, _, ht, hlo, hlt, rfl⟩
  · obtain ⟨hb, hsup⟩ := rdy_iff.1 hr
    have hd0 := hdu d
    have hnew : ∀ x ∈ out, x.Device ≠ d := fun x hx e => by
      have := (I.sl x hx).1
      rw [e, hb] at this; cases this
    have ht0 := I.t0
    have hmem : ∀ {P : api_Slot → Prop}, (∀ x ∈ out, P x) → P (api_Slot.mk d k m.t (m.t + du d)) → ∀ x ∈ out ++ [api_Slot.mk d k m.t (m.t + du d)], P x := fun h1 h2 x hx => by
      rcases List.mem_append.1 hx with h | h
      · exact h1 x h
      · simp only [List.mem_singleton] at h; subst h; exact h2
    have hin : ∀ {x : api_Slot}, x ∈ out → x ∈ out ++ [api_Slot.mk d k m.t (m.t + du d)] := fun h => List.mem_append.2 (.inl h)
    have hlast : api_Slot.mk d k m.t (m.t + du d) ∈ out ++ [api_Slot.mk d k m.t (m.t + du d)] := List.mem_append.2 (.inr (by simp))
    unfold place
    constructor
    · exact ht0
    · intro j; simp only [fset]; split
      · omega
      · exact I.f0 j
    · exact hmem I.dev hd
    · exact hmem I.wrk hk
    · exact hmem I.len rfl
    · exact hmem I.st ⟨ht0, Int.le_refl _⟩
    · refine hmem (fun x hx => ?_) ?_
      · have := I.sl x hx
        simp only [fset, if_neg (hnew x hx)]; exact this
      · simp [fset]
    · intro j hj
      simp only [fset] at hj ⊢
      by_cases e : j = d
      · subst e; simp
      · rw [if_neg e] at hj ⊢
        have := I.bs j hj
        exact ⟨hin this.1, this.2⟩
    · simp only [List.map_append, List.map_cons, List.map_nil]
      rw [List.nodup_append]
      refine ⟨I.nd, by simp, fun a ha b hb' => ?_⟩
      simp only [List.mem_singleton] at hb'
      obtain ⟨x, hx, rfl⟩ := List.mem_map.1 ha
      rw [hb']; exact hnew x hx
    · refine hmem (fun x hx => ?_) (by simp [fset])
      simp only [fset]
      split
      · rename_i e
        have := I.fle x hx
        rw [e] at this; omega
      · exact I.fle x hx
    · intro j
      simp only [fset]
      by_cases e : j = k
      · rw [if_pos e]; exact .inr ⟨_, hlast, e.symm, rfl⟩
      · rw [if_neg e]
        rcases I.fex j with h | ⟨x, hx, h1, h2⟩
        · exact .inl h
        · exact .inr ⟨x, hin hx, h1, h2⟩
    · rw [List.pairwise_append]
      refine ⟨I.ord, List.pairwise_singleton _ _, fun x hx y hy => ?_⟩
      simp only [List.mem_singleton] at hy
      subst hy
      refine ⟨(I.st x hx).2, fun e => ?_⟩
      have := I.fle x hx
      simp only at e ⊢
      rw [e] at this; omega
    · intro l hl hc
      simp only [fset] at hc ⊢
      by_cases e : l.Consumer = d
      · obtain ⟨h1, h2⟩ := hsup l hl e
        have hne : l.Supplier ≠ d := fun e' => by rw [e', hb] at h1; cases h1
        rw [if_neg hne, if_neg hne, if_pos e]
        exact ⟨h1, h2⟩
      · rw [if_neg e] at hc ⊢
        obtain ⟨h1, h2⟩ := I.lnk l hl hc
        have hne : l.Supplier ≠ d := fun e' => by rw [e', hb] at h1; cases h1
        rw [if_neg hne, if_neg hne]
        exact ⟨h1, h2⟩
    · refine hmem (fun x hx => ?_) ?_
      · rcases I.org x hx with h | ⟨y, hy, h⟩
        · exact .inl h
        · exact .inr ⟨y, hin hy, h⟩
      · rcases I.torg with h | ⟨y, hy, h⟩
        · exact .inl h
        · exact .inr ⟨y, hin hy, h⟩
    · rcases I.torg with h | ⟨y, hy, h⟩
      · exact .inl h
      · exact .inr ⟨y, hin hy, h⟩
  · obtain ⟨k, _, _, hfk, _⟩ := mem_running.1 ht
    have ht0 := I.t0
    refine ⟨by simp only; omega, I.f0, I.dev, I.wrk, I.len, fun x hx => ⟨(I.st x hx).1, by have := (I.st x hx).2; simp only; omega⟩, I.sl, I.bs, I.nd, I.fle, I.fex, I.ord, I.lnk, I.org, ?_⟩
    rcases I.fex k with h | ⟨x, hx, _, h2⟩
    · omega
    · exact .inr ⟨x, hx, by rw [h2, hfk]⟩

theorem it_ind {P : Ms → List api_Slot → Prop} (hs : ∀ m out z', P m out → nxt n w ls du (m, out) = some z' → P z'.1 z'.2) : ∀ (k : Nat) (z : Ms × List api_Slot), P z.1 z.2 → P (it n w ls du k z).1 (it n w ls du k z).2
  | 0, z, h => h
  | k + 1, z, h => by
    rw [it]
    cases hz : nxt n w ls du z with
    | none => exact h
    | some z' => exact it_ind hs k z' (hs z.1 z.2 z' h hz)
theorem Inv.it (hdu : ∀ i, 0 ≤ du i) (k : Nat) : Inv n w ls du (it n w ls du k z00).1 (it n w ls du k z00).2 := it_ind (fun m out z' I h => I.step hdu h) k z00 Inv.start

theorem Inv.over_run {m : Ms} {out : List api_Slot} (I : Inv n w ls du m out) {x : api_Slot} (hx : x ∈ out) (ht : m.t < x.End) : x.End ∈ running w m := by
  refine mem_running.2 ⟨x.Worker, (I.wrk x hx).1, (I.wrk x hx).2, ?_, ht⟩
  rcases I.fex x.Worker with h | ⟨y, hy, h1, h2⟩
  · have := I.fle x hx; have := I.t0; omega
  · rw [← h2]
    refine Classical.byContradiction fun hne => ?_
    have hle := I.fle x hx
    have hne' : x ≠ y := fun e => hne (by rw [e])
    have := I.ord
    rcases List.getElem_of_mem hx with ⟨i, hi, ei⟩
    rcases List.getElem_of_mem hy with ⟨j, hj, ej⟩
    have hp := List.pairwise_iff_getElem.1 this
    rcases Nat.lt_trichotomy i j with h | h | h
    · have := (hp i j hi hj h).2 (by rw [ei, ej, h1])
      rw [ei, ej] at this
      have := (I.st y hy).2
      omega
    · subst h; rw [ei] at ej; exact hne' ej
    · have h3 := (hp j i hj hi h).2 (by rw [ei, ej, h1])
      rw [ei, ej] at h3
      have := (I.st x hx).2
      have := (I.st y hy).1
      rw [h2] at h3
      have hf0 := I.fle x hx
      have : du x.Device ≥ 0 ∨ du x.Device < 0 := by omega
      have := I.len x hx
      omega
theorem Inv.out_le {m : Ms} {out : List api_Slot} (I : Inv n w ls du m out) : out.length ≤ n := by
  have := nodup_le I.nd (s := below n) (fun x hx => by
    obtain ⟨y, hy, rfl⟩ := List.mem_map.1 hx
    exact mem_below.2 (I.dev y hy))
  rw [below_length] at this
  simpa using this
end

/-- The end: everything has begun and ended. -/
structure Done (n w : Nat) (ls : List api_Link) (du : Int → Int) (m : Ms) (out : List api_Slot) : Prop where
  inv : Inv n w ls du m out
  all : ∀ d : Int, 0 ≤ d → d < n → m.b d = true
  ends : ∀ x ∈ out, x.End ≤ m.t
  len : out.length = n

theorem not_full_link {n : Nat} {ls : List api_Link} (hfull : ¬ (ord n ls).length < n) {B : Int → Bool} (h : ∀ d : Int, 0 ≤ d → d < n → B d = false → ∃ l ∈ ls, l.Consumer = d ∧ B l.Supplier = false) : ∀ d : Int, 0 ≤ d → d < n → B d = true := by
  have hr := (ord_run n ls).1
  have key : ∀ out, Run n ls out → ∀ v ∈ out, B v = true := by
    intro out ho
    induction ho with
    | nil => simp
    | @snoc out v ho hv ih =>
      intro u hu
      rcases List.mem_append.1 hu with hu | hu
      · exact ih u hu
      · simp only [List.mem_singleton] at hu; subst hu
        obtain ⟨h0, h1, h2, _⟩ := least_some hv
        obtain ⟨_, h3⟩ := free_iff.1 h2
        cases hB : B u with
        | true => rfl
        | false =>
          obtain ⟨l, hl, hc, hs⟩ := h u h0 h1 hB
          have := ih _ (h3 l hl hc)
          rw [hs] at this; cases this
  exact fun d h0 h1 => key _ hr d (ord_full hfull h0 h1)

theorem done_of {n w : Nat} {ls : List api_Link} {du : Int → Int} (hw : 0 < w) (hfull : ¬ (ord n ls).length < n) (g : GoodG n ls) {m : Ms} {out : List api_Slot} (I : Inv n w ls du m out) (h : nxt n w ls du (m, out) = none) : Done n w ls du m out := by
  obtain ⟨h1, h2⟩ := nxt_none h
  have hends : ∀ x ∈ out, x.End ≤ m.t := fun x hx => by
    refine Classical.byContradiction fun hn => ?_
    have := I.over_run hx (by omega)
    rw [h2] at this; cases this
  have hwk : 0 ≤ nextW w m := by
    refine Classical.byContradiction fun hn => ?_
    have := fst_neg hn 0 (by omega) (by omega)
    simp only [decide_eq_false_iff_not] at this
    have : m.f 0 ∈ running w m := mem_running.2 ⟨0, by omega, by omega, rfl, by omega⟩
    rw [h2] at this; cases this
  have hnr := fst_neg (fun hd => h1 ⟨hd, hwk⟩)
  have hall : ∀ d : Int, 0 ≤ d → d < n → m.b d = true := not_full_link hfull fun d d0 d1 hb => by
    obtain ⟨l, hl, hc, hs⟩ := rdy_not (hnr d d0 d1) hb
    refine ⟨l, hl, hc, ?_⟩
    cases hB : m.b l.Supplier with
    | false => rfl
    | true =>
      have := hs hB
      have := hends _ (I.bs _ hB).1
      omega
  refine ⟨I, hall, hends, Nat.le_antisymm I.out_le ?_⟩
  have := nodup_le (below_nodup n) (s := out.map api_Slot.Device) (fun x hx => by
    obtain ⟨x0, x1⟩ := mem_below.1 hx
    obtain ⟨a, b⟩ := I.bs x (hall x x0 x1)
    exact List.mem_map.2 ⟨_, a, b⟩)
  rw [below_length] at this
  simpa using this
end Go.Proofs.Ythmjgadmadlpkaa.Sim

namespace Go.Proofs.Ythmjgadmadlpkaa.Sim
open Go
set_option linter.unusedVariables false
set_option maxRecDepth 100000

def big (x : Int) : Bool := decide (9007199254740992 < x)
def scode (p : Int) (ls : List api_Link) (dl : List Int) (w : Int) : Int :=
  if ccode p ls ≠ 0 then ccode p ls else if (dl.length : Int) = p ∧ dl.any big = false ∧ 1 ≤ w ∧ w ≤ 16 then 0 else 1

theorem check31_ok (p : Int) (ls : List api_Link) (dl : List Int) (w : Int) (h : ls.length ≤ maxLen) (hd : dl.length ≤ maxLen) : resume_check.f p ls dl w = some (scode p ls dl w) := by
  unfold resume_check.f
  rw [check_ok p ls h, Option.bind_some]
  by_cases h1 : ccode p ls = 0
  · have e : scode p ls dl w = if (dl.length : Int) = p ∧ dl.any big = false ∧ 1 ≤ w ∧ w ≤ 16 then 0 else 1 := by unfold scode; rw [if_neg (by simp [h1])]
    rw [e, if_neg (by simp [h1])]
    by_cases h2 : (dl.length : Int) = p
    · rw [if_neg (by simp [h2]), search_ok (L := resume_check.l0 dl) dl big 1 hd (fun k i => by rw [resume_check.l0]; rfl)]
      cases h3 : dl.any big
      · simp only [Bool.false_eq_true, if_false, Option.bind_some, Fl.go]
        by_cases h4 : 1 ≤ w ∧ w ≤ 16
        · rw [if_neg (by simp; omega), if_pos ⟨h2, trivial, h4⟩]
        · rw [if_pos (by simp; omega), if_neg (fun c => h4 c.2.2)]
      · simp only [if_true, Option.bind_some, Fl.go]
        rw [if_neg (fun c => by cases c.2.1)]
    · rw [if_pos (by simpa using h2), if_neg (fun c => h2 c.1)]
  · have e : scode p ls dl w = ccode p ls := by unfold scode; rw [if_pos h1]
    rw [e, if_pos (by simpa using h1)]

/-- What the checks of a schedule let pass. -/
structure GoodS (n w : Nat) (ls : List api_Link) (dl : List Int) : Prop where
  g : GoodG n ls
  full : ¬ (ord n ls).length < n
  dn : dl.length = n
  d0 : ∀ x ∈ dl, 0 ≤ x ∧ x ≤ 9007199254740992
  w0 : 0 < w
  w1 : w ≤ 16
theorem scode_good {p : Int} {ls : List api_Link} {dl : List Int} {w : Int} (h : scode p ls dl w = 0) (hd : ∀ x ∈ dl, 0 ≤ x) : ∃ n v : Nat, p = n ∧ w = v ∧ GoodS n v ls dl := by
  unfold scode at h
  by_cases h1 : ccode p ls = 0
  · rw [if_neg (by simp [h1])] at h
    by_cases h2 : (dl.length : Int) = p ∧ dl.any big = false ∧ 1 ≤ w ∧ w ≤ 16
    · obtain ⟨a, b, c, d⟩ := h2
      have hv : vcode p ls = 0 := by
        unfold ccode at h1
        split at h1
        · assumption
        · exact h1
      obtain ⟨n, rfl, g⟩ := vcode_good hv
      rw [ccode_good g] at h1
      refine ⟨n, w.toNat, rfl, by omega, g, ?_, by omega, fun x hx => ⟨hd x hx, ?_⟩, by omega, by omega⟩
      · intro hlt; rw [if_pos hlt] at h1; cases h1
      · have := List.any_eq_false.1 b x hx
        simpa [big] using this
    · rw [if_neg h2] at h; cases h
  · rw [if_pos h1] at h; exact absurd h h1
theorem good_scode {n w : Nat} {ls : List api_Link} {dl : List Int} (S : GoodS n w ls dl) : scode n ls dl w = 0 := by
  have h1 : ccode (n : Int) ls = 0 := by rw [ccode_good S.g, if_neg S.full]
  unfold scode
  rw [if_neg (by simp [h1]), if_pos]
  refine ⟨by rw [S.dn], ?_, by have := S.w0; omega, by have := S.w1; omega⟩
  rw [List.any_eq_false]
  intro x hx
  simp [big]
  exact (S.d0 x hx).2

def duf (dl : List Int) (i : Int) : Int := (idx dl i).getD 0
theorem duf_rep {dl : List Int} {n : Nat} (h : dl.length = n) : RepV n dl (duf dl) := ⟨h, fun i h0 h1 => by
  obtain ⟨x, hx, _⟩ := idx_of (xs := dl) h0 (by omega)
  unfold duf; rw [hx]; rfl⟩
theorem duf_range {dl : List Int} (h : ∀ x ∈ dl, 0 ≤ x ∧ x ≤ 9007199254740992) (i : Int) : 0 ≤ duf dl i ∧ duf dl i ≤ 9007199254740992 := by
  unfold duf
  by_cases hi : 0 ≤ i ∧ i < dl.length
  · obtain ⟨x, hx, hm⟩ := idx_of (xs := dl) hi.1 hi.2
    rw [hx]; exact h x hm
  · have : idx dl i = none := by
      cases hx : idx dl i with
      | none => rfl
      | some x => exact absurd ⟨idx_lo hx, idx_hi hx⟩ hi
    rw [this]; simp

theorem Go1.zero {n w : Nat} {ls : List api_Link} {du : Int → Int} : Go1 n w ls du z00 (resume_scheduler.mk ls (List.replicate n (api_Slot.mk 0 0 0 0)) (List.replicate n false) (List.replicate w 0) 0, []) z00.1 0 := by
  refine ⟨⟨rfl, RepV.rep n false, RepV.rep n _, RepV.rep w 0, rfl⟩, rfl, ?_, ?_, ?_⟩
  · simp
  · simp [z00]
  · intro i; simp [z00]

/-- The schedule: where the machine's steps end. -/
structure Sched (n w : Nat) (ls : List api_Link) (du : Int → Int) (m : Ms) (out : List api_Slot) : Prop where
  st : ∃ j, it n w ls du j z00 = (m, out)
  no : nxt n w ls du (m, out) = none
  dn : Done n w ls du m out
theorem Sched.mk' {n w : Nat} {ls : List api_Link} {dl : List Int} (S : GoodS n w ls dl) {m : Ms} {out : List api_Slot} {j : Nat} (h : it n w ls (duf dl) j z00 = (m, out)) (hn : nxt n w ls (duf dl) (m, out) = none) : Sched n w ls (duf dl) m out := by
  have I := Inv.it (n := n) (w := w) (ls := ls) (du := duf dl) (fun i => (duf_range S.d0 i).1) j
  rw [h] at I
  exact ⟨⟨j, h⟩, hn, done_of S.w0 S.full S.g I hn⟩
theorem u64_range {x : Int} (h : (Lit.int .u64 x).wf = true) : 0 ≤ x ∧ x < 18446744073709551616 := by
  simp [Lit.wf, IntKind.min, IntKind.max, IntKind.signed, IntKind.bits] at h; omega

/-! ### the durations of the statements -/

theorem durations_ok (n : Nat) (hn : n ≤ 128) (p1 : List Int) (h : ∀ x ∈ p1, 0 ≤ x) (hl : p1.length ≤ maxLen) : ∃ dl, law31_durations.f n p1 = some dl ∧ dl.length = n ∧ ∀ x ∈ dl, 0 ≤ x ∧ x ≤ 11 := by
  rw [maxLen_eq] at hl
  unfold law31_durations.f
  rw [mk_ok (by omega), Option.bind_some]
  have key : ∃ dl, law31_durations.l0 n p1 FUEL (List.replicate n 0) 0 = some dl ∧ dl.length = n ∧ ∀ x ∈ dl, 0 ≤ x ∧ x ≤ 11 := by
    refine loop_c (L := fun k (s : List Int) i => law31_durations.l0 n p1 k s i) n (fun i s => s.length = n ∧ ∀ x ∈ s, 0 ≤ x ∧ x ≤ 11) (fun o => ∃ dl, o = some dl ∧ dl.length = n ∧ ∀ x ∈ dl, 0 ≤ x ∧ x ≤ 11) ?_ ?_ FUEL 0 _ (Nat.zero_le _) (FUEL_pos (by omega)) ⟨by simp, fun x hx => by rw [(List.mem_replicate.1 hx).2]; omega⟩
    · rintro k s i hi ⟨h1, h2⟩
      have hset : ∀ (l : List Int) (v : Int), (∀ x ∈ l, 0 ≤ x ∧ x ≤ 11) → (0 ≤ v ∧ v ≤ 11) → ∀ x ∈ upd l (i : Int) v, 0 ≤ x ∧ x ≤ 11 := fun l v h hv x hx => by
        unfold upd at hx
        rcases List.mem_or_eq_of_mem_set hx with h' | h'
        · exact h x h'
        · rw [h']; exact hv
      have h3 : wu (Int.tmod (i : Int) 3) = (i : Int) % 3 := by rw [Int.tmod_eq_emod_of_nonneg (by omega), wu_id (by omega) (by omega)]
      have hA := hset s ((i : Int) % 3) h2 (by omega)
      have hAl : (upd s (i : Int) ((i : Int) % 3)).length = n := by rw [upd_length]; exact h1
      rw [law31_durations.l0, if_pos (by simp; omega), idx_get (by omega), Option.bind_some, h3]
      by_cases hp : i < p1.length
      · rw [if_pos (by simp; omega), idx_get hp, Option.bind_some, idx_get (by omega), Option.bind_some, Option.bind_some]
        refine .inl ⟨upd (upd s (i : Int) ((i : Int) % 3)) (i : Int) (Int.tmod p1[i] 12), ⟨by rw [upd_length]; exact hAl, ?_⟩, by rw [wi_succ (by omega)]⟩
        have := h _ (List.getElem_mem hp)
        refine hset _ _ hA ?_
        rw [Int.tmod_eq_emod_of_nonneg this]; omega
      · rw [if_neg (by simp; omega), Option.bind_some]
        exact .inl ⟨_, ⟨hAl, hA⟩, by rw [wi_succ (by omega)]⟩
    · rintro k s ⟨h1, h2⟩
      rw [law31_durations.l0, if_neg (by simp)]
      exact ⟨s, rfl, h1, h2⟩
  obtain ⟨dl, e, h1⟩ := key
  rw [e]
  exact ⟨dl, rfl, h1⟩

/-- The graphs and durations of the statements. -/
theorem acyc_full {n : Nat} {ls : List api_Link} (g : Gr n ls true) : ¬ (ord n ls).length < n := fun hlt => by
  obtain ⟨r, hr⟩ := g.down rfl
  obtain ⟨i, _, _, hp⟩ := ord_cyclic g.good hlt
  have : ∀ {a b : Int}, Path ls a b → r b < r a := fun h => by
    induction h with
    | one h => exact hr _ h
    | more h _ ih => have := hr _ h; simp only at this; omega
  have := this hp
  omega
theorem goodS_of {n : Nat} {ls : List api_Link} (g : Gr n ls true) {dl : List Int} (h1 : dl.length = n) (h2 : ∀ x ∈ dl, 0 ≤ x ∧ x ≤ 11) {w : Nat} (w0 : 0 < w) (w1 : w ≤ 16) : GoodS n w ls dl :=
  ⟨g.good, acyc_full g, h1, fun x hx => by have := h2 x hx; omega, w0, w1⟩
theorem mod1_ok (x : Int) (k : Nat) (h0 : 0 < k) (h1 : k ≤ 15) : ∃ w : Nat, help_Mod.f x k = some ((w : Int) - 1) ∧ wi (1 + ((w : Int) - 1)) = w ∧ 0 < w ∧ w ≤ k := by
  obtain ⟨r, hr, a, b⟩ := mod_ok (x := x) (n := k) (by omega) (by omega)
  refine ⟨(r + 1).toNat, ?_, ?_, by omega, by omega⟩
  · rw [hr]; congr 1; omega
  · rw [wi_id (by omega) (by omega)]; omega
end Go.Proofs.Ythmjgadmadlpkaa.Sim

namespace Go.Proofs.Ythmjgadmadlpkaa.Sim
open Go
set_option linter.unusedVariables false
set_option maxRecDepth 100000

/-! ### sums -/

/-- The latest end of slots. -/
structure Mks (out : List api_Slot) (T : Int) : Prop where
  t0 : 0 ≤ T
  le : ∀ x ∈ out, x.End ≤ T
  ex : T = 0 ∨ ∃ x ∈ out, x.End = T
theorem Mks.uniq {out : List api_Slot} {T U : Int} (a : Mks out T) (b : Mks out U) : T = U := by
  have h1 := a.t0
  have h2 := b.t0
  have h3 : T ≤ U := by
    rcases a.ex with h | ⟨x, hx, h⟩
    · omega
    · have := b.le x hx; omega
  have h4 : U ≤ T := by
    rcases b.ex with h | ⟨x, hx, h⟩
    · omega
    · have := a.le x hx; omega
  omega
theorem Mks.nil : Mks [] 0 := ⟨Int.le_refl _, by simp, .inl rfl⟩
theorem Mks.snoc {out : List api_Slot} {T U : Int} (a : Mks out T) {x : api_Slot} (h : U = max T x.End) : Mks (out ++ [x]) U := by
  have := a.t0
  refine ⟨by omega, fun y hy => ?_, ?_⟩
  · rcases List.mem_append.1 hy with h' | h'
    · have := a.le y h'; omega
    · simp only [List.mem_singleton] at h'; subst h'; omega
  · by_cases c : T ≤ x.End
    · exact .inr ⟨x, by simp, by omega⟩
    · rcases a.ex with h' | ⟨y, hy, h'⟩
      · exact .inl (by omega)
      · exact .inr ⟨y, by simp [hy], by omega⟩
/-- The longest chains that end at the devices. -/
structure CPath (n : Nat) (ls : List api_Link) (du h : Int → Int) : Prop where
  lo : ∀ d : Int, 0 ≤ d → d < n → du d ≤ h d
  ge : ∀ l ∈ ls, h l.Supplier + du l.Consumer ≤ h l.Consumer
  ex : ∀ d : Int, 0 ≤ d → d < n → h d = du d ∨ ∃ l ∈ ls, l.Consumer = d ∧ h d = h l.Supplier + du d
structure CMax (n : Nat) (h : Int → Int) (c : Int) : Prop where
  c0 : 0 ≤ c
  le : ∀ d : Int, 0 ≤ d → d < n → h d ≤ c
  ex : c = 0 ∨ ∃ d : Int, 0 ≤ d ∧ d < n ∧ h d = c
/-- Along the order. -/
theorem ord_ind {n : Nat} {ls : List api_Link} (hfull : ¬ (ord n ls).length < n) {P : Int → Prop} (h : ∀ d : Int, 0 ≤ d → d < n → (∀ l ∈ ls, l.Consumer = d → P l.Supplier) → P d) : ∀ d : Int, 0 ≤ d → d < n → P d := by
  have key : ∀ out, Run n ls out → ∀ v ∈ out, P v := by
    intro out ho
    induction ho with
    | nil => simp
    | @snoc out v ho hv ih =>
      intro u hu
      rcases List.mem_append.1 hu with hu | hu
      · exact ih u hu
      · simp only [List.mem_singleton] at hu; subst hu
        obtain ⟨h0, h1, h2, _⟩ := least_some hv
        obtain ⟨_, h3⟩ := free_iff.1 h2
        exact h u h0 h1 fun l hl hc => ih _ (h3 l hl hc)
  exact fun d h0 h1 => key _ (ord_run n ls).1 d (ord_full hfull h0 h1)
theorem CPath.le {n : Nat} {ls : List api_Link} {du h h' : Int → Int} (g : GoodG n ls) (hfull : ¬ (ord n ls).length < n) (a : CPath n ls du h) (b : CPath n ls du h') : ∀ d : Int, 0 ≤ d → d < n → h d ≤ h' d :=
  ord_ind hfull fun d d0 d1 ih => by
    rcases a.ex d d0 d1 with e | ⟨l, hl, hc, e⟩
    · have := b.lo d d0 d1; omega
    · have h1 := ih l hl hc
      have h2 := b.ge l hl
      rw [hc] at h2
      omega
theorem CPath.uniq {n : Nat} {ls : List api_Link} {du h h' : Int → Int} (g : GoodG n ls) (hfull : ¬ (ord n ls).length < n) (a : CPath n ls du h) (b : CPath n ls du h') {c c' : Int} (ca : CMax n h c) (cb : CMax n h' c') : c = c' := by
  have h1 := a.le g hfull b
  have h2 := b.le g hfull a
  have h3 := ca.c0
  have h4 := cb.c0
  have : c ≤ c' := by
    rcases ca.ex with e | ⟨d, d0, d1, e⟩
    · omega
    · have := h1 d d0 d1; have := cb.le d d0 d1; omega
  have : c' ≤ c := by
    rcases cb.ex with e | ⟨d, d0, d1, e⟩
    · omega
    · have := h2 d d0 d1; have := ca.le d d0 d1; omega
  omega

structure CPush (n : Nat) (ls : List api_Link) (du : Int → Int) (done : List Int) (E : Int → Int) (most : Int) : Prop where
  lo : ∀ d ∈ done, du d ≤ E d
  ex : ∀ d ∈ done, E d = du d ∨ ∃ l ∈ ls, l.Consumer = d ∧ E d = E l.Supplier + du d
  ge : ∀ l ∈ ls, l.Supplier ∈ done → (l.Consumer ∈ done → E l.Supplier + du l.Consumer ≤ E l.Consumer) ∧ (l.Consumer ∉ done → E l.Supplier ≤ E l.Consumer)
  nd : ∀ d, d ∉ done → E d = 0 ∨ ∃ l ∈ ls, l.Consumer = d ∧ l.Supplier ∈ done ∧ E d = E l.Supplier
  bd : ∀ d, 0 ≤ E d ∧ E d ≤ done.length * 9007199254740992
  m0 : 0 ≤ most
  ml : ∀ d ∈ done, E d ≤ most
  mx : most = 0 ∨ ∃ d ∈ done, E d = most

/-- What one pass over the links has pushed. -/
structure Pass (n : Nat) (ls : List api_Link) (done : List Int) (E : Int → Int) (x ex : Int) (i : Nat) (F : Int → Int) : Prop where
  at_ : F x = ex
  up : ∀ d, d ≠ x → E d ≤ F d
  in_ : ∀ d ∈ done, F d = E d
  lk : ∀ l ∈ ls.take i, l.Supplier = x → ex ≤ F l.Consumer
  or_ : ∀ d, d ≠ x → F d = E d ∨ ((∃ l ∈ ls, l.Supplier = x ∧ l.Consumer = d) ∧ F d = ex)

theorem CPush.step {n : Nat} {ls : List api_Link} {du : Int → Int} (hdu : ∀ i, 0 ≤ du i ∧ du i ≤ 9007199254740992) {done : List Int} (hr : Run n ls done) {x : Int} (hx : least n ls done = some x) {E F : Int → Int} {most : Int} (P : CPush n ls du done E most) (Q : Pass n ls done E x (E x + du x) ls.length F) : CPush n ls du (done ++ [x]) F (max most (E x + du x)) := by
  obtain ⟨x0, x1, x2, _⟩ := least_some hx
  obtain ⟨x3, x4⟩ := free_iff.1 x2
  have hdx := hdu x
  have hEx := P.bd x
  have hlen : ((done ++ [x]).length : Int) = done.length + 1 := by simp
  have hfull : ∀ l ∈ ls, l.Supplier = x → E x + du x ≤ F l.Consumer := fun l hl hs => Q.lk l (by rw [List.take_length]; exact hl) hs
  have hin : ∀ d, d ∈ done ++ [x] ↔ d ∈ done ∨ d = x := fun d => by simp
  have hsup : ∀ l ∈ ls, l.Consumer ∈ done → l.Supplier ∈ done := hr.facts.2.2
  refine ⟨?_, ?_, ?_, ?_, ?_, by have := P.m0; omega, ?_, ?_⟩
  · intro d hd
    rcases (hin d).1 hd with h | h
    · rw [Q.in_ d h]; exact P.lo d h
    · rw [h, Q.at_]; omega
  · intro d hd
    rcases (hin d).1 hd with h | h
    · rw [Q.in_ d h]
      rcases P.ex d h with e | ⟨l, hl, hc, e⟩
      · exact .inl e
      · exact .inr ⟨l, hl, hc, by rw [Q.in_ _ (hsup l hl (hc ▸ h))]; exact e⟩
    · rw [h, Q.at_]
      rcases P.nd x x3 with e | ⟨l, hl, hc, hs, e⟩
      · exact .inl (by omega)
      · exact .inr ⟨l, hl, hc, by rw [Q.in_ _ hs, e]⟩
  · intro l hl hs
    rcases (hin _).1 hs with h | h
    · rw [Q.in_ _ h]
      obtain ⟨g1, g2⟩ := P.ge l hl h
      refine ⟨fun hc => ?_, fun hc => ?_⟩
      · rcases (hin _).1 hc with h' | h'
        · rw [Q.in_ _ h']; exact g1 h'
        · rw [h', Q.at_]
          have := g2 (fun h'' => x3 (h' ▸ h''))
          rw [h'] at this; omega
      · have hc1 : l.Consumer ∉ done := fun h' => hc ((hin _).2 (.inl h'))
        have hc2 : l.Consumer ≠ x := fun h' => hc ((hin _).2 (.inr h'))
        have := g2 hc1
        have := Q.up _ hc2
        omega
    · have h1 := hfull l hl h
      rw [h, Q.at_]
      refine ⟨fun hc => ?_, fun _ => h1⟩
      rcases (hin _).1 hc with h' | h'
      · exact absurd (h ▸ hsup l hl h') x3
      · exact absurd (h ▸ x4 l hl h') x3
  · intro d hd
    have hd1 : d ∉ done := fun h' => hd ((hin _).2 (.inl h'))
    have hd2 : d ≠ x := fun h' => hd ((hin _).2 (.inr h'))
    rcases Q.or_ d hd2 with e | ⟨⟨l, hl, hs, hc⟩, e⟩
    · rcases P.nd d hd1 with h | ⟨l, hl, hc, hs, h⟩
      · exact .inl (by rw [e, h])
      · exact .inr ⟨l, hl, hc, (hin _).2 (.inl hs), by rw [e, Q.in_ _ hs, h]⟩
    · exact .inr ⟨l, hl, hc, (hin _).2 (.inr hs), by rw [hs, Q.at_, e]⟩
  · intro d
    rw [hlen]
    by_cases h : d = x
    · rw [h, Q.at_]; omega
    · have := P.bd d
      rcases Q.or_ d h with e | ⟨_, e⟩ <;> rw [e] <;> omega
  · intro d hd
    rcases (hin d).1 hd with h | h
    · rw [Q.in_ d h]; have := P.ml d h; omega
    · rw [h, Q.at_]; omega
  · have := P.m0
    by_cases c : most ≤ E x + du x
    · exact .inr ⟨x, (hin x).2 (.inr rfl), by rw [Q.at_]; omega⟩
    · rcases P.mx with h | ⟨d, hd, h⟩
      · omega
      · exact .inr ⟨d, (hin d).2 (.inl hd), by rw [Q.in_ d hd, h]; omega⟩

theorem CPush.fin {n : Nat} {ls : List api_Link} {du : Int → Int} (g : GoodG n ls) (hfull : ¬ (ord n ls).length < n) {E : Int → Int} {most : Int} (P : CPush n ls du (ord n ls) E most) : CPath n ls du E ∧ CMax n E most := by
  have hin : ∀ d : Int, 0 ≤ d → d < n → d ∈ ord n ls := fun d h0 h1 => ord_full hfull h0 h1
  refine ⟨⟨fun d h0 h1 => P.lo d (hin d h0 h1), fun l hl => ?_, fun d h0 h1 => P.ex d (hin d h0 h1)⟩, ⟨P.m0, fun d h0 h1 => P.ml d (hin d h0 h1), ?_⟩⟩
  · have hc := g.c0 l hl
    have hs := g.s0 l hl
    exact (P.ge l hl (hin _ hs.1 hs.2)).1 (hin _ hc.1 hc.2)
  · rcases P.mx with h | ⟨d, hd, h⟩
    · exact .inl h
    · have := (ord_run n ls).1.facts.2.1 d hd
      exact .inr ⟨d, this.1, this.2, h⟩

/-! ### the schedule's ends and the longest chain -/

theorem awake31_ok : law31_awake.f = some true := by kernel_rfl
end Go.Proofs.Ythmjgadmadlpkaa.Sim

namespace Go.Proofs.Ythmjgadmadlpkaa.Sim
open Go
set_option linter.unusedVariables false
set_option maxRecDepth 100000

def okS (n : Nat) (du : Int → Int) (w : Int) (x : api_Slot) : Prop := 0 ≤ x.Device ∧ x.Device < n ∧ 0 ≤ x.Worker ∧ x.Worker < w ∧ x.Start ≤ x.End ∧ wu (x.End - x.Start) = du x.Device
def Conf (a b : api_Slot) : Prop := a.Worker = b.Worker ∧ a.Start < b.End ∧ b.Start < a.End
theorem Conf.symm {a b : api_Slot} (h : Conf a b) : Conf b a := ⟨h.1.symm, h.2.2, h.2.1⟩
structure VS (n : Nat) (du : Int → Int) (w : Int) (slots : List api_Slot) : Prop where
  len : slots.length = n
  ok : ∀ x ∈ slots, okS n du w x
  nd : (slots.map api_Slot.Device).Nodup
def VC (slots : List api_Slot) : Prop := slots.Pairwise (fun a b => ¬ Conf a b)
def VL (ls : List api_Link) (slots : List api_Slot) : Prop := ∀ l ∈ ls, ∀ x ∈ slots, ∀ y ∈ slots, x.Device = l.Consumer → y.Device = l.Supplier → ¬ x.Start < y.End

/-- What the seen devices are. -/
theorem seen_step {n : Nat} {slots : List api_Slot} {i : Nat} (hi : i < slots.length) {s : List Bool} (h : RepV n s (fun d => decide (d ∈ (slots.take i).map api_Slot.Device))) (h0 : 0 ≤ slots[i].Device) : RepV n (upd s slots[i].Device true) (fun d => decide (d ∈ (slots.take (i + 1)).map api_Slot.Device)) :=
  (h.set h0 true).congr fun d d0 d1 => by
    unfold fset
    dsimp only
    rw [List.take_succ_eq_append_getElem hi, List.map_append]
    by_cases c : d = slots[i].Device
    · rw [if_pos c]; simp [c]
    · rw [if_neg c]
      have : (d ∈ (slots.take i).map api_Slot.Device ++ List.map api_Slot.Device [slots[i]]) ↔ d ∈ (slots.take i).map api_Slot.Device := by
        rw [List.mem_append]; simp [c]
      simp only [this]
theorem nodup_snoc_iff {α : Type} {l : List α} {x : α} : (l ++ [x]).Nodup ↔ l.Nodup ∧ x ∉ l := by
  rw [List.nodup_append]
  constructor
  · rintro ⟨h1, _, h3⟩; exact ⟨h1, fun hm => h3 _ hm _ (by simp) rfl⟩
  · rintro ⟨h1, h2⟩
    refine ⟨h1, by simp, fun a ha b hb => ?_⟩
    simp only [List.mem_singleton] at hb; subst hb
    exact fun e => h2 (e ▸ ha)

theorem validSlots_ok {n : Nat} (hn : n ≤ 128) {dl : List Int} (hd : dl.length = n) (w : Int) (slots : List api_Slot) : ∃ b, resume_validSlots.f dl w slots = some b ∧ (b = true ↔ VS n (duf dl) w slots) := by
  unfold resume_validSlots.f
  by_cases hl : slots.length = n
  · rw [if_neg (by simp [hl, hd]), hd, mk_ok (by omega), Option.bind_some]
    have key : ∃ o, resume_validSlots.l0 dl w slots FUEL (List.replicate n false) 0 = some o ∧ ((o = .out false ∧ ¬ VS n (duf dl) w slots) ∨ (o = .nxt () ∧ VS n (duf dl) w slots)) := by
      refine loop_c (L := fun k (s : List Bool) i => resume_validSlots.l0 dl w slots k s i) slots.length (fun i s => RepV n s (fun d => decide (d ∈ (slots.take i).map api_Slot.Device)) ∧ (∀ x ∈ slots.take i, okS n (duf dl) w x) ∧ ((slots.take i).map api_Slot.Device).Nodup)
        (fun o => ∃ o', o = some o' ∧ ((o' = .out false ∧ ¬ VS n (duf dl) w slots) ∨ (o' = .nxt () ∧ VS n (duf dl) w slots))) ?_ ?_ FUEL 0 _ (Nat.zero_le _) (FUEL_pos (by omega)) ⟨(RepV.rep n false).congr fun d _ _ => by simp, by simp, by simp⟩
      · rintro k s i hi ⟨h1, h2, h3⟩
        have hm := List.getElem_mem hi
        rw [resume_validSlots.l0, if_pos (by simp; omega), idx_get hi, Option.bind_some, hd]
        by_cases c1 : (((decide (slots[i].Device < 0) || decide ((n : Int) ≤ slots[i].Device)) || decide (slots[i].Worker < 0)) || decide (w ≤ slots[i].Worker)) = true
        · rw [if_pos c1, Option.bind_some, if_pos rfl]
          refine .inr ⟨_, rfl, .inl ⟨rfl, fun V => ?_⟩⟩
          have := V.ok _ hm
          unfold okS at this
          simp at c1; omega
        · rw [if_neg c1]
          simp at c1
          obtain ⟨⟨⟨c2, c3⟩, c4⟩, c5⟩ := c1
          rw [h1.2 _ c2 c3, Option.bind_some, Option.bind_some]
          by_cases c6 : slots[i].Device ∈ (slots.take i).map api_Slot.Device
          · rw [if_pos (by simpa using c6)]
            refine .inr ⟨_, rfl, .inl ⟨rfl, fun V => ?_⟩⟩
            have := V.nd
            have h4 : ((slots.take (i + 1)).map api_Slot.Device).Nodup := List.Sublist.nodup (List.Sublist.map _ (List.take_sublist _ _)) this
            rw [List.take_succ_eq_append_getElem hi, List.map_append] at h4
            exact (nodup_snoc_iff.1 h4).2 c6
          · rw [if_neg (by simpa using c6), Option.bind_some]
            by_cases c7 : slots[i].End < slots[i].Start
            · rw [if_pos (by simpa using c7), Option.bind_some, if_pos rfl]
              refine .inr ⟨_, rfl, .inl ⟨rfl, fun V => ?_⟩⟩
              have := V.ok _ hm
              unfold okS at this; omega
            · rw [if_neg (by simpa using c7), (duf_rep hd).2 _ c2 c3, Option.bind_some, Option.bind_some]
              by_cases c8 : wu (slots[i].End - slots[i].Start) = duf dl slots[i].Device
              · rw [if_neg (by simpa using c8), wi_succ (by omega)]
                refine .inl ⟨_, ⟨seen_step hi h1 c2, fun x hx => ?_, ?_⟩, rfl⟩
                · rcases (mem_take_succ hi).1 hx with h | h
                  · exact h2 x h
                  · subst h; exact ⟨c2, c3, c4, c5, by omega, c8⟩
                · rw [List.take_succ_eq_append_getElem hi, List.map_append]
                  exact nodup_snoc_iff.2 ⟨h3, c6⟩
              · rw [if_pos (by simpa using c8)]
                refine .inr ⟨_, rfl, .inl ⟨rfl, fun V => c8 (V.ok _ hm).2.2.2.2.2⟩⟩
      · rintro k s ⟨h1, h2, h3⟩
        rw [resume_validSlots.l0, if_neg (by simp)]
        rw [List.take_length] at h2 h3
        exact ⟨_, rfl, .inr ⟨rfl, hl, h2, h3⟩⟩
    obtain ⟨o, e, h⟩ := key
    rw [e, Option.bind_some]
    rcases h with ⟨rfl, h⟩ | ⟨rfl, h⟩
    · exact ⟨false, rfl, by simp [h]⟩
    · exact ⟨true, rfl, by simp [h]⟩
  · rw [if_pos (by simp [hd]; omega)]
    exact ⟨false, rfl, by simp; exact fun V => hl V.len⟩

/-- What Verify answers. -/
structure VR (n : Nat) (ls : List api_Link) (du : Int → Int) (w : Int) (slots : List api_Slot) (r : Int) : Prop where
  a : ¬ VS n du w slots → r = 1
  b : VS n du w slots → ¬ VC slots → r = 17
  c : VS n du w slots → VC slots → ¬ VL ls slots → r = 9
  d : VS n du w slots → VC slots → VL ls slots → r = 0
theorem VR.uniq {n : Nat} {ls : List api_Link} {du : Int → Int} {w : Int} {slots : List api_Slot} {r q : Int} (h : VR n ls du w slots r) (h' : VR n ls du w slots q) : r = q := by
  by_cases a : VS n du w slots
  · by_cases b : VC slots
    · by_cases c : VL ls slots
      · rw [h.d a b c, h'.d a b c]
      · rw [h.c a b c, h'.c a b c]
    · rw [h.b a b, h'.b a b]
  · rw [h.a a, h'.a a]

theorem pairwise_snoc {α : Type} {R : α → α → Prop} {l : List α} {x : α} : (l ++ [x]).Pairwise R ↔ l.Pairwise R ∧ ∀ a ∈ l, R a x := by
  rw [List.pairwise_append]
  constructor
  · rintro ⟨h1, _, h3⟩; exact ⟨h1, fun a ha => h3 a ha x (by simp)⟩
  · rintro ⟨h1, h2⟩; exact ⟨h1, List.pairwise_singleton _ _, fun a ha b hb => by simp only [List.mem_singleton] at hb; subst hb; exact h2 a ha⟩
theorem VC.take {slots : List api_Slot} (h : VC slots) (i : Nat) : VC (slots.take i) := List.Pairwise.sublist (List.take_sublist _ _) h

theorem verify_l1 {slots : List api_Slot} {i : Nat} (hi : i < slots.length) (hlen : slots.length ≤ 128) (bl : List api_Slot) :
    ((∀ b ∈ slots.take i, ¬ Conf slots[i] b) ∧ resume_Verify.l1 bl slots[i] (slots.take i) FUEL 0 = some (.nxt (upd bl slots[i].Device slots[i]))) ∨ ((¬ ∀ b ∈ slots.take i, ¬ Conf slots[i] b) ∧ resume_Verify.l1 bl slots[i] (slots.take i) FUEL 0 = some (.out (.out 17))) := by
  have hl : (slots.take i).length = i := by simp; omega
  refine loop_c (L := fun k (_ : Unit) j => resume_Verify.l1 bl slots[i] (slots.take i) k j) i (fun j _ => ∀ b ∈ (slots.take i).take j, ¬ Conf slots[i] b)
    (fun o => ((∀ b ∈ slots.take i, ¬ Conf slots[i] b) ∧ o = some (.nxt (upd bl slots[i].Device slots[i]))) ∨ ((¬ ∀ b ∈ slots.take i, ¬ Conf slots[i] b) ∧ o = some (.out (.out 17)))) ?_ ?_ FUEL 0 () (Nat.zero_le _) (FUEL_pos (by omega)) (by simp)
  · intro k _ j hj hI
    have hj' : j < (slots.take i).length := by omega
    rw [resume_Verify.l1, if_pos (by simp; omega), idx_get hj', Option.bind_some]
    by_cases c : Conf slots[i] (slots.take i)[j]
    · rw [if_pos (by simp only [Bool.and_eq_true, beq_iff_eq, decide_eq_true_eq]; exact ⟨⟨c.1, c.2.1⟩, c.2.2⟩)]
      exact .inr (.inr ⟨fun h => h _ (List.getElem_mem hj') c, rfl⟩)
    · rw [if_neg (by simp only [Bool.and_eq_true, beq_iff_eq, decide_eq_true_eq]; exact fun h => c ⟨h.1.1, h.1.2, h.2⟩), wi_succ (by omega)]
      refine .inl ⟨(), fun b hb => ?_, rfl⟩
      rcases (mem_take_succ hj').1 hb with h | h
      · exact hI b h
      · rw [h]; exact c
  · intro k _ hI
    rw [resume_Verify.l1, if_neg (by simp; omega)]
    rw [List.take_of_length_le (by omega)] at hI
    exact .inl ⟨hI, rfl⟩

theorem verify_good {n w : Nat} {ls : List api_Link} {dl : List Int} (S : GoodS n w ls dl) (slots : List api_Slot) : ∃ r, resume_Verify.f n ls dl w slots = some r ∧ VR n ls (duf dl) w slots r := by
  have g := S.g
  have hn := g.n128
  have hll : ls.length ≤ maxLen := by have := g.len; rw [maxLen_eq]; omega
  unfold resume_Verify.f
  rw [check31_ok _ _ _ _ hll (by rw [S.dn, maxLen_eq]; omega), good_scode S, Option.bind_some, if_neg (by simp)]
  obtain ⟨b, e1, hb⟩ := validSlots_ok hn S.dn w slots
  rw [e1, Option.bind_some]
  cases b with
  | false =>
    have hv : ¬ VS n (duf dl) w slots := fun h => by have := hb.2 h; cases this
    exact ⟨1, rfl, fun _ => rfl, fun h => absurd h hv, fun h => absurd h hv, fun h => absurd h hv⟩
  | true =>
    have V := hb.1 rfl
    rw [if_neg (by simp), mk_ok (by omega), Option.bind_some]
    have hlen := V.len
    have key : (VC slots ∧ ∃ bl F, resume_Verify.l0 slots FUEL (List.replicate n (api_Slot.mk 0 0 0 0)) 0 = some (.nxt bl) ∧ RepV n bl F ∧ ∀ x ∈ slots, F x.Device = x) ∨ (¬ VC slots ∧ resume_Verify.l0 slots FUEL (List.replicate n (api_Slot.mk 0 0 0 0)) 0 = some (.out 17)) := by
      refine loop_c (L := fun k (s : List api_Slot) i => resume_Verify.l0 slots k s i) slots.length (fun i s => VC (slots.take i) ∧ ∃ F, RepV n s F ∧ ∀ x ∈ slots.take i, F x.Device = x)
        (fun o => (VC slots ∧ ∃ bl F, o = some (.nxt bl) ∧ RepV n bl F ∧ ∀ x ∈ slots, F x.Device = x) ∨ (¬ VC slots ∧ o = some (.out 17))) ?_ ?_ FUEL 0 _ (Nat.zero_le _) (FUEL_pos (by omega)) ⟨by simp [VC], _, RepV.rep n _, by simp⟩
      · rintro k s i hi ⟨h1, F, h2, h3⟩
        have hm := List.getElem_mem hi
        have ho := V.ok _ hm
        rw [resume_Verify.l0, if_pos (by simp; omega), idx_get hi, Option.bind_some, h2.2 _ ho.1 ho.2.1, Option.bind_some, slc_front (by omega), Option.bind_some]
        have hvc : VC (slots.take (i + 1)) ↔ VC (slots.take i) ∧ ∀ a ∈ slots.take i, ¬ Conf a slots[i] := by
          unfold VC; rw [List.take_succ_eq_append_getElem hi]; exact pairwise_snoc
        rcases verify_l1 hi (by omega) s with ⟨c, e⟩ | ⟨c, e⟩
        · rw [e, Option.bind_some, Fl.go, wi_succ (by omega)]
          refine .inl ⟨_, ⟨hvc.2 ⟨h1, fun a ha hc => c a ha hc.symm⟩, _, h2.set ho.1 slots[i], fun x hx => ?_⟩, rfl⟩
          rcases (mem_take_succ hi).1 hx with h | h
          · have hne : x.Device ≠ slots[i].Device := fun he => by
              have h4 : ((slots.take (i + 1)).map api_Slot.Device).Nodup := List.Sublist.nodup (List.Sublist.map _ (List.take_sublist _ _)) V.nd
              rw [List.take_succ_eq_append_getElem hi, List.map_append] at h4
              exact (nodup_snoc_iff.1 h4).2 (List.mem_map.2 ⟨x, h, he⟩)
            rw [fset_ne _ _ hne]; exact h3 x h
          · rw [h, fset_self]
        · rw [e, Option.bind_some, Fl.go]
          refine .inr (.inr ⟨fun h => c fun b hb hc => ?_, rfl⟩)
          exact (hvc.1 (h.take _)).2 b hb hc.symm
      · rintro k s ⟨h1, F, h2, h3⟩
        rw [resume_Verify.l0, if_neg (by simp)]
        rw [List.take_length] at h1 h3
        exact .inl ⟨h1, s, F, rfl, h2, h3⟩
    rcases key with ⟨C, bl, F, e, h1, h2⟩ | ⟨C, e⟩
    · rw [e, Option.bind_some, Fl.go]
      have hdev : ∀ d : Int, 0 ≤ d → d < n → ∃ x ∈ slots, x.Device = d := fun d d0 d1 => by
        refine Classical.byContradiction fun hno => ?_
        have := nodup_le (l := d :: slots.map api_Slot.Device) (s := below n) (by
          rw [List.nodup_cons]
          exact ⟨fun h => by obtain ⟨x, hx, e⟩ := List.mem_map.1 h; exact hno ⟨x, hx, e⟩, V.nd⟩) (fun x hx => by
          rcases List.mem_cons.1 hx with e | e
          · subst e; exact mem_below.2 ⟨d0, d1⟩
          · obtain ⟨y, hy, rfl⟩ := List.mem_map.1 e
            have := V.ok y hy
            exact mem_below.2 ⟨this.1, this.2.1⟩)
        rw [below_length, List.length_cons, List.length_map] at this
        omega
      have key2 : (VL ls slots ∧ resume_Verify.l2 ls bl FUEL 0 = some (.nxt ())) ∨ (¬ VL ls slots ∧ resume_Verify.l2 ls bl FUEL 0 = some (.out 9)) := by
        refine loop_c (L := fun k (_ : Unit) i => resume_Verify.l2 ls bl k i) ls.length (fun i _ => ∀ l ∈ ls.take i, ¬ (F l.Consumer).Start < (F l.Supplier).End) (fun o => (VL ls slots ∧ o = some (.nxt ())) ∨ (¬ VL ls slots ∧ o = some (.out 9))) ?_ ?_ FUEL 0 () (Nat.zero_le _) (FUEL_pos (by rw [maxLen_eq] at hll; omega)) (by simp)
        · intro k _ i hi hI
          have hm := List.getElem_mem hi
          have hc := g.c0 _ hm
          have hs := g.s0 _ hm
          rw [resume_Verify.l2, if_pos (by simp; omega), idx_get hi, Option.bind_some, h1.2 _ hc.1 hc.2, Option.bind_some, h1.2 _ hs.1 hs.2, Option.bind_some]
          by_cases c : (F ls[i].Consumer).Start < (F ls[i].Supplier).End
          · rw [if_pos (by simpa using c)]
            obtain ⟨x, hx, ex⟩ := hdev _ hc.1 hc.2
            obtain ⟨y, hy, ey⟩ := hdev _ hs.1 hs.2
            refine .inr (.inr ⟨fun h => h _ hm x hx y hy ex ey ?_, rfl⟩)
            rw [← ex, ← ey, h2 x hx, h2 y hy] at c
            exact c
          · rw [if_neg (by simpa using c), wi_succ (by have := g.len; omega)]
            refine .inl ⟨(), fun l hl => ?_, rfl⟩
            rcases (mem_take_succ hi).1 hl with h | h
            · exact hI l h
            · rw [h]; exact c
        · intro k _ hI
          rw [resume_Verify.l2, if_neg (by simp)]
          rw [List.take_length] at hI
          refine .inl ⟨fun l hl x hx y hy ex ey => ?_, rfl⟩
          have := hI l hl
          rw [← ex, ← ey, h2 x hx, h2 y hy] at this
          exact this
      rcases key2 with ⟨L, e2⟩ | ⟨L, e2⟩
      · rw [e2]; exact ⟨0, rfl, fun h => absurd V h, fun _ h => absurd C h, fun _ _ h => absurd L h, fun _ _ _ => rfl⟩
      · rw [e2]; exact ⟨9, rfl, fun h => absurd V h, fun _ h => absurd C h, fun _ _ _ => rfl, fun _ _ h => absurd h L⟩
    · rw [e]; exact ⟨17, rfl, fun h => absurd V h, fun _ _ => rfl, fun _ h => absurd h C, fun _ h => absurd h C⟩
theorem verify_bad {p : Int} {ls : List api_Link} {dl : List Int} {w : Int} {slots : List api_Slot} (h : ls.length ≤ maxLen) (hd : dl.length ≤ maxLen) (hs : scode p ls dl w ≠ 0) : resume_Verify.f p ls dl w slots = some (scode p ls dl w) := by
  unfold resume_Verify.f
  rw [check31_ok _ _ _ _ h hd, Option.bind_some, if_pos (by simpa using hs)]

end Go.Proofs.Ythmjgadmadlpkaa.Sim

namespace Go.Proofs.Ythmjgadmadlpkaa.Sim
open Go
set_option linter.unusedVariables false
set_option maxRecDepth 100000

theorem busy_len {n w : Nat} {ls : List api_Link} {du : Int → Int} {m : Ms} {out : List api_Slot} (I : Inv n w ls du m out) (hb : ¬ 0 ≤ nextW w m) : w ≤ out.length := by
  have h1 := fst_neg hb
  have h2 := nodup_le (below_nodup w) (s := out.map api_Slot.Worker) (fun k hk => by
    obtain ⟨k0, k1⟩ := mem_below.1 hk
    have h3 := h1 k k0 k1
    simp only [decide_eq_false_iff_not] at h3
    have := I.t0
    rcases I.fex k with h | ⟨x, hx, hw, he⟩
    · omega
    · exact List.mem_map.2 ⟨x, hx, hw⟩)
  rw [below_length, List.length_map] at h2
  exact h2
theorem unbegun_len {n w : Nat} {ls : List api_Link} {du : Int → Int} {m : Ms} {out : List api_Slot} (I : Inv n w ls du m out) {d : Int} (d0 : 0 ≤ d) (d1 : d < n) (hd : m.b d = false) : out.length < n := by
  have h := nodup_le (l := d :: out.map api_Slot.Device) (s := below n) (by
    rw [List.nodup_cons]
    refine ⟨fun h => ?_, I.nd⟩
    obtain ⟨x, hx, e⟩ := List.mem_map.1 h
    have := (I.sl x hx).1
    rw [e, hd] at this; cases this) (fun x hx => by
    rcases List.mem_cons.1 hx with e | e
    · subst e; exact mem_below.2 ⟨d0, d1⟩
    · obtain ⟨y, hy, rfl⟩ := List.mem_map.1 e
      exact mem_below.2 (I.dev y hy))
  rw [below_length, List.length_cons, List.length_map] at h
  omega

structure Early (n : Nat) (ls : List api_Link) (m : Ms) : Prop where
  un : ∀ d : Int, 0 ≤ d → d < n → m.b d = false → m.t = 0 ∨ ∃ l ∈ ls, l.Consumer = d ∧ (m.b l.Supplier = true → m.t ≤ (m.s l.Supplier).End)
  be : ∀ d : Int, m.b d = true → (m.s d).Start = 0 ∨ ∃ l ∈ ls, l.Consumer = d ∧ (m.s l.Supplier).End = (m.s d).Start

theorem Early.step {n w : Nat} {ls : List api_Link} {du : Int → Int} (hdu : ∀ i, 0 ≤ du i) (hw : n ≤ w) {m : Ms} {out : List api_Slot} (I : Inv n w ls du m out) (E : Early n ls m) {z' : Ms × List api_Slot} (hz : nxt n w ls du (m, out) = some z') : Early n ls z'.1 := by
  rcases nxt_cases hz with ⟨d, k, _, _, hd, hk, hr, hf, rfl⟩ | ⟨t, hno, ht, hlo, hlt, rfl⟩
  · obtain ⟨hb, hsup⟩ := rdy_iff.1 hr
    have hd0 := hdu d
    refine ⟨fun j j0 j1 hj => ?_, fun j hj => ?_⟩
    · unfold place fset at hj ⊢
      simp only at hj ⊢
      by_cases c : j = d
      · rw [if_pos c] at hj; cases hj
      · rw [if_neg c] at hj
        rcases E.un j j0 j1 hj with h | ⟨l, hl, hc, h⟩
        · exact .inl h
        · refine .inr ⟨l, hl, hc, fun hs => ?_⟩
          by_cases e : l.Supplier = d
          · rw [if_pos e]; simp only; omega
          · rw [if_neg e] at hs ⊢; exact h hs
    · unfold place fset at hj ⊢
      simp only at hj ⊢
      by_cases c : j = d
      · subst c
        rw [if_pos rfl]
        rcases E.un j hd.1 hd.2 hb with h | ⟨l, hl, hc, h⟩
        · exact .inl h
        · obtain ⟨h1, h2⟩ := hsup l hl hc
          have hne : l.Supplier ≠ j := fun e => by rw [e, hb] at h1; cases h1
          have := h h1
          refine .inr ⟨l, hl, hc, ?_⟩
          rw [if_neg hne]; simp only; omega
      · rw [if_neg c] at hj ⊢
        rcases E.be j hj with h | ⟨l, hl, hc, h⟩
        · exact .inl h
        · have h1 := (I.lnk l hl (by rw [hc]; exact hj)).1
          have hne : l.Supplier ≠ d := fun e => by rw [e, hb] at h1; cases h1
          refine .inr ⟨l, hl, hc, ?_⟩
          rw [if_neg hne]; exact h
  · refine ⟨fun j j0 j1 hj => ?_, E.be⟩
    simp only at hj ⊢
    have hwk : 0 ≤ nextW w m := Classical.byContradiction fun hb => by
      have := busy_len I hb
      have := unbegun_len I j0 j1 hj
      omega
    have hnr := fst_neg (fun hd => hno ⟨hd, hwk⟩)
    obtain ⟨l, hl, hc, hs⟩ := rdy_not (hnr j j0 j1) hj
    exact .inr ⟨l, hl, hc, fun hB => hlo _ (I.over_run (I.bs _ hB).1 (hs hB))⟩

end Go.Proofs.Ythmjgadmadlpkaa.Sim

namespace Go.Proofs.Ythmjgadmadlpkaa.Sim
open Go
set_option linter.unusedVariables false
set_option linter.unusedSimpArgs false

/-! ### ref24_remove: function 77 -/
def ref24_remove.l2 (p1 : List api_Link) (m0_1 : List Bool) (m1_1 : Int) : Nat → Bool → Int → Option (Bool)
 | 0, _, _ => none
 | k52 + 1, m2_0, m2_1 => if ((decide (m2_1 < (p1.length : Int))) && m2_0) = true then (((idx p1 m2_1).bind fun x71 => (if (x71.Consumer == m1_1) = true then (idx m0_1 x71.Supplier).bind fun x86 => some (!x86) else some false).bind fun t91 => if t91 = true then (some false) else (some m2_0) : Option (Bool)).bind fun v66 => ref24_remove.l2 p1 m0_1 m1_1 k52 v66 (wi (m2_1 + 1))) else (some m2_0)
def ref24_remove.l1 (p1 : List api_Link) (m0_1 : List Bool) : Nat → Int → Int → Option (Int)
 | 0, _, _ => none
 | k33 + 1, m1_0, m1_1 => if decide (0 ≤ m1_1) = true then (((idx m0_1 m1_1).bind fun x42 => (ref24_remove.l2 p1 m0_1 m1_1 FUEL (!x42) 0 : Option (Bool)).bind fun v48 => if v48 = true then (some m1_1) else (some m1_0) : Option (Int)).bind fun v37 => ref24_remove.l1 p1 m0_1 k33 v37 (wi (m1_1 - 1))) else (some m1_0)
def ref24_remove.l0 (p0 : Int) (p1 : List api_Link) : Nat → (List Int) → (List Bool) → Option ((List Int) × (List Bool))
 | 0, _, _ => none
 | k18 + 1, m0_0, m0_1 => ((ref24_remove.l1 p1 m0_1 FUEL (-1) (wi (p0 - 1)) : Option (Int)).bind fun v27 => if decide (v27 < 0) = true then (some (.out (m0_0, m0_1))) else ((idx m0_1 v27).bind fun x141 => (app m0_0 [v27]).bind fun y153 => some (.nxt (y153, (upd m0_1 v27 true)))) : Option (Fl ((List Int) × (List Bool)) ((List Int) × (List Bool)))).bind fun o24 => o24.go fun v23 => ref24_remove.l0 p0 p1 k18 v23.1 v23.2
def ref24_remove.f (p0 : Int) (p1 : List api_Link) : Option ((List Int) × (List Bool)) := (mk p0 false).bind fun y5 => ref24_remove.l0 p0 p1 FUEL [] y5
set_option maxRecDepth 100000 in
set_option maxHeartbeats 4000000 in
theorem ref24_remove.calls {p0 : Int} {p1 : List api_Link} {A1 : Option Addr} {cap1 : Nat} {C1 : Nat → Prop} {w : World} {g : Nat → Nat} {out : (List Int) × (List Bool)} (N : Nat) (r0 : Nat) (r1 : Nat) (hp1 : RdS kd_api_Link w g C1 A1 cap1 p1) (hC1 : ∀ c, C1 c → c < N) (hr0 : r0 + 2 ≤ N) (hr1 : r1 + 2 ≤ N) (ht1_0 : r1 + 2 ≤ r0 ∨ r0 + 2 ≤ r1) (H : ref24_remove.f p0 p1 = some out) :
  Calls Try.prog 77 #[.int .i64 p0, .slice A1 p1.length cap1] w (fun e w' => ∃ v, e = .returned v ∧ ∃ (g' : Nat → Nat) (A_r0 : Option Addr) (cap_r0 : Nat) (A_r1 : Option Addr) (cap_r1 : Nat), v = .tuple #[.slice A_r0 out.1.length cap_r0, .slice A_r1 out.2.length cap_r1] ∧ OwS (kint .i64) 3 w' g' r0 A_r0 cap_r0 out.1 ∧ OwS kbool 4 w' g' r1 A_r1 cap_r1 out.2 ∧ Fr (fun q => (r0 ≤ q ∧ q < r0 + 2) ∨ (r1 ≤ q ∧ q < r1 + 2) ∨ N ≤ q) w g w' g') := by
 unfold ref24_remove.f at H
 refine calls_enter Try.func77 rfl Try.ntmps77 rfl (fun a hS => ?_)
 replace hS : Sl 65 a [(0, .int .i64 p0), (1, .slice A1 p1.length cap1)] := hS
 have hF : Fr (fun q => (r0 ≤ q ∧ q < r0 + 2) ∨ (r1 ≤ q ∧ q < r1 + 2) ∨ N ≤ q) w g w g := Fr.refl _ _ _
 refine c_pure [(0, .int .i64 p0), (1, .slice A1 p1.length cap1)] (fun R hR => st_val hS rfl rfl rfl (r_assign hS rfl rfl) fun a1 hS1 => st_val hS1 rfl rfl rfl (r_assign hS1 rfl rfl) fun a2 hS2 => wpList_nil (hR _ (hS2.re ⟨rfl, rfl, trivial⟩))) ?_
 clear hS
 clear a
 intro a hS
 refine c_pure [(0, .int .i64 p0), (1, .slice A1 p1.length cap1), (6, .slice none 0 0)] (fun R hR => st_val hS rfl rfl rfl (r_assign hS rfl rfl) fun a3 hS3 => wpList_nil (hR _ (hS3.re ⟨rfl, rfl, rfl, trivial⟩))) ?_
 clear hS
 clear a
 intro a hS
 obtain ⟨y5, hy6, H⟩ := bind_el H
 refine c_region (fun K hK => ?_)
 refine st_val hS rfl rfl rfl (r_move hS rfl rfl) fun a4 hS4 => ?_
 refine st_eff hS4 rfl rfl rfl (e_make (e := 4) (sz := 1) (by_ := 1) (z := [.bool false]) (kd := kbool) (N + 0) g hS4 rfl rfl (by kernel_rfl) (by kernel_rfl) rfl rfl rfl (fun _ _ _ => by exact rfl) hy6) ?_
 rintro _ a11 w12 g12 ⟨⟨A7, cap8, rfl, h9⟩, F12⟩ hS11
 replace hp1 := RdS.fr hp1 F12 (by decide) (fun _ _ h => h)
 replace hF := hF.trans F12 (fun _ h => h.elim)
 refine st_val hS11 rfl rfl rfl (r_assign hS11 rfl rfl) fun a13 hS13 => wpList_nil (hK _ _ ?_)
 replace hS : Sl 65 _ [(0, .int .i64 p0), (1, .slice A1 p1.length cap1), (6, .slice none 0 0), (7, .slice A7 y5.length cap8)] := hS13.re ⟨rfl, rfl, rfl, rfl, trivial⟩
 clear hK K
 try clear hS4 hS11 hS13
 obtain ⟨a, ha⟩ : ∃ a', a' = a13 := ⟨_, rfl⟩
 rw [← ha] at hS ⊢; clear ha
 refine wp_block ?_
 refine wp_loop_ghost (fun kq => fun a w14 => ∃ (m0_0 : List Int), ∃ (m0_1 : List Bool), ∃ (g14 : Nat → Nat), ∃ (A15 : Option Addr), ∃ (cap16 : Nat), ref24_remove.l0 p0 p1 kq m0_0 m0_1 = some out ∧ Sl 65 a [(0, .int .i64 p0), (1, .slice A1 p1.length cap1), (6, .slice A15 m0_0.length cap16), (7, .slice A7 m0_1.length cap8)] ∧ OwS kbool 4 w14 g14 (N + 0) A7 cap8 m0_1 ∧ OwS (kint .i64) 3 w14 g14 (N + 4) A15 cap16 m0_0 ∧ RdS kd_api_Link w14 g14 C1 A1 cap1 p1 ∧ Fr (fun q => (r0 ≤ q ∧ q < r0 + 2) ∨ (r1 ≤ q ∧ q < r1 + 2) ∨ N ≤ q) w g w14 g14) FUEL ?_ ?_
 ·exact ⟨[], y5, g12, none, 0, H, hS.re ⟨rfl, rfl, rfl, rfl, trivial⟩, h9, OwS.nil (kint .i64) 3 w12 g12 (N + 4), hp1, hF⟩
 ·clear H
  clear hp1 h9 hF
  clear hS
  rintro k18 a w14 ⟨m0_0, m0_1, g14, A15, cap16, hpre0, hS, h9, h17, hp1, hF⟩
  have H := hpre0
  clear hpre0
  cases k18 with
  | zero => exact absurd H (by simp [ref24_remove.l0])
  | succ k18 =>
   rw [ref24_remove.l0] at H
   obtain ⟨o24, H, Hl25⟩ := bind_el H
   refine c_cut1 (fun a w19 => ∃ (v23 : (List Int) × (List Bool)), ∃ (g19 : Nat → Nat), ∃ (A20 : Option Addr), ∃ (cap21 : Nat), o24 = .nxt v23 ∧ Sl 65 a [(0, .int .i64 p0), (1, .slice A1 p1.length cap1), (6, .slice A20 v23.1.length cap21), (7, .slice A7 v23.2.length cap8)] ∧ OwS kbool 4 w19 g19 (N + 0) A7 cap8 v23.2 ∧ OwS (kint .i64) 3 w19 g19 (N + 4) A20 cap21 v23.1 ∧ RdS kd_api_Link w19 g19 C1 A1 cap1 p1 ∧ Fr (fun q => (r0 ≤ q ∧ q < r0 + 2) ∨ (r1 ≤ q ∧ q < r1 + 2) ∨ N ≤ q) w g w19 g19) ?_ ?_
   ·refine wp_block ?_
    refine c_pure [(0, .int .i64 p0), (1, .slice A1 p1.length cap1), (6, .slice A15 m0_0.length cap16), (7, .slice A7 m0_1.length cap8), (8, .int .i64 (-1))] (fun R hR => st_val hS rfl rfl rfl (r_assign hS rfl rfl) fun a26 hS26 => wpList_nil (hR _ (hS26.re ⟨rfl, rfl, rfl, rfl, rfl, trivial⟩))) ?_
    clear hS
    clear a
    intro a hS
    obtain ⟨v27, H, Hl29⟩ := bind_el H
    refine c_cut (fun a w' => w14 = w' ∧ Sl 65 a [(0, .int .i64 p0), (1, .slice A1 p1.length cap1), (6, .slice A15 m0_0.length cap16), (7, .slice A7 m0_1.length cap8), (8, .int .i64 v27)]) ?_ ?_
    ·refine c_pure [(0, .int .i64 p0), (1, .slice A1 p1.length cap1), (6, .slice A15 m0_0.length cap16), (7, .slice A7 m0_1.length cap8), (8, .int .i64 (-1)), (9, .int .i64 (wi (p0 - 1)))] (fun R hR => st_val hS rfl rfl rfl (r_move hS rfl rfl) fun a30 hS30 => st_val hS30 rfl rfl rfl (r_bin hS30 rfl rfl rfl b_sub) fun a31 hS31 => st_val hS31 rfl rfl rfl (r_assign hS31 rfl rfl) fun a32 hS32 => wpList_nil (hR _ (hS32.re ⟨rfl, rfl, rfl, rfl, rfl, rfl, trivial⟩))) ?_
     clear hS
     clear a
     intro a hS
     refine wp_block ?_
     refine wp_loop_ghost (fun kq => fun a w' => ∃ (m1_0 : Int), ∃ (m1_1 : Int), ref24_remove.l1 p1 m0_1 kq m1_0 m1_1 = some v27 ∧ w14 = w' ∧ Sl 65 a [(0, .int .i64 p0), (1, .slice A1 p1.length cap1), (6, .slice A15 m0_0.length cap16), (7, .slice A7 m0_1.length cap8), (8, .int .i64 m1_0), (9, .int .i64 m1_1)]) FUEL ?_ ?_
     ·exact ⟨(-1), wi (p0 - 1), H, rfl, hS.re ⟨rfl, rfl, rfl, rfl, rfl, rfl, trivial⟩⟩
     ·clear H
      clear hS
      rintro k33 a w' ⟨m1_0, m1_1, hpre0, hw, hS⟩
      subst hw
      have H := hpre0
      clear hpre0
      cases k33 with
      | zero => exact absurd H (by simp [ref24_remove.l1])
      | succ k33 =>
       rw [ref24_remove.l1] at H
       refine wp_seq ?_
       refine c_pure [(0, .int .i64 p0), (1, .slice A1 p1.length cap1), (6, .slice A15 m0_0.length cap16), (7, .slice A7 m0_1.length cap8), (8, .int .i64 m1_0), (9, .int .i64 m1_1), (17, .bool (decide (0 ≤ m1_1)))] (fun R hR => st_val hS rfl rfl rfl (r_move hS rfl rfl) fun a34 hS34 => st_val hS34 rfl rfl rfl (r_bin hS34 rfl rfl rfl b_geq) fun a35 hS35 => wpList_nil (hR _ (hS35.re ⟨rfl, rfl, rfl, rfl, rfl, rfl, rfl, trivial⟩))) ?_
       clear hS
       clear a
       intro a hS
       refine c_cond hS rfl (fun hb36 => ?_) (fun hb36 => ?_)
       ·replace H := ite_t hb36 H
        refine wp_skip ?_
        change Code.wp _ _ _ _ _
        obtain ⟨v37, H, Hl39⟩ := bind_el H
        refine c_cut (fun a w' => w14 = w' ∧ Sl 65 a [(0, .int .i64 p0), (1, .slice A1 p1.length cap1), (6, .slice A15 m0_0.length cap16), (7, .slice A7 m0_1.length cap8), (8, .int .i64 v37), (9, .int .i64 m1_1)]) ?_ ?_
        ·refine wp_block ?_
         obtain ⟨x42, hx43, H⟩ := bind_el H
         refine c_pure [(0, .int .i64 p0), (1, .slice A1 p1.length cap1), (6, .slice A15 m0_0.length cap16), (7, .slice A7 m0_1.length cap8), (8, .int .i64 m1_0), (9, .int .i64 m1_1), (10, .bool (!x42))] (fun R hR => st_val hS rfl rfl rfl (r_move hS rfl rfl) fun a40 hS40 => st_val hS40 rfl rfl rfl (r_move hS40 rfl rfl) fun a41 hS41 => st_val hS41 rfl rfl rfl (r_index (e := 4) (sz := 1) (by_ := 1) hS41 rfl rfl rfl (by kernel_rfl) (RdS.some_ (OwS.rd h9) hx43) (idx_lo hx43) (idx_hi hx43)) fun a44 hS44 => st_val hS44 rfl rfl rfl (r_load1 (n := 1) hS44 rfl rfl (by kernel_rfl) (RdS.cell (i := m1_1) (sz := 1) (j := 0) (OwS.rd h9) hx43 rfl)) fun a45 hS45 => st_val hS45 rfl rfl rfl (r_not hS45 rfl rfl) fun a46 hS46 => st_val hS46 rfl rfl rfl (r_assign hS46 rfl rfl) fun a47 hS47 => wpList_nil (hR _ (hS47.re ⟨rfl, rfl, rfl, rfl, rfl, rfl, rfl, trivial⟩))) ?_
         clear hS
         clear a
         intro a hS
         obtain ⟨v48, H, Hl50⟩ := bind_el H
         refine c_cut (fun a w' => w14 = w' ∧ Sl 65 a [(0, .int .i64 p0), (1, .slice A1 p1.length cap1), (6, .slice A15 m0_0.length cap16), (7, .slice A7 m0_1.length cap8), (8, .int .i64 m1_0), (9, .int .i64 m1_1), (10, .bool v48)]) ?_ ?_
         ·refine c_pure [(0, .int .i64 p0), (1, .slice A1 p1.length cap1), (6, .slice A15 m0_0.length cap16), (7, .slice A7 m0_1.length cap8), (8, .int .i64 m1_0), (9, .int .i64 m1_1), (10, .bool (!x42)), (11, .int .i64 0)] (fun R hR => st_val hS rfl rfl rfl (r_assign hS rfl rfl) fun a51 hS51 => wpList_nil (hR _ (hS51.re ⟨rfl, rfl, rfl, rfl, rfl, rfl, rfl, rfl, trivial⟩))) ?_
          clear hS
          clear a
          intro a hS
          refine wp_block ?_
          refine wp_loop_ghost (fun kq => fun a w' => ∃ (m2_0 : Bool), ∃ (m2_1 : Int), ref24_remove.l2 p1 m0_1 m1_1 kq m2_0 m2_1 = some v48 ∧ w14 = w' ∧ Sl 65 a [(0, .int .i64 p0), (1, .slice A1 p1.length cap1), (6, .slice A15 m0_0.length cap16), (7, .slice A7 m0_1.length cap8), (8, .int .i64 m1_0), (9, .int .i64 m1_1), (10, .bool m2_0), (11, .int .i64 m2_1)]) FUEL ?_ ?_
          ·exact ⟨(!x42), 0, H, rfl, hS.re ⟨rfl, rfl, rfl, rfl, rfl, rfl, rfl, rfl, trivial⟩⟩
          ·clear H
           clear hS
           rintro k52 a w' ⟨m2_0, m2_1, hpre0, hw, hS⟩
           subst hw
           have H := hpre0
           clear hpre0
           cases k52 with
           | zero => exact absurd H (by simp [ref24_remove.l2])
           | succ k52 =>
            rw [ref24_remove.l2] at H
            refine wp_seq ?_
            refine c_region (fun K hK => ?_)
            refine st_val hS rfl rfl rfl (r_move hS rfl rfl) fun a53 hS53 => st_val hS53 rfl rfl rfl (r_move hS53 rfl rfl) fun a54 hS54 => st_val hS54 rfl rfl rfl (r_len (e := 43) (sz := 2) (by_ := 16) hS54 rfl rfl (by kernel_rfl)) fun a55 hS55 => st_val hS55 rfl rfl rfl (r_bin hS55 rfl rfl rfl b_lss) fun a56 hS56 => st_val hS56 rfl rfl rfl (r_move hS56 rfl rfl) fun a57 hS57 => ?_
            refine g_join (N := 65) 2 [(0, .int .i64 p0), (1, .slice A1 p1.length cap1), (6, .slice A15 m0_0.length cap16), (7, .slice A7 m0_1.length cap8), (8, .int .i64 m1_0), (9, .int .i64 m1_1), (10, .bool m2_0), (11, .int .i64 m2_1), (31, .bool ((decide (m2_1 < (p1.length : Int))) && m2_0))] ?_ (fun hk => ?_)
            rotate_left
            ·rcases Bool.eq_false_or_eq_true (decide (m2_1 < (p1.length : Int))) with hb58 | hb58
             ·refine st_valW hS57 (want_on hS57 rfl rfl rfl hb58) rfl rfl (r_move hS57 rfl rfl) fun a60 hS60 => st_val hS60 rfl rfl rfl (r_pickT hS60 rfl rfl rfl hb58) fun a61 hS61 => hk _ (hS61.re ⟨rfl, rfl, rfl, rfl, rfl, rfl, rfl, rfl, (by rw [hb58]; rfl), trivial⟩)
             ·refine st_off hS57 (want_off hS57 rfl rfl rfl hb58) rfl rfl fun a62 hS62 => st_val hS62 rfl rfl rfl (r_pickF hS62 rfl rfl rfl hb58) fun a63 hS63 => hk _ (hS63.re ⟨rfl, rfl, rfl, rfl, rfl, rfl, rfl, rfl, (by rw [hb58]; rfl), trivial⟩)
            intro a64 hS64
            refine wpList_nil (hK _ _ ?_)
            replace hS : Sl 65 _ [(0, .int .i64 p0), (1, .slice A1 p1.length cap1), (6, .slice A15 m0_0.length cap16), (7, .slice A7 m0_1.length cap8), (8, .int .i64 m1_0), (9, .int .i64 m1_1), (10, .bool m2_0), (11, .int .i64 m2_1), (31, .bool ((decide (m2_1 < (p1.length : Int))) && m2_0))] := hS64.re ⟨rfl, rfl, rfl, rfl, rfl, rfl, rfl, rfl, rfl, trivial⟩
            clear hK K
            try clear hS53 hS54 hS55 hS56 hS57 hS64
            obtain ⟨a, ha⟩ : ∃ a', a' = a64 := ⟨_, rfl⟩
            rw [← ha] at hS ⊢; clear ha
            refine c_cond hS rfl (fun hb65 => ?_) (fun hb65 => ?_)
            ·replace H := ite_t hb65 H
             refine wp_skip ?_
             change Code.wp _ _ _ _ _
             obtain ⟨v66, H, Hl68⟩ := bind_el H
             refine c_cut (fun a w' => w14 = w' ∧ Sl 65 a [(0, .int .i64 p0), (1, .slice A1 p1.length cap1), (6, .slice A15 m0_0.length cap16), (7, .slice A7 m0_1.length cap8), (8, .int .i64 m1_0), (9, .int .i64 m1_1), (10, .bool v66), (11, .int .i64 m2_1)]) ?_ ?_
             ·refine wp_block ?_
              obtain ⟨x71, hx72, H⟩ := bind_el H
              obtain ⟨t91, ht92, H⟩ := bind_el H
              refine c_region (fun K hK => ?_)
              refine st_val hS rfl rfl rfl (r_move hS rfl rfl) fun a69 hS69 => st_val hS69 rfl rfl rfl (r_move hS69 rfl rfl) fun a70 hS70 => st_val hS70 rfl rfl rfl (r_index (e := 43) (sz := 2) (by_ := 16) hS70 rfl rfl rfl (by kernel_rfl) (RdS.some_ hp1 hx72) (idx_lo hx72) (idx_hi hx72)) fun a73 hS73 => st_val hS73 rfl rfl rfl (r_fieldE (off := 0) hS73 rfl rfl (by kernel_rfl)) fun a74 hS74 => st_val hS74 rfl rfl rfl (r_load1 (n := 1) hS74 rfl rfl (by kernel_rfl) (RdS.cell (i := m2_1) (sz := 2) (j := 0) hp1 hx72 rfl)) fun a75 hS75 => st_val hS75 rfl rfl rfl (r_move hS75 rfl rfl) fun a76 hS76 => st_val hS76 rfl rfl rfl (r_bin hS76 rfl rfl rfl b_eql) fun a77 hS77 => st_val hS77 rfl rfl rfl (r_move hS77 rfl rfl) fun a78 hS78 => ?_
              refine g_join (N := 65) 10 [(0, .int .i64 p0), (1, .slice A1 p1.length cap1), (6, .slice A15 m0_0.length cap16), (7, .slice A7 m0_1.length cap8), (8, .int .i64 m1_0), (9, .int .i64 m1_1), (10, .bool m2_0), (11, .int .i64 m2_1), (51, .bool t91)] ?_ (fun hk => ?_)
              rotate_left
              ·rcases Bool.eq_false_or_eq_true ((x71.Consumer == m1_1)) with hb79 | hb79
               ·have H := ite_t hb79 ht92
                obtain ⟨x99, hx100, H⟩ := bind_el H
                have e104 := Option.some.inj H
                refine st_valW hS78 (want_on hS78 rfl rfl rfl hb79) rfl rfl (r_move hS78 rfl rfl) fun a93 hS93 => st_valW hS93 (want_on hS93 rfl rfl rfl hb79) rfl rfl (r_move hS93 rfl rfl) fun a94 hS94 => st_valW hS94 (want_on hS94 rfl rfl rfl hb79) rfl rfl (r_move hS94 rfl rfl) fun a95 hS95 => st_valW hS95 (want_on hS95 rfl rfl rfl hb79) rfl rfl (r_index (e := 43) (sz := 2) (by_ := 16) hS95 rfl rfl rfl (by kernel_rfl) (RdS.some_ hp1 hx72) (idx_lo hx72) (idx_hi hx72)) fun a96 hS96 => st_valW hS96 (want_on hS96 rfl rfl rfl hb79) rfl rfl (r_fieldE (off := 1) hS96 rfl rfl (by kernel_rfl)) fun a97 hS97 => st_valW hS97 (want_on hS97 rfl rfl rfl hb79) rfl rfl (r_load1 (n := 1) hS97 rfl rfl (by kernel_rfl) (RdS.cell (i := m2_1) (sz := 2) (j := 1) hp1 hx72 rfl)) fun a98 hS98 => st_valW hS98 (want_on hS98 rfl rfl rfl hb79) rfl rfl (r_index (e := 4) (sz := 1) (by_ := 1) hS98 rfl rfl rfl (by kernel_rfl) (RdS.some_ (OwS.rd h9) hx100) (idx_lo hx100) (idx_hi hx100)) fun a101 hS101 => st_valW hS101 (want_on hS101 rfl rfl rfl hb79) rfl rfl (r_load1 (n := 1) hS101 rfl rfl (by kernel_rfl) (RdS.cell (i := x71.Supplier) (sz := 1) (j := 0) (OwS.rd h9) hx100 rfl)) fun a102 hS102 => st_valW hS102 (want_on hS102 rfl rfl rfl hb79) rfl rfl (r_not hS102 rfl rfl) fun a103 hS103 => st_val hS103 rfl rfl rfl (r_pickT hS103 rfl rfl rfl hb79) fun a105 hS105 => hk _ (hS105.re ⟨rfl, rfl, rfl, rfl, rfl, rfl, rfl, rfl, (by rw [← e104]; rfl), trivial⟩)
               ·have H := ite_f hb79 ht92
                have e106 := Option.some.inj H
                refine st_off hS78 (want_off hS78 rfl rfl rfl hb79) rfl rfl fun a107 hS107 => st_off hS107 (want_off hS107 rfl rfl rfl hb79) rfl rfl fun a108 hS108 => st_off hS108 (want_off hS108 rfl rfl rfl hb79) rfl rfl fun a109 hS109 => st_off hS109 (want_off hS109 rfl rfl rfl hb79) rfl rfl fun a110 hS110 => st_off hS110 (want_off hS110 rfl rfl rfl hb79) rfl rfl fun a111 hS111 => st_off hS111 (want_off hS111 rfl rfl rfl hb79) rfl rfl fun a112 hS112 => st_off hS112 (want_off hS112 rfl rfl rfl hb79) rfl rfl fun a113 hS113 => st_off hS113 (want_off hS113 rfl rfl rfl hb79) rfl rfl fun a114 hS114 => st_off hS114 (want_off hS114 rfl rfl rfl hb79) rfl rfl fun a115 hS115 => st_val hS115 rfl rfl rfl (r_pickF hS115 rfl rfl rfl hb79) fun a116 hS116 => hk _ (hS116.re ⟨rfl, rfl, rfl, rfl, rfl, rfl, rfl, rfl, (by rw [← e106]; rfl), trivial⟩)
              intro a117 hS117
              refine wpList_nil (hK _ _ ?_)
              replace hS : Sl 65 _ [(0, .int .i64 p0), (1, .slice A1 p1.length cap1), (6, .slice A15 m0_0.length cap16), (7, .slice A7 m0_1.length cap8), (8, .int .i64 m1_0), (9, .int .i64 m1_1), (10, .bool m2_0), (11, .int .i64 m2_1), (51, .bool t91)] := hS117.re ⟨rfl, rfl, rfl, rfl, rfl, rfl, rfl, rfl, rfl, trivial⟩
              clear hK K
              try clear hS69 hS70 hS73 hS74 hS75 hS76 hS77 hS78 hS117
              obtain ⟨a, ha⟩ : ∃ a', a' = a117 := ⟨_, rfl⟩
              rw [← ha] at hS ⊢; clear ha
              refine c_cond hS rfl (fun hb118 => ?_) (fun hb118 => ?_)
              ·replace H := ite_t hb118 H
               refine c_pure1 [(0, .int .i64 p0), (1, .slice A1 p1.length cap1), (6, .slice A15 m0_0.length cap16), (7, .slice A7 m0_1.length cap8), (8, .int .i64 m1_0), (9, .int .i64 m1_1), (10, .bool false), (11, .int .i64 m2_1)] (fun R hR => st_val hS rfl rfl rfl (r_assign hS rfl rfl) fun a119 hS119 => wpList_nil (hR _ (hS119.re ⟨rfl, rfl, rfl, rfl, rfl, rfl, rfl, rfl, trivial⟩))) ?_
               clear hS
               clear a
               intro a hS
               have e := Option.some.inj H
               subst e
               exact ⟨rfl, hS.re ⟨rfl, rfl, rfl, rfl, rfl, rfl, rfl, rfl, trivial⟩⟩
              ·replace H := ite_f hb118 H
               refine wp_skip ?_
               have e := Option.some.inj H
               subst e
               exact ⟨rfl, hS.re ⟨rfl, rfl, rfl, rfl, rfl, rfl, rfl, rfl, trivial⟩⟩
             ·clear H
              clear hS
              rintro a w' ⟨hw, hS⟩
              subst hw
              have H := Hl68
              clear Hl68
              refine c_pure1 [(0, .int .i64 p0), (1, .slice A1 p1.length cap1), (6, .slice A15 m0_0.length cap16), (7, .slice A7 m0_1.length cap8), (8, .int .i64 m1_0), (9, .int .i64 m1_1), (10, .bool v66), (11, .int .i64 (wi (m2_1 + 1)))] (fun R hR => st_val hS rfl rfl rfl (r_move hS rfl rfl) fun a120 hS120 => st_val hS120 rfl rfl rfl (r_bin hS120 rfl rfl rfl b_add) fun a121 hS121 => st_val hS121 rfl rfl rfl (r_assign hS121 rfl rfl) fun a122 hS122 => wpList_nil (hR _ (hS122.re ⟨rfl, rfl, rfl, rfl, rfl, rfl, rfl, rfl, trivial⟩))) ?_
              clear hS
              clear a
              intro a hS
              refine ⟨k52, Nat.lt_succ_self _, ?_⟩
              exact ⟨v66, wi (m2_1 + 1), H, rfl, hS.re ⟨rfl, rfl, rfl, rfl, rfl, rfl, rfl, rfl, trivial⟩⟩
            ·replace H := ite_f hb65 H
             refine wp_exit ?_
             have e := Option.some.inj H
             subst e
             exact ⟨rfl, hS.re ⟨rfl, rfl, rfl, rfl, rfl, rfl, rfl, trivial⟩⟩
         ·clear H
          clear hS
          rintro a w' ⟨hw, hS⟩
          subst hw
          have H := Hl50
          clear Hl50
          refine c_pure [(0, .int .i64 p0), (1, .slice A1 p1.length cap1), (6, .slice A15 m0_0.length cap16), (7, .slice A7 m0_1.length cap8), (8, .int .i64 m1_0), (9, .int .i64 m1_1), (52, .bool v48)] (fun R hR => st_val hS rfl rfl rfl (r_move hS rfl rfl) fun a123 hS123 => wpList_nil (hR _ (hS123.re ⟨rfl, rfl, rfl, rfl, rfl, rfl, rfl, trivial⟩))) ?_
          clear hS
          clear a
          intro a hS
          refine c_cond hS rfl (fun hb124 => ?_) (fun hb124 => ?_)
          ·replace H := ite_t hb124 H
           refine c_pure1 [(0, .int .i64 p0), (1, .slice A1 p1.length cap1), (6, .slice A15 m0_0.length cap16), (7, .slice A7 m0_1.length cap8), (8, .int .i64 m1_1), (9, .int .i64 m1_1)] (fun R hR => st_val hS rfl rfl rfl (r_move hS rfl rfl) fun a125 hS125 => st_val hS125 rfl rfl rfl (r_assign hS125 rfl rfl) fun a126 hS126 => wpList_nil (hR _ (hS126.re ⟨rfl, rfl, rfl, rfl, rfl, rfl, trivial⟩))) ?_
           clear hS
           clear a
           intro a hS
           have e := Option.some.inj H
           subst e
           exact ⟨rfl, hS.re ⟨rfl, rfl, rfl, rfl, rfl, rfl, trivial⟩⟩
          ·replace H := ite_f hb124 H
           refine wp_skip ?_
           have e := Option.some.inj H
           subst e
           exact ⟨rfl, hS.re ⟨rfl, rfl, rfl, rfl, rfl, rfl, trivial⟩⟩
        ·clear H
         clear hS
         rintro a w' ⟨hw, hS⟩
         subst hw
         have H := Hl39
         clear Hl39
         refine c_pure1 [(0, .int .i64 p0), (1, .slice A1 p1.length cap1), (6, .slice A15 m0_0.length cap16), (7, .slice A7 m0_1.length cap8), (8, .int .i64 v37), (9, .int .i64 (wi (m1_1 - 1)))] (fun R hR => st_val hS rfl rfl rfl (r_move hS rfl rfl) fun a127 hS127 => st_val hS127 rfl rfl rfl (r_bin hS127 rfl rfl rfl b_sub) fun a128 hS128 => st_val hS128 rfl rfl rfl (r_assign hS128 rfl rfl) fun a129 hS129 => wpList_nil (hR _ (hS129.re ⟨rfl, rfl, rfl, rfl, rfl, rfl, trivial⟩))) ?_
         clear hS
         clear a
         intro a hS
         refine ⟨k33, Nat.lt_succ_self _, ?_⟩
         exact ⟨v37, wi (m1_1 - 1), H, rfl, hS.re ⟨rfl, rfl, rfl, rfl, rfl, rfl, trivial⟩⟩
       ·replace H := ite_f hb36 H
        refine wp_exit ?_
        have e := Option.some.inj H
        subst e
        exact ⟨rfl, hS.re ⟨rfl, rfl, rfl, rfl, rfl, trivial⟩⟩
    ·clear H
     clear hS
     rintro a w' ⟨hw, hS⟩
     subst hw
     have H := Hl29
     clear Hl29
     refine wp_seq ?_
     refine c_pure [(0, .int .i64 p0), (1, .slice A1 p1.length cap1), (6, .slice A15 m0_0.length cap16), (7, .slice A7 m0_1.length cap8), (8, .int .i64 v27), (55, .bool (decide (v27 < 0)))] (fun R hR => st_val hS rfl rfl rfl (r_move hS rfl rfl) fun a130 hS130 => st_val hS130 rfl rfl rfl (r_bin hS130 rfl rfl rfl b_lss) fun a131 hS131 => wpList_nil (hR _ (hS131.re ⟨rfl, rfl, rfl, rfl, rfl, rfl, trivial⟩))) ?_
     clear hS
     clear a
     intro a hS
     refine c_cond hS rfl (fun hb132 => ?_) (fun hb132 => ?_)
     ·replace H := ite_t hb132 H
      refine c_pure [(4, .slice A15 m0_0.length cap16), (5, .slice A7 m0_1.length cap8)] (fun R hR => st_val hS rfl rfl rfl (r_move hS rfl rfl) fun a133 hS133 => st_val hS133 rfl rfl rfl (r_move hS133 rfl rfl) fun a134 hS134 => st_val hS134 rfl rfl rfl (r_assign hS134 rfl rfl) fun a135 hS135 => st_val hS135 rfl rfl rfl (r_assign hS135 rfl rfl) fun a136 hS136 => wpList_nil (hR _ (hS136.re ⟨rfl, rfl, trivial⟩))) ?_
      clear hS
      clear a
      intro a hS
      refine wp_ret ?_
      have e := Option.some.inj H
      subst e
      replace H := Fl.go_out Hl25
      have e := Option.some.inj H
      subst e
      have F137 := Fr.recol2 w14 g14 (N + 4) r0
      replace h17 := h17.recol2 r0
      replace h9 := OwS.fr h9 F137 (fun c' hc (hm : c' = N + 4 ∨ c' = N + 4 + 1) => by omega)
      replace hF := hF.trans F137 (fun c' (hm : c' = N + 4 ∨ c' = N + 4 + 1) => by show (r0 ≤ c' ∧ c' < r0 + 2) ∨ (r1 ≤ c' ∧ c' < r1 + 2) ∨ N ≤ c'; omega)
      have F138 := Fr.recol2 w14 (recol2 g14 (N + 4) r0) (N + 0) r1
      replace h9 := h9.recol2 r1
      replace h17 := OwS.fr h17 F138 (fun c' hc (hm : c' = N + 0 ∨ c' = N + 0 + 1) => by omega)
      replace hF := hF.trans F138 (fun c' (hm : c' = N + 0 ∨ c' = N + 0 + 1) => by show (r0 ≤ c' ∧ c' < r0 + 2) ∨ (r1 ≤ c' ∧ c' < r1 + 2) ∨ N ≤ c'; omega)
      repeat (with_reducible first | refine then_ret ?_ | refine inBlock_ret ?_)
      exact c_ret2 hS Try.results77 rfl rfl ⟨_, rfl, (recol2 (recol2 g14 (N + 4) r0) (N + 0) r1), A15, cap16, A7, cap8, rfl, h17, h9, hF⟩
     ·replace H := ite_f hb132 H
      refine wp_skip ?_
      change Code.wp _ _ _ _ _
      obtain ⟨x141, hx142, H⟩ := bind_el H
      refine c_region (fun K hK => ?_)
      refine st_val hS rfl rfl rfl (r_move hS rfl rfl) fun a139 hS139 => st_val hS139 rfl rfl rfl (r_move hS139 rfl rfl) fun a140 hS140 => st_val hS140 rfl rfl rfl (r_index (e := 4) (sz := 1) (by_ := 1) hS140 rfl rfl rfl (by kernel_rfl) (RdS.some_ (OwS.rd h9) hx142) (idx_lo hx142) (idx_hi hx142)) fun a143 hS143 => ?_
      refine st_effS hS143 rfl rfl (e_storeE (n := 1) (bb := false) (kd := kbool) (j := 0) (x' := true) (us := [.bool true]) g14 hS143 rfl rfl rfl rfl (by kernel_rfl) rfl rfl (by intro v hv; simp only [List.mem_cons, List.not_mem_nil, or_false] at hv; rcases hv with rfl <;> rfl) h9 hx142 rfl (fun _ _ cs hR => by rw [show cs = _ from hR]; rfl)) ?_
      rintro a144 w145 g145 ⟨h9, F145⟩ hS144
      replace h17 := OwS.fr h17 F145 (fun c' hc (hm : c' = N + 0) => by omega)
      replace hp1 := RdS.fr hp1 F145 (by decide) (fun q (hq : C1 q) (hm : q = N + 0) => by have := hC1 q hq; omega)
      replace hF := hF.trans F145 (fun c' (hm : c' = N + 0) => by show (r0 ≤ c' ∧ c' < r0 + 2) ∨ (r1 ≤ c' ∧ c' < r1 + 2) ∨ N ≤ c'; omega)
      have hT : Sl 65 a144 [(0, .int .i64 p0), (1, .slice A1 p1.length cap1), (6, .slice A15 m0_0.length cap16), (7, .slice A7 m0_1.length cap8), (8, .int .i64 v27)] := hS144.re ⟨rfl, rfl, rfl, rfl, rfl, trivial⟩
      replace hS144 : Sl 65 a144 [(0, .int .i64 p0), (1, .slice A1 p1.length cap1), (6, .slice A15 m0_0.length cap16), (7, .slice A7 (upd m0_1 v27 true).length cap8), (8, .int .i64 v27)] := by simpa only [upd_length] using hT
      clear hT
      refine wpList_nil (hK _ _ ?_)
      replace hS : Sl 65 _ [(0, .int .i64 p0), (1, .slice A1 p1.length cap1), (6, .slice A15 m0_0.length cap16), (7, .slice A7 (upd m0_1 v27 true).length cap8), (8, .int .i64 v27)] := hS144.re ⟨rfl, rfl, rfl, rfl, rfl, trivial⟩
      clear hK K
      try clear hS139 hS140 hS143 hS144
      obtain ⟨a, ha⟩ : ∃ a', a' = a144 := ⟨_, rfl⟩
      rw [← ha] at hS ⊢; clear ha
      obtain ⟨y153, hy154, H⟩ := bind_el H
      refine c_region1 (fun K hK => ?_)
      refine st_val hS rfl rfl rfl (r_move hS rfl rfl) fun a146 hS146 => st_val hS146 rfl rfl rfl (r_move hS146 rfl rfl) fun a147 hS147 => ?_
      refine st_eff hS147 rfl rfl rfl (e_lit (e := 3) (parts := [(0, .int .i64 v27)]) (cs := [.int .i64 v27]) (kint .i64) [v27] (N + 2) g145 hS147 rfl rfl (fun _ => by kernel_rfl) rfl (by decide) (Rows.cons (cs := [.int .i64 v27]) rfl Rows.nil)) ?_
      rintro _ a151 w152 g152 ⟨⟨A148, rfl, h149⟩, F152⟩ hS151
      replace h9 := OwS.fr h9 F152 (fun _ _ h => h)
      replace h17 := OwS.fr h17 F152 (fun _ _ h => h)
      replace hp1 := RdS.fr hp1 F152 (by decide) (fun _ _ h => h)
      replace hF := hF.trans F152 (fun _ h => h.elim)
      refine st_eff hS151 rfl rfl rfl (e_append (e := 3) (sz := 1) (by_ := 8) (z := [.int .i64 0]) (kd := (kint .i64)) g152 hS151 rfl rfl rfl rfl (by kernel_rfl) (by kernel_rfl) rfl rfl rfl rfl h17 (OwD.rdx h149) (fun _ _ _ h => h) hy154) ?_
      rintro _ a159 w160 g160 ⟨⟨A155, cap156, rfl, h157⟩, F160⟩ hS159
      replace h9 := OwS.fr h9 F160 (fun c' hc (hm : c' = N + 4) => by omega)
      replace h149 := OwS.fr h149 F160 (fun c' hc (hm : c' = N + 4) => by omega)
      replace hp1 := RdS.fr hp1 F160 (by decide) (fun q (hq : C1 q) (hm : q = N + 4) => by have := hC1 q hq; omega)
      replace hF := hF.trans F160 (fun c' (hm : c' = N + 4) => by show (r0 ≤ c' ∧ c' < r0 + 2) ∨ (r1 ≤ c' ∧ c' < r1 + 2) ∨ N ≤ c'; omega)
      refine st_val hS159 rfl rfl rfl (r_assign hS159 rfl rfl) fun a161 hS161 => wpList_nil (hK _ _ ?_)
      replace hS : Sl 65 _ [(0, .int .i64 p0), (1, .slice A1 p1.length cap1), (6, .slice A155 y153.length cap156), (7, .slice A7 (upd m0_1 v27 true).length cap8)] := hS161.re ⟨rfl, rfl, rfl, rfl, trivial⟩
      clear hK K
      try clear hS146 hS147 hS151 hS159 hS161
      obtain ⟨a, ha⟩ : ∃ a', a' = a161 := ⟨_, rfl⟩
      rw [← ha] at hS ⊢; clear ha
      have e := Option.some.inj H
      exact ⟨(y153, (upd m0_1 v27 true)), g160, A155, cap156, e.symm, hS.re ⟨rfl, rfl, rfl, rfl, trivial⟩, h9, h157, hp1, hF⟩
   ·clear H
    clear hp1 h9 h17 hF
    clear hS
    rintro a w19 ⟨v23, g19, A20, cap21, hpre0, hS, h9, h22, hp1, hF⟩
    subst hpre0
    have H := Fl.go_nxt Hl25
    clear Hl25
    refine ⟨k18, Nat.lt_succ_self _, ?_⟩
    exact ⟨v23.1, v23.2, g19, A20, cap21, H, hS.re ⟨rfl, rfl, rfl, rfl, trivial⟩, h9, h22, hp1, hF⟩


end Go.Proofs.Ythmjgadmadlpkaa.Sim

namespace Go.Proofs.Ythmjgadmadlpkaa.Sim
open Go
set_option linter.unusedVariables false
set_option linter.unusedSimpArgs false

/-! ### ref24_Order: function 42 -/
def ref24_Order.f (p0 : Int) (p1 : List api_Link) : Option ((List Int) × Int) := (ref24_Check.f p0 p1).bind fun r5 => if (r5 != 0) = true then (some ([], r5)) else ((ref24_remove.f p0 p1).bind fun r18 => some (r18.1, 0))
set_option maxRecDepth 100000 in
set_option maxHeartbeats 4000000 in
theorem ref24_Order.calls {p0 : Int} {p1 : List api_Link} {A1 : Option Addr} {cap1 : Nat} {C1 : Nat → Prop} {w : World} {g : Nat → Nat} {out : (List Int) × Int} (N : Nat) (r0 : Nat) (hp1 : RdS kd_api_Link w g C1 A1 cap1 p1) (hC1 : ∀ c, C1 c → c < N) (hr0 : r0 + 2 ≤ N) (H : ref24_Order.f p0 p1 = some out) :
  Calls Try.prog 42 #[.int .i64 p0, .slice A1 p1.length cap1] w (fun e w' => ∃ v, e = .returned v ∧ ∃ (g' : Nat → Nat) (A_r0 : Option Addr) (cap_r0 : Nat), v = .tuple #[.slice A_r0 out.1.length cap_r0, .int .i64 out.2] ∧ OwS (kint .i64) 3 w' g' r0 A_r0 cap_r0 out.1 ∧ Fr (fun q => (r0 ≤ q ∧ q < r0 + 2) ∨ N ≤ q) w g w' g') := by
 unfold ref24_Order.f at H
 refine calls_enter Try.func42 rfl Try.ntmps42 rfl (fun a hS => ?_)
 replace hS : Sl 22 a [(0, .int .i64 p0), (1, .slice A1 p1.length cap1)] := hS
 have hF : Fr (fun q => (r0 ≤ q ∧ q < r0 + 2) ∨ N ≤ q) w g w g := Fr.refl _ _ _
 refine c_pure [(0, .int .i64 p0), (1, .slice A1 p1.length cap1)] (fun R hR => st_val hS rfl rfl rfl (r_assign hS rfl rfl) fun a1 hS1 => st_val hS1 rfl rfl rfl (r_assign hS1 rfl rfl) fun a2 hS2 => wpList_nil (hR _ (hS2.re ⟨rfl, rfl, trivial⟩))) ?_
 clear hS
 clear a
 intro a hS
 refine wp_seq ?_
 obtain ⟨r5, hr6, H⟩ := bind_el H
 refine c_region (fun K hK => ?_)
 refine st_val hS rfl rfl rfl (r_move hS rfl rfl) fun a3 hS3 => st_val hS3 rfl rfl rfl (r_move hS3 rfl rfl) fun a4 hS4 => ?_
 refine st_enter hS4 rfl rfl rfl (r_call hS4 rfl rfl (by kernel_rfl)) (ref24_Check.calls (C1 := C1) (p0 := p0) (p1 := p1) (g := g) (N + 4)  hp1 (fun q (hq : C1 q) => by have := hC1 q hq; omega) hr6) ?_
 rintro _ a7 w8 ⟨g8, rfl, F8⟩ hS7
 replace hp1 := RdS.fr hp1 F8 (by decide) (fun q (hq : C1 q) (hm : N + 4 ≤ q) => by have := hC1 q hq; omega)
 replace hF := hF.trans F8 (fun c' (hm : N + 4 ≤ c') => by show (r0 ≤ c' ∧ c' < r0 + 2) ∨ N ≤ c'; omega)
 refine st_val hS7 rfl rfl rfl (r_assign hS7 rfl rfl) fun a9 hS9 => wpList_nil (hK _ _ ?_)
 replace hS : Sl 22 _ [(0, .int .i64 p0), (1, .slice A1 p1.length cap1), (6, .int .i64 r5)] := hS9.re ⟨rfl, rfl, rfl, trivial⟩
 clear hK K
 try clear hS3 hS4 hS7 hS9
 obtain ⟨a, ha⟩ : ∃ a', a' = a9 := ⟨_, rfl⟩
 rw [← ha] at hS ⊢; clear ha
 refine c_pure [(0, .int .i64 p0), (1, .slice A1 p1.length cap1), (6, .int .i64 r5), (13, .bool (r5 != 0))] (fun R hR => st_val hS rfl rfl rfl (r_move hS rfl rfl) fun a10 hS10 => st_val hS10 rfl rfl rfl (r_bin hS10 rfl rfl rfl b_neq) fun a11 hS11 => wpList_nil (hR _ (hS11.re ⟨rfl, rfl, rfl, rfl, trivial⟩))) ?_
 clear hS
 clear a
 intro a hS
 refine c_cond hS rfl (fun hb12 => ?_) (fun hb12 => ?_)
 ·replace H := ite_t hb12 H
  refine c_pure [(4, .slice none 0 0), (5, .int .i64 r5)] (fun R hR => st_val hS rfl rfl rfl (r_move hS rfl rfl) fun a13 hS13 => st_val hS13 rfl rfl rfl (r_assign hS13 rfl rfl) fun a14 hS14 => st_val hS14 rfl rfl rfl (r_assign hS14 rfl rfl) fun a15 hS15 => wpList_nil (hR _ (hS15.re ⟨rfl, rfl, trivial⟩))) ?_
  clear hS
  clear a
  intro a hS
  refine wp_ret ?_
  have e := Option.some.inj H
  subst e
  repeat (with_reducible first | refine then_ret ?_ | refine inBlock_ret ?_)
  exact c_ret2 hS Try.results42 rfl rfl ⟨_, rfl, g8, none, 0, rfl, OwS.nil (kint .i64) 3 w8 g8 r0, hF⟩
 ·replace H := ite_f hb12 H
  refine wp_skip ?_
  change Code.wp _ _ _ _ _
  obtain ⟨r18, hr19, H⟩ := bind_el H
  refine c_region (fun K hK => ?_)
  refine st_val hS rfl rfl rfl (r_move hS rfl rfl) fun a16 hS16 => st_val hS16 rfl rfl rfl (r_move hS16 rfl rfl) fun a17 hS17 => ?_
  refine st_enter hS17 rfl rfl rfl (r_call hS17 rfl rfl (by kernel_rfl)) (ref24_remove.calls (C1 := C1) (p0 := p0) (p1 := p1) (g := g8) (N + 4) (N + 0) (N + 2) hp1 (fun q (hq : C1 q) => by have := hC1 q hq; omega) (by omega) (by omega) (by omega) hr19) ?_
  rintro _ a28 w29 ⟨g29, A20, cap21, A24, cap25, rfl, h22, h26, F29⟩ hS28
  replace hp1 := RdS.fr hp1 F29 (by decide) (fun q (hq : C1 q) (hm : (N + 0 ≤ q ∧ q < N + 0 + 2) ∨ (N + 2 ≤ q ∧ q < N + 2 + 2) ∨ N + 4 ≤ q) => by have := hC1 q hq; omega)
  replace hF := hF.trans F29 (fun c' (hm : (N + 0 ≤ c' ∧ c' < N + 0 + 2) ∨ (N + 2 ≤ c' ∧ c' < N + 2 + 2) ∨ N + 4 ≤ c') => by show (r0 ≤ c' ∧ c' < r0 + 2) ∨ N ≤ c'; omega)
  refine st_val hS28 rfl rfl rfl (r_move hS28 rfl rfl) fun a30 hS30 => st_val hS30 rfl rfl rfl (r_extract hS30 rfl rfl rfl) fun a31 hS31 => st_val hS31 rfl rfl rfl (r_extract hS31 rfl rfl rfl) fun a32 hS32 => st_val hS32 rfl rfl rfl (r_assign hS32 rfl rfl) fun a33 hS33 => st_val hS33 rfl rfl rfl (r_assign hS33 rfl rfl) fun a34 hS34 => wpList_nil (hK _ _ ?_)
  replace hS : Sl 22 _ [(7, .slice A20 r18.1.length cap21)] := hS34.re ⟨rfl, trivial⟩
  clear hK K
  try clear hS16 hS17 hS28 hS30 hS31 hS32 hS33 hS34
  obtain ⟨a, ha⟩ : ∃ a', a' = a34 := ⟨_, rfl⟩
  rw [← ha] at hS ⊢; clear ha
  refine c_pure [(4, .slice A20 r18.1.length cap21), (5, .int .i64 0)] (fun R hR => st_val hS rfl rfl rfl (r_move hS rfl rfl) fun a35 hS35 => st_val hS35 rfl rfl rfl (r_assign hS35 rfl rfl) fun a36 hS36 => st_val hS36 rfl rfl rfl (r_assign hS36 rfl rfl) fun a37 hS37 => wpList_nil (hR _ (hS37.re ⟨rfl, rfl, trivial⟩))) ?_
  clear hS
  clear a
  intro a hS
  refine wp_ret ?_
  have e := Option.some.inj H
  subst e
  have F38 := Fr.recol2 w29 g29 (N + 0) r0
  replace h22 := h22.recol2 r0
  replace hF := hF.trans F38 (fun c' (hm : c' = N + 0 ∨ c' = N + 0 + 1) => by show (r0 ≤ c' ∧ c' < r0 + 2) ∨ N ≤ c'; omega)
  repeat (with_reducible first | refine then_ret ?_ | refine inBlock_ret ?_)
  exact c_ret2 hS Try.results42 rfl rfl ⟨_, rfl, (recol2 g29 (N + 0) r0), A20, cap21, rfl, h22, hF⟩


end Go.Proofs.Ythmjgadmadlpkaa.Sim

namespace Go.Proofs.Ythmjgadmadlpkaa.Sim
open Go
set_option linter.unusedVariables false
set_option maxRecDepth 100000

theorem invalid_ok (n : Int) (ls : List api_Link) (h : ls.length ≤ maxLen) : ref24_invalid.f n ls = some ((((decide (n < 0)) || (decide (128 < n))) || (decide (1024 < (ls.length : Int)))) || ls.any (badL n)) := by
  unfold ref24_invalid.f
  by_cases h0 : (((decide (n < 0)) || (decide (128 < n))) || (decide (1024 < (ls.length : Int)))) = true
  · rw [if_pos h0, h0]; rfl
  · rw [if_neg h0]
    rw [search_ok (L := ref24_invalid.l0 n ls) ls (badL n) true h (fun k i => by rw [ref24_invalid.l0]; rfl)]
    rw [Bool.not_eq_true] at h0
    rw [h0, Bool.false_or]
    cases ls.any (badL n) <;> rfl

theorem basic_ok (n : Int) (ls : List api_Link) (h : ls.length ≤ maxLen) : ref24_Basic.f n ls = some (vcode n ls) := by
  unfold ref24_Basic.f vcode
  rw [invalid_ok n ls h]
  simp only [Option.bind_some]
  by_cases h0 : (((decide (n < 0)) || (decide (128 < n))) || (decide (1024 < (ls.length : Int)))) = true
  · rw [if_pos (by rw [h0]; rfl), if_pos h0]
  · rw [if_neg h0]
    have hlen : ls.length ≤ 1024 := by simp at h0; omega
    rw [Bool.not_eq_true] at h0
    rw [h0, Bool.false_or]
    by_cases hb : ls.any (badL n) = true
    · rw [if_pos hb, if_pos hb]
    · rw [if_neg hb, if_neg hb]
      have key : ref24_Basic.l0 ls FUEL 0 = some (if ls.Nodup then .nxt () else .out 7) := by
        refine loop_c (L := fun k (s : Unit) i => ref24_Basic.l0 ls k i) ls.length (fun i s => (ls.take i).Nodup) (fun o => o = some (if ls.Nodup then .nxt () else .out 7)) ?_ ?_ FUEL 0 () (Nat.zero_le _) (FUEL_pos (by omega)) (by simp)
        · intro k s i hi hI
          rw [ref24_Basic.l0, if_pos (by simp; omega)]
          have inner : ref24_Basic.l1 ls (i : Int) FUEL 0 = some (if ls[i] ∈ ls.take i then .out (.out 7) else .nxt ()) := by
            refine loop_c (L := fun k (s : Unit) j => ref24_Basic.l1 ls (i : Int) k j) i (fun j s => ls[i] ∉ ls.take j) (fun o => o = some (if ls[i] ∈ ls.take i then .out (.out 7) else .nxt ())) ?_ ?_ FUEL 0 () (Nat.zero_le _) (FUEL_pos (by omega)) (by simp)
            · intro k s j hj hJ
              rw [ref24_Basic.l1, if_pos (by simp; omega), idx_get hi, idx_get (by omega)]
              simp only [Option.bind_some]
              by_cases e : ls[i] = ls[j]
              · rw [if_pos (by simpa using e)]
                refine .inr ?_
                rw [if_pos]
                rw [e]
                exact List.mem_take_iff_getElem.2 ⟨j, by omega, rfl⟩
              · rw [if_neg (by simpa using e)]
                refine .inl ⟨(), ?_, by rw [wi_succ (by omega)]⟩
                rw [mem_take_succ (by omega)]
                exact fun h => h.elim hJ e
            · intro k s hJ
              rw [ref24_Basic.l1, if_neg (by simp), if_neg hJ]
          rw [inner]
          simp only [Option.bind_some]
          by_cases hm : ls[i] ∈ ls.take i
          · rw [if_pos hm]
            refine .inr ?_
            rw [if_neg (fun hn => (nodup_step hi hI).1 (nodup_take (i + 1) hn) hm)]; rfl
          · rw [if_neg hm]
            exact .inl ⟨(), (nodup_step hi hI).2 hm, by rw [wi_succ (by omega)]; rfl⟩
        · intro k s hI
          rw [ref24_Basic.l0, if_neg (by simp)]
          rw [List.take_length] at hI
          rw [if_pos hI]
      rw [key]
      by_cases hn : ls.Nodup
      · rw [if_pos hn, if_pos hn]; rfl
      · rw [if_neg hn, if_neg hn]; rfl

/-! ### the reference's way -/

/-- gone says which nodes are in out. -/
def Says (n : Nat) (gone : List Bool) (out : List Int) : Prop := gone.length = n ∧ ∀ v : Int, 0 ≤ v → v < n → idx gone v = some (decide (v ∈ out))

theorem Says.nil (n : Nat) : Says n (List.replicate n false) [] := ⟨by simp, fun v h0 h1 => by rw [idx_replicate h0 h1]; simp⟩
theorem Says.snoc {n : Nat} {gone : List Bool} {out : List Int} (h : Says n gone out) {v : Int} (h0 : 0 ≤ v) : Says n (upd gone v true) (out ++ [v]) := by
  refine ⟨by rw [upd_length]; exact h.1, fun u u0 u1 => ?_⟩
  rw [idx_upd (xs := gone) h0 u0 (by rw [h.1]; exact u1), h.2 u u0 u1]
  by_cases e : v = u
  · subst e; simp
  · have e' : ¬ u = v := fun h => e h.symm
    rw [if_neg e]; simp [e']

/-- What a search from above for the least free node has found, down to j. -/
def Down (n : Nat) (ls : List api_Link) (out : List Int) (j : Nat) (next : Int) : Prop :=
  (next = -1 ∧ ∀ v : Int, j ≤ v → v < n → free ls out v = false) ∨ (j ≤ next ∧ next < n ∧ free ls out next = true ∧ ∀ v : Int, j ≤ v → v < next → free ls out v = false)
theorem Down.step {n : Nat} {ls : List api_Link} {out : List Int} {j : Nat} {next : Int} (h : Down n ls out (j + 1) next) (hj : j < n) : Down n ls out j (if free ls out (j : Int) = true then (j : Int) else next) := by
  by_cases hf : free ls out (j : Int) = true
  · rw [if_pos hf]; exact .inr ⟨Int.le_refl _, by omega, hf, fun v h1 h2 => by omega⟩
  · rw [if_neg hf]
    rw [Bool.not_eq_true] at hf
    have at_ : ∀ v : Int, (j : Int) ≤ v → v = j ∨ ((j + 1 : Nat) : Int) ≤ v := fun v h => by omega
    rcases h with ⟨h1, h2⟩ | ⟨h1, h2, h3, h4⟩
    · exact .inl ⟨h1, fun v h3 h4 => by rcases at_ v h3 with rfl | h; exact hf; exact h2 v h h4⟩
    · exact .inr ⟨by omega, h2, h3, fun v h5 h6 => by rcases at_ v h5 with rfl | h; exact hf; exact h4 v h h6⟩
theorem Down.zero {n : Nat} {ls : List api_Link} {out : List Int} {next : Int} (h : Down n ls out 0 next) : (next = -1 ∧ least n ls out = none) ∨ (0 ≤ next ∧ least n ls out = some next) := by
  rcases h with ⟨h1, h2⟩ | ⟨h1, h2, h3, h4⟩
  · exact .inl ⟨h1, least_none.2 (fun u h0 hn => h2 u (by omega) hn)⟩
  · exact .inr ⟨by omega, least_of (by omega) h2 h3 (fun u h0 hu => h4 u (by omega) hu)⟩

/-! ### the matrix -/

structure Mat (n : Nat) (m : List (List Bool)) (R : Int → Int → Bool) : Prop where
  len : m.length = n
  row : ∀ a : Int, 0 ≤ a → a < n → ∃ r, idx m a = some r ∧ r.length = n ∧ ∀ b : Int, 0 ≤ b → b < n → idx r b = some (R a b)

theorem Mat.congr {n : Nat} {m : List (List Bool)} {R R' : Int → Int → Bool} (h : Mat n m R) (he : ∀ a b : Int, 0 ≤ a → a < n → 0 ≤ b → b < n → R a b = R' a b) : Mat n m R' :=
  ⟨h.len, fun a a0 a1 => by
    obtain ⟨r, h1, h2, h3⟩ := h.row a a0 a1
    exact ⟨r, h1, h2, fun b b0 b1 => by rw [h3 b b0 b1, he a b a0 a1 b0 b1]⟩⟩
theorem Mat.set {n : Nat} {m : List (List Bool)} {R : Int → Int → Bool} (h : Mat n m R) {a b : Int} (a0 : 0 ≤ a) (a1 : a < n) (b0 : 0 ≤ b) (b1 : b < n) {r : List Bool} (hr : idx m a = some r) : Mat n (upd m a (upd r b true)) (fun x y => R x y || (decide (x = a) && decide (y = b))) := by
  obtain ⟨r', h1, h2, h3⟩ := h.row a a0 a1
  rw [hr] at h1; injection h1 with h1; subst h1
  refine ⟨by rw [upd_length]; exact h.len, fun x x0 x1 => ?_⟩
  rw [idx_upd (xs := m) a0 x0 (by rw [h.len]; exact x1)]
  by_cases e : a = x
  · subst e
    refine ⟨_, by rw [if_pos rfl], by rw [upd_length]; exact h2, fun y y0 y1 => ?_⟩
    rw [idx_upd (xs := r) b0 y0 (by rw [h2]; exact y1), h3 y y0 y1]
    by_cases e2 : b = y
    · subst e2; simp
    · have e3 : ¬ y = b := fun h => e2 h.symm
      simp [e2, e3]
  · obtain ⟨r2, q1, q2, q3⟩ := h.row x x0 x1
    have e3 : ¬ x = a := fun h => e h.symm
    refine ⟨r2, by rw [if_neg e]; exact q1, q2, fun y y0 y1 => ?_⟩
    rw [q3 y y0 y1]; simp [e3]

theorem matrix_l0 {n : Nat} (hn : n ≤ 128) : ∃ m, ref24_Matrix.l0 (n : Int) FUEL (List.replicate n []) 0 = some m ∧ Mat n m (fun _ _ => false) := by
  refine loop_c (L := fun k (s : List (List Bool)) i => ref24_Matrix.l0 (n : Int) k s i) n (fun i s => s.length = n ∧ ∀ a : Int, 0 ≤ a → a < i → ∃ r, idx s a = some r ∧ r.length = n ∧ ∀ b : Int, 0 ≤ b → b < n → idx r b = some false) (fun o => ∃ m, o = some m ∧ Mat n m (fun _ _ => false)) ?_ ?_ FUEL 0 _ (Nat.zero_le _) (FUEL_pos (by omega)) ⟨by simp, fun a h0 h1 => by omega⟩
  · rintro k s i hi ⟨h1, h2⟩
    rw [ref24_Matrix.l0, if_pos (by simp; omega), mk_ok (by omega), idx_get (by omega)]
    simp only [Option.bind_some]
    refine .inl ⟨upd s (i : Int) (List.replicate n false), ⟨by rw [upd_length]; exact h1, fun a a0 a1 => ?_⟩, by rw [wi_succ (by omega)]⟩
    rw [idx_upd (xs := s) (by omega) a0 (by omega)]
    by_cases e : (i : Int) = a
    · exact ⟨_, by rw [if_pos e], by simp, fun b b0 b1 => idx_replicate b0 b1⟩
    · obtain ⟨r, q1, q2⟩ := h2 a a0 (by omega)
      exact ⟨r, by rw [if_neg e]; exact q1, q2⟩
  · rintro k s ⟨h1, h2⟩
    rw [ref24_Matrix.l0, if_neg (by simp)]
    exact ⟨s, rfl, h1, h2⟩

theorem matrix_l1 {n : Nat} {ls : List api_Link} (g : GoodG n ls) {m0 : List (List Bool)} (h0 : Mat n m0 (fun _ _ => false)) : ∃ m, ref24_Matrix.l1 ls FUEL m0 0 = some m ∧ Mat n m (fun a b => decide (api_Link.mk a b ∈ ls)) := by
  have hl := g.len
  refine loop_c (L := fun k (s : List (List Bool)) i => ref24_Matrix.l1 ls k s i) ls.length (fun i s => Mat n s (fun a b => decide (api_Link.mk a b ∈ ls.take i))) (fun o => ∃ m, o = some m ∧ Mat n m (fun a b => decide (api_Link.mk a b ∈ ls))) ?_ ?_ FUEL 0 m0 (Nat.zero_le _) (FUEL_pos (by omega)) (h0.congr (fun a b _ _ _ _ => by simp))
  · intro k s i hi hm
    have hmem := List.getElem_mem hi
    have hc := g.c0 _ hmem
    have hs := g.s0 _ hmem
    obtain ⟨r, q1, q2, q3⟩ := hm.row _ hc.1 hc.2
    rw [ref24_Matrix.l1, if_pos (by simp; omega), idx_get hi]
    simp only [Option.bind_some]
    rw [q1]
    simp only [Option.bind_some]
    rw [q3 _ hs.1 hs.2]
    simp only [Option.bind_some]
    refine .inl ⟨_, (hm.set hc.1 hc.2 hs.1 hs.2 q1).congr (fun a b _ _ _ _ => ?_), by rw [wi_succ (by omega)]⟩
    rw [Bool.eq_iff_iff]
    simp only [Bool.or_eq_true, Bool.and_eq_true, decide_eq_true_eq, mem_take_succ hi]
    constructor
    · rintro (h | ⟨rfl, rfl⟩)
      · exact .inl h
      · exact .inr rfl
    · rintro (h | h)
      · exact .inl h
      · rw [← h]; exact .inr ⟨rfl, rfl⟩
  · intro k s hm
    rw [ref24_Matrix.l1, if_neg (by simp)]
    rw [List.take_length] at hm
    exact ⟨s, rfl, hm⟩

theorem matrix_l4 {n : Nat} (hn : n ≤ 128) {R : Int → Int → Bool} {k a : Int} (k0 : 0 ≤ k) (k1 : k < n) (a0 : 0 ≤ a) (a1 : a < n) {m0 : List (List Bool)} (h0 : Mat n m0 R) : ∃ m, ref24_Matrix.l4 (n : Int) k a FUEL m0 0 = some m ∧ Mat n m (fun x y => R x y || (decide (x = a) && R k y)) := by
  refine loop_c (L := fun q (s : List (List Bool)) i => ref24_Matrix.l4 (n : Int) k a q s i) n (fun i s => Mat n s (fun x y => R x y || (decide (x = a) && decide (y < (i : Int)) && R k y))) (fun o => ∃ m, o = some m ∧ Mat n m (fun x y => R x y || (decide (x = a) && R k y))) ?_ ?_ FUEL 0 m0 (Nat.zero_le _) (FUEL_pos (by omega)) (h0.congr (fun x y x0 x1 y0 y1 => by
      have : ¬ y < 0 := by omega
      simp [this]))
  · intro q s i hi hm
    obtain ⟨r, r1, r2, r3⟩ := hm.row k k0 k1
    rw [ref24_Matrix.l4, if_pos (by simp; omega), r1]
    simp only [Option.bind_some]
    rw [r3 (i : Int) (by omega) (by omega)]
    simp only [Option.bind_some, Int.lt_irrefl, decide_false, Bool.and_false, Bool.false_and, Bool.or_false]
    by_cases hr : R k (i : Int) = true
    · rw [if_pos hr]
      obtain ⟨ra, t1, t2, t3⟩ := hm.row a a0 a1
      rw [t1]
      simp only [Option.bind_some]
      rw [t3 (i : Int) (by omega) (by omega)]
      simp only [Option.bind_some]
      refine .inl ⟨_, (hm.set a0 a1 (b := (i : Int)) (by omega) (by omega) t1).congr (fun x y x0 x1 y0 y1 => ?_), by rw [wi_succ (by omega)]⟩
      rw [Bool.eq_iff_iff]
      simp only [Bool.or_eq_true, Bool.and_eq_true, decide_eq_true_eq]
      constructor
      · rintro ((h | ⟨⟨h1, h2⟩, h3⟩) | ⟨h1, h2⟩)
        · exact .inl h
        · exact .inr ⟨⟨h1, by omega⟩, h3⟩
        · exact .inr ⟨⟨h1, by omega⟩, by rw [h2]; exact hr⟩
      · rintro (h | ⟨⟨h1, h2⟩, h3⟩)
        · exact .inl (.inl h)
        · by_cases e : y = i
          · exact .inr ⟨h1, e⟩
          · exact .inl (.inr ⟨⟨h1, by omega⟩, h3⟩)
    · rw [if_neg hr]
      refine .inl ⟨s, hm.congr (fun x y x0 x1 y0 y1 => ?_), by rw [wi_succ (by omega)]; rfl⟩
      rw [Bool.eq_iff_iff]
      simp only [Bool.or_eq_true, Bool.and_eq_true, decide_eq_true_eq]
      constructor
      · rintro (h | ⟨⟨h1, h2⟩, h3⟩)
        · exact .inl h
        · exact .inr ⟨⟨h1, by omega⟩, h3⟩
      · rintro (h | ⟨⟨h1, h2⟩, h3⟩)
        · exact .inl h
        · by_cases e : y = i
          · subst e; exact absurd h3 hr
          · exact .inr ⟨⟨h1, by omega⟩, h3⟩
  · intro q s hm
    rw [ref24_Matrix.l4, if_neg (by simp)]
    exact ⟨s, rfl, hm.congr (fun x y x0 x1 y0 y1 => by simp [y1])⟩

theorem matrix_l3 {n : Nat} (hn : n ≤ 128) {R : Int → Int → Bool} {k : Int} (k0 : 0 ≤ k) (k1 : k < n) {m0 : List (List Bool)} (h0 : Mat n m0 R) : ∃ m, ref24_Matrix.l3 (n : Int) k FUEL m0 0 = some m ∧ Mat n m (fun x y => R x y || (R x k && R k y)) := by
  refine loop_c (L := fun q (s : List (List Bool)) i => ref24_Matrix.l3 (n : Int) k q s i) n (fun i s => Mat n s (fun x y => R x y || (decide (x < (i : Int)) && R x k && R k y))) (fun o => ∃ m, o = some m ∧ Mat n m (fun x y => R x y || (R x k && R k y))) ?_ ?_ FUEL 0 m0 (Nat.zero_le _) (FUEL_pos (by omega)) (h0.congr (fun x y x0 x1 y0 y1 => by
      have : ¬ x < 0 := by omega
      simp [this]))
  · intro q s i hi hm
    obtain ⟨r, r1, r2, r3⟩ := hm.row (i : Int) (by omega) (by omega)
    rw [ref24_Matrix.l3, if_pos (by simp; omega), r1]
    simp only [Option.bind_some]
    rw [r3 k k0 k1]
    simp only [Option.bind_some, Int.lt_irrefl, decide_false, Bool.false_and, Bool.or_false]
    by_cases hr : R (i : Int) k = true
    · rw [if_neg (by simp [hr])]
      obtain ⟨m', t1, t2⟩ := matrix_l4 hn k0 k1 (a := (i : Int)) (by omega) (by omega) hm
      rw [t1]
      refine .inl ⟨m', t2.congr (fun x y x0 x1 y0 y1 => ?_), by rw [wi_succ (by omega)]; rfl⟩
      rw [Bool.eq_iff_iff]
      simp only [Bool.or_eq_true, Bool.and_eq_true, decide_eq_true_eq]
      constructor
      · rintro ((h | ⟨⟨h1, h2⟩, h3⟩) | ⟨h1, h2⟩)
        · exact .inl h
        · exact .inr ⟨⟨by omega, h2⟩, h3⟩
        · refine .inr ⟨⟨by omega, by rw [h1]; exact hr⟩, ?_⟩
          rcases h2 with h2 | ⟨_, h2⟩ <;> exact h2
      · rintro (h | ⟨⟨h1, h2⟩, h3⟩)
        · exact .inl (.inl h)
        · by_cases e : x = i
          · exact .inr ⟨e, .inl h3⟩
          · exact .inl (.inr ⟨⟨by omega, h2⟩, h3⟩)
    · rw [if_pos (by simp [hr])]
      refine .inl ⟨s, hm.congr (fun x y x0 x1 y0 y1 => ?_), by rw [wi_succ (by omega)]; rfl⟩
      rw [Bool.eq_iff_iff]
      simp only [Bool.or_eq_true, Bool.and_eq_true, decide_eq_true_eq]
      constructor
      · rintro (h | ⟨⟨h1, h2⟩, h3⟩)
        · exact .inl h
        · exact .inr ⟨⟨by omega, h2⟩, h3⟩
      · rintro (h | ⟨⟨h1, h2⟩, h3⟩)
        · exact .inl h
        · by_cases e : x = i
          · subst e; exact absurd h2 hr
          · exact .inr ⟨⟨by omega, h2⟩, h3⟩
  · intro q s hm
    rw [ref24_Matrix.l3, if_neg (by simp)]
    exact ⟨s, rfl, hm.congr (fun x y x0 x1 y0 y1 => by simp [x1])⟩

theorem matrix_ok {n : Nat} {ls : List api_Link} (g : GoodG n ls) : ∃ m R, ref24_Matrix.f (n : Int) ls = some m ∧ Mat n m R ∧ ∀ a b : Int, R a b = true ↔ Path ls a b := by
  have hn := g.n128
  unfold ref24_Matrix.f
  rw [mk_ok (by omega)]
  simp only [Option.bind_some]
  obtain ⟨m1, e1, h1⟩ := matrix_l0 (n := n) hn
  rw [e1]
  simp only [Option.bind_some]
  obtain ⟨m2, e2, h2⟩ := matrix_l1 g h1
  rw [e2]
  simp only [Option.bind_some]
  have key : ∃ m, ref24_Matrix.l2 (n : Int) FUEL m2 0 = some m ∧ ∃ R, Mat n m R ∧ ∀ a b : Int, R a b = true ↔ Path ls a b := by
    refine loop_c (L := fun q (s : List (List Bool)) i => ref24_Matrix.l2 (n : Int) q s i) n
      (fun i s => ∃ R, Mat n s R ∧ (∀ a b : Int, R a b = true → Path ls a b) ∧ (∀ a b, api_Link.mk a b ∈ ls → R a b = true) ∧ ∀ j : Int, 0 ≤ j → j < i → ∀ a b : Int, R a j = true → R j b = true → R a b = true)
      (fun o => ∃ m, o = some m ∧ ∃ R, Mat n m R ∧ ∀ a b : Int, R a b = true ↔ Path ls a b) ?_ ?_ FUEL 0 m2 (Nat.zero_le _) (FUEL_pos (by omega)) ⟨_, h2, fun a b h => .one (by simpa using h), fun a b h => by simpa using h, fun j h0 h1 => by omega⟩
    · rintro q s i hi ⟨R, hm, s1, s2, s3⟩
      rw [ref24_Matrix.l2, if_pos (by simp; omega)]
      obtain ⟨m', t1, t2⟩ := matrix_l3 hn (k := (i : Int)) (by omega) (by omega) hm
      rw [t1]
      refine .inl ⟨m', ⟨_, t2, ?_, ?_, ?_⟩, by rw [wi_succ (by omega)]; rfl⟩
      all_goals simp only [Bool.or_eq_true, Bool.and_eq_true]
      · rintro a b (h | ⟨h1, h2⟩)
        · exact s1 a b h
        · exact (s1 _ _ h1).trans (s1 _ _ h2)
      · intro a b h; exact .inl (s2 a b h)
      · intro j j0 j1 a b ha hb
        by_cases e : j = i
        · subst e
          have ha' : R a (i : Int) = true := by rcases ha with h | ⟨h, _⟩ <;> exact h
          have hb' : R (i : Int) b = true := by rcases hb with h | ⟨_, h⟩ <;> exact h
          exact .inr ⟨ha', hb'⟩
        · have c := s3 j j0 (by omega)
          rcases ha with h | ⟨h1, h2⟩
          · rcases hb with h' | ⟨h3, h4⟩
            · exact .inl (c a b h h')
            · exact .inr ⟨c a i h h3, h4⟩
          · rcases hb with h' | ⟨h3, h4⟩
            · exact .inr ⟨h1, c i b h2 h'⟩
            · exact .inr ⟨h1, h4⟩
    · rintro q s ⟨R, hm, s1, s2, s3⟩
      rw [ref24_Matrix.l2, if_neg (by simp)]
      refine ⟨s, rfl, R, hm, fun a b => ⟨s1 a b, fun h => ?_⟩⟩
      induction h with
      | one h => exact s2 _ _ h
      | more h _ ih =>
        have := g.s0 _ h
        exact s3 _ this.1 this.2 _ _ (s2 _ _ h) ih
  obtain ⟨m, e3, R, h3, h4⟩ := key
  rw [e3]
  exact ⟨m, R, rfl, h3, h4⟩

theorem refcheck_good {n : Nat} {ls : List api_Link} (g : GoodG n ls) : (ref24_Matrix.f (n : Int) ls).bind (fun r16 => (ref24_Check.l0 (n : Int) r16 FUEL 0 : Option (Fl (Int) (Unit))).bind fun o26 => o26.go fun _ => some 0) = some (if (ord n ls).length < n then 18 else 0) := by
  have hn := g.n128
  obtain ⟨m, R, e1, hm, hR⟩ := matrix_ok g
  rw [e1]
  simp only [Option.bind_some]
  have key : ref24_Check.l0 (n : Int) m FUEL 0 = some (if (ord n ls).length < n then .out 18 else .nxt ()) := by
    refine loop_c (L := fun q (_ : Unit) i => ref24_Check.l0 (n : Int) m q i) n (fun i _ => ∀ a : Int, 0 ≤ a → a < i → ¬ Path ls a a) (fun o => o = some (if (ord n ls).length < n then .out 18 else .nxt ())) ?_ ?_ FUEL 0 () (Nat.zero_le _) (FUEL_pos (by omega)) (fun a h0 h1 => by omega)
    · intro q _ i hi hI
      obtain ⟨r, r1, r2, r3⟩ := hm.row (i : Int) (by omega) (by omega)
      rw [ref24_Check.l0, if_pos (by simp; omega), r1]
      simp only [Option.bind_some]
      rw [r3 (i : Int) (by omega) (by omega)]
      simp only [Option.bind_some]
      by_cases hc : R (i : Int) (i : Int) = true
      · rw [if_pos hc]
        refine .inr ?_
        rw [if_pos]
        refine Classical.byContradiction fun hno => ?_
        exact (ord_run n ls).1.acyclic (i : Int) (ord_full hno (by omega) (by omega)) ((hR _ _).1 hc)
      · rw [if_neg hc]
        refine .inl ⟨(), fun a a0 a1 => ?_, by rw [wi_succ (by omega)]⟩
        by_cases e : a = i
        · subst e; exact fun h => hc ((hR _ _).2 h)
        · exact hI a a0 (by omega)
    · intro q _ hI
      rw [ref24_Check.l0, if_neg (by simp)]
      rw [if_neg]
      intro h
      obtain ⟨i, i0, i1, hp⟩ := ord_cyclic g h
      exact hI i i0 i1 hp
  rw [key]
  split <;> rfl

theorem refcheck_ok (p : Int) (ls : List api_Link) (h : ls.length ≤ maxLen) : ref24_Check.f p ls = some (ccode p ls) := by
  unfold ref24_Check.f
  rw [basic_ok p ls h]
  simp only [Option.bind_some]
  by_cases hv : vcode p ls = 0
  · obtain ⟨n, rfl, g⟩ := vcode_good hv
    rw [if_neg (by simp [hv]), ccode_good g]
    exact refcheck_good g
  · rw [if_pos (by simpa using hv)]
    unfold ccode; rw [if_neg hv]

end Go.Proofs.Ythmjgadmadlpkaa.Sim

namespace Go.Proofs.Ythmjgadmadlpkaa.Sim
open Go
set_option linter.unusedVariables false
set_option maxRecDepth 100000

def icode (p : Int) (ls : List api_Link) (dl : List Int) (w : Int) : Int :=
  if ccode p ls ≠ 0 then ccode p ls else if (dl.length : Int) = p ∧ dl.any big = false ∧ 0 ≤ w ∧ w ≤ 16 then 0 else 1
theorem input31_ok (p : Int) (ls : List api_Link) (dl : List Int) (w : Int) (h : ls.length ≤ maxLen) (hd : dl.length ≤ maxLen) : ref31_input.f p ls dl w = some (icode p ls dl w) := by
  unfold ref31_input.f
  rw [refcheck_ok p ls h, Option.bind_some]
  by_cases h1 : ccode p ls = 0
  · have e : icode p ls dl w = if (dl.length : Int) = p ∧ dl.any big = false ∧ 0 ≤ w ∧ w ≤ 16 then 0 else 1 := by unfold icode; rw [if_neg (by simp [h1])]
    rw [e, if_neg (by simp [h1])]
    by_cases h2 : (dl.length : Int) = p ∧ 0 ≤ w ∧ w ≤ 16
    · obtain ⟨h2, h3, h4⟩ := h2
      subst h2
      rw [if_neg (by simp; omega), search_ok (L := ref31_input.l0 (dl.length : Int) dl) dl big 1 hd (fun k i => by rw [ref31_input.l0]; rfl)]
      cases h5 : dl.any big
      · simp only [Bool.false_eq_true, if_false, Option.bind_some, Fl.go]
        rw [if_pos (by simp; omega)]
      · simp only [if_true, Option.bind_some, Fl.go]
        rw [if_neg (fun c => by cases c.2.1)]
    · rw [if_pos (by simp; omega), if_neg (fun c => h2 ⟨c.1, c.2.2⟩)]
  · have e : icode p ls dl w = ccode p ls := by unfold icode; rw [if_pos h1]
    rw [e, if_pos (by simpa using h1)]
/-- The codes of both. -/
theorem icode_scode {p : Int} {ls : List api_Link} {dl : List Int} {w : Int} : (icode p ls dl w ≠ 0 → scode p ls dl w = icode p ls dl w) ∧ (icode p ls dl w = 0 → w = 0 → scode p ls dl w = 1) ∧ (icode p ls dl w = 0 → w ≠ 0 → scode p ls dl w = 0) := by
  by_cases h1 : ccode p ls = 0
  · have e : icode p ls dl w = if (dl.length : Int) = p ∧ dl.any big = false ∧ 0 ≤ w ∧ w ≤ 16 then 0 else 1 := by unfold icode; rw [if_neg (by simp [h1])]
    have e' : scode p ls dl w = if (dl.length : Int) = p ∧ dl.any big = false ∧ 1 ≤ w ∧ w ≤ 16 then 0 else 1 := by unfold scode; rw [if_neg (by simp [h1])]
    rw [e, e']
    by_cases c : (dl.length : Int) = p ∧ dl.any big = false ∧ 0 ≤ w ∧ w ≤ 16
    · rw [if_pos c]
      refine ⟨fun h => absurd rfl h, fun _ h0 => ?_, fun _ h0 => ?_⟩
      · rw [if_neg (fun c => by omega)]
      · rw [if_pos ⟨c.1, c.2.1, by omega, c.2.2.2⟩]
    · rw [if_neg c, if_neg (fun c' => c ⟨c'.1, c'.2.1, by omega, c'.2.2.2⟩)]
      exact ⟨fun _ => rfl, fun h => absurd h (by decide), fun h => absurd h (by decide)⟩
  · have e : icode p ls dl w = ccode p ls := by unfold icode; rw [if_pos h1]
    have e' : scode p ls dl w = ccode p ls := by unfold scode; rw [if_pos h1]
    rw [e, e']
    exact ⟨fun _ => rfl, fun h => absurd h h1, fun h => absurd h h1⟩

structure RP (n : Nat) (ls : List api_Link) (p : ref31_plan) (m : Ms) : Prop where
  l : p.links = ls
  t : p.now = m.t
  at_ : ∃ A, RepV n p.at_ A ∧ ∀ d : Int, 0 ≤ d → d < n → (m.b d = false ∧ A d = -1) ∨ (m.b d = true ∧ 0 ≤ A d ∧ idx p.slots (A d) = some (m.s d))

section
variable {n w : Nat} {ls : List api_Link} {du : Int → Int} {p : ref31_plan} {m : Ms}

theorem ended_ok (R : RP n ls p m) {d : Int} (d0 : 0 ≤ d) (d1 : d < n) : ref31_plan_ended.f p d = some (over m d) := by
  obtain ⟨A, h1, h2⟩ := R.at_
  unfold ref31_plan_ended.f
  rw [h1.2 d d0 d1, Option.bind_some]
  unfold over
  rcases h2 d d0 d1 with ⟨a, b⟩ | ⟨a, b, c⟩
  · rw [if_neg (by simp; omega), a]; rfl
  · rw [if_pos (by simpa using b), c, Option.bind_some, Option.bind_some, a, R.t]; rfl

theorem refready_ok (g : GoodG n ls) (R : RP n ls p m) : ref31_plan_ready.f p = some (nextD n ls m) := by
  have hn := g.n128
  have hll := g.len
  obtain ⟨A, h1, h2⟩ := R.at_
  have hl1 : ∀ d : Int, 0 ≤ d → d < n → ref31_plan_ready.l1 p d FUEL (decide (A d < 0)) 0 = some (rdy ls m d) := fun d d0 d1 => by
    have hA : decide (A d < 0) = !m.b d := by
      rcases h2 d d0 d1 with ⟨a, b⟩ | ⟨a, b, c⟩
      · rw [a, b]; rfl
      · rw [a]; simp; exact b
    rw [hA]
    refine loop_c (L := fun k (s : Bool) i => ref31_plan_ready.l1 p d k s i) ls.length (fun i s => s = (!m.b d && (ls.take i).all (fun l => !(l.Consumer == d) || over m l.Supplier))) (fun o => o = some (rdy ls m d)) ?_ ?_ FUEL 0 _ (Nat.zero_le _) (FUEL_pos (by omega)) (by simp)
    · rintro k s i hi rfl
      have hm := List.getElem_mem hi
      have hs := g.s0 _ hm
      rw [ref31_plan_ready.l1, R.l]
      cases hc : (!m.b d && (ls.take i).all (fun l => !(l.Consumer == d) || over m l.Supplier))
      · rw [if_neg (by simp)]
        refine .inr ?_
        congr 1
        unfold rdy
        have : (!m.b d && ls.all (fun l => !(l.Consumer == d) || over m l.Supplier)) = false := by
          rw [Bool.and_eq_false_iff] at hc ⊢
          rcases hc with h | h
          · exact .inl h
          · refine .inr ?_
            rw [List.all_eq_false] at h ⊢
            obtain ⟨x, hx, hx'⟩ := h
            exact ⟨x, List.mem_of_mem_take hx, hx'⟩
        exact this.symm
      · rw [if_pos (by simp; omega), idx_get hi, Option.bind_some, wi_succ (by omega)]
        refine .inl ⟨_, rfl, ?_⟩
        have hnew : (!m.b d && (ls.take (i + 1)).all (fun l => !(l.Consumer == d) || over m l.Supplier)) = (!(ls[i].Consumer == d) || over m ls[i].Supplier) := by
          rw [List.take_succ_eq_append_getElem hi, List.all_append, ← Bool.and_assoc, hc]; simp
        rw [hnew]
        by_cases e : ls[i].Consumer = d
        · rw [if_neg (by simpa using e), ended_ok R hs.1 hs.2, Option.bind_some, Option.bind_some]
          congr 1; simp [e]
        · rw [if_pos (by simpa using e), Option.bind_some]
          congr 1; simp [e]
    · rintro k s rfl
      rw [ref31_plan_ready.l1, R.l, if_neg (by simp), List.take_length]; rfl
  unfold ref31_plan_ready.f
  rw [find_ok (L := ref31_plan_ready.l0 p) n (rdy ls m) (fun i => i) (by omega) (fun k i hi => by
    rw [ref31_plan_ready.l0, h1.1, if_pos (by simp; omega), h1.2 (i : Int) (by omega) (by omega), Option.bind_some, hl1 _ (by omega) (by omega), Option.bind_some, wi_succ (by omega)]
    cases rdy ls m (i : Int)
    · rfl
    · rfl) (fun k => by rw [ref31_plan_ready.l0, h1.1, if_neg (by simp)]), Option.bind_some]
  show _ = some (fst n (rdy ls m))
  rcases fst_spec (n := n) (P := rdy ls m) with ⟨e, _⟩ | ⟨a, _⟩
  · rw [e]; rfl
  · rw [if_pos a]; rfl

theorem reffree_ok (hw : w ≤ 16) (hl : p.slots.length ≤ 128) (R : RP n ls p m) (I : Inv n w ls du m p.slots) : ref31_plan_free.f p w = some (nextW w m) := by
  have hl1 : ∀ d : Int, ref31_plan_free.l1 p d FUEL true 0 = some (p.slots.all (fun x => (x.Worker != d) || decide (x.End ≤ p.now))) := fun d => by
    refine loop_c (L := fun k (s : Bool) i => ref31_plan_free.l1 p d k s i) p.slots.length (fun i s => s = (p.slots.take i).all (fun x => (x.Worker != d) || decide (x.End ≤ p.now))) (fun o => o = some (p.slots.all (fun x => (x.Worker != d) || decide (x.End ≤ p.now)))) ?_ ?_ FUEL 0 _ (Nat.zero_le _) (FUEL_pos (by omega)) (by simp)
    · rintro k s i hi rfl
      rw [ref31_plan_free.l1, if_pos (by simp; omega), wi_succ (by omega)]
      refine .inl ⟨_, rfl, ?_⟩
      rw [List.take_succ_eq_append_getElem hi, List.all_append]
      cases hc : (p.slots.take i).all (fun x => (x.Worker != d) || decide (x.End ≤ p.now))
      · rw [if_neg (by simp), Option.bind_some]; congr 1
      · rw [if_pos rfl, idx_get hi, Option.bind_some, Option.bind_some]; congr 1; simp
    · rintro k s rfl
      rw [ref31_plan_free.l1, if_neg (by simp), List.take_length]
  have hall : ∀ d : Int, p.slots.all (fun x => (x.Worker != d) || decide (x.End ≤ p.now)) = decide (m.f d ≤ m.t) := fun d => by
    have ht0 := I.t0
    rw [Bool.eq_iff_iff]
    simp only [List.all_eq_true, Bool.or_eq_true, bne_iff_ne, decide_eq_true_eq, R.t]
    constructor
    · intro h
      rcases I.fex d with e | ⟨x, hx, hw, he⟩
      · omega
      · rcases h x hx with h' | h'
        · exact absurd hw h'
        · omega
    · intro h x hx
      by_cases e : x.Worker = d
      · have := I.fle x hx
        rw [e] at this
        exact .inr (by omega)
      · exact .inl e
  unfold ref31_plan_free.f
  rw [find_ok (L := ref31_plan_free.l0 p w) w (fun d => decide (m.f d ≤ m.t)) (fun i => i) (by omega) (fun k i hi => by
    rw [ref31_plan_free.l0, if_pos (by simp; omega), hl1, Option.bind_some, hall, wi_succ (by omega)]
    cases decide (m.f (i : Int) ≤ m.t)
    · rfl
    · rfl) (fun k => by rw [ref31_plan_free.l0, if_neg (by simp)]), Option.bind_some]
  show _ = some (fst w (fun i => decide (m.f i ≤ m.t)))
  rcases fst_spec (n := w) (P := fun i => decide (m.f i ≤ m.t)) with ⟨e, _⟩ | ⟨a, _⟩
  · rw [e]; rfl
  · rw [if_pos a]; rfl

theorem refnext_ok (hl : p.slots.length ≤ 128) (R : RP n ls p m) (I : Inv n w ls du m p.slots) : (running w m = [] ∧ ref31_Schedule.l2 p FUEL 0 0 = some 0) ∨ (∃ t, 0 < t ∧ t ∈ running w m ∧ (∀ x ∈ running w m, t ≤ x) ∧ ref31_Schedule.l2 p FUEL 0 0 = some t) := by
  have ht0 := I.t0
  have key : ∃ v, ref31_Schedule.l2 p FUEL 0 0 = some v ∧ ((v = 0 ∧ ∀ x ∈ p.slots, ¬ m.t < x.End) ∨ (m.t < v ∧ (∃ x ∈ p.slots, x.End = v) ∧ ∀ x ∈ p.slots, m.t < x.End → v ≤ x.End)) := by
    refine loop_c (L := fun k (s : Int) i => ref31_Schedule.l2 p k s i) p.slots.length (fun i v => (v = 0 ∧ ∀ x ∈ p.slots.take i, ¬ m.t < x.End) ∨ (m.t < v ∧ (∃ x ∈ p.slots, x.End = v) ∧ ∀ x ∈ p.slots.take i, m.t < x.End → v ≤ x.End))
      (fun o => ∃ v, o = some v ∧ ((v = 0 ∧ ∀ x ∈ p.slots, ¬ m.t < x.End) ∨ (m.t < v ∧ (∃ x ∈ p.slots, x.End = v) ∧ ∀ x ∈ p.slots, m.t < x.End → v ≤ x.End))) ?_ ?_ FUEL 0 0 (Nat.zero_le _) (FUEL_pos (by omega)) (.inl ⟨rfl, by simp⟩)
    · intro k v i hi hI
      have hm := List.getElem_mem hi
      rw [ref31_Schedule.l2, if_pos (by simp; omega), idx_get hi, Option.bind_some, R.t, wi_succ (by omega)]
      by_cases c1 : m.t < p.slots[i].End
      · rcases hI with ⟨rfl, h⟩ | ⟨h1, h2, h3⟩
        · rw [if_pos (by simp [c1]), Option.bind_some]
          refine .inl ⟨_, .inr ⟨c1, ⟨_, hm, rfl⟩, fun x hx hx' => ?_⟩, rfl⟩
          rcases (mem_take_succ hi).1 hx with h' | h'
          · exact absurd hx' (h x h')
          · rw [h']; exact Int.le_refl _
        · by_cases c2 : p.slots[i].End < v
          · rw [if_pos (by simp [c1, c2]), Option.bind_some]
            refine .inl ⟨_, .inr ⟨c1, ⟨_, hm, rfl⟩, fun x hx hx' => ?_⟩, rfl⟩
            rcases (mem_take_succ hi).1 hx with h' | h'
            · have := h3 x h' hx'; omega
            · rw [h']; exact Int.le_refl _
          · rw [if_neg (by simp [c1, c2]; omega), Option.bind_some]
            refine .inl ⟨_, .inr ⟨h1, h2, fun x hx hx' => ?_⟩, rfl⟩
            rcases (mem_take_succ hi).1 hx with h' | h'
            · exact h3 x h' hx'
            · rw [h']; omega
      · rw [if_neg (by simp [c1]), Option.bind_some]
        refine .inl ⟨_, ?_, rfl⟩
        rcases hI with ⟨rfl, h⟩ | ⟨h1, h2, h3⟩
        · refine .inl ⟨rfl, fun x hx => ?_⟩
          rcases (mem_take_succ hi).1 hx with h' | h'
          · exact h x h'
          · rw [h']; exact c1
        · refine .inr ⟨h1, h2, fun x hx hx' => ?_⟩
          rcases (mem_take_succ hi).1 hx with h' | h'
          · exact h3 x h' hx'
          · rw [h'] at hx'; exact absurd hx' c1
    · intro k v hI
      rw [ref31_Schedule.l2, if_neg (by simp)]
      rw [List.take_length] at hI
      exact ⟨v, rfl, hI⟩
  obtain ⟨v, e, h⟩ := key
  have hrun : ∀ y ∈ running w m, ∃ x ∈ p.slots, x.End = y ∧ m.t < y := fun y hy => by
    obtain ⟨k, _, _, h1, h2⟩ := mem_running.1 hy
    rcases I.fex k with h | ⟨x, hx, _, he⟩
    · omega
    · exact ⟨x, hx, by omega, h2⟩
  rcases h with ⟨rfl, h⟩ | ⟨h1, ⟨x, hx, rfl⟩, h3⟩
  · refine .inl ⟨?_, e⟩
    rw [List.eq_nil_iff_forall_not_mem]
    intro y hy
    obtain ⟨x, hx, rfl, hl⟩ := hrun y hy
    exact h x hx hl
  · refine .inr ⟨_, by omega, I.over_run hx h1, fun y hy => ?_, e⟩
    obtain ⟨z, hz, rfl, hl⟩ := hrun y hy
    exact h3 z hz hl
end

/-- Times fit. -/
structure TB (m : Ms) (out : List api_Slot) : Prop where
  t : m.t ≤ out.length * 9007199254740992
  f : ∀ k, m.f k ≤ out.length * 9007199254740992
theorem TB.step {n w : Nat} {ls : List api_Link} {du : Int → Int} (hdu : ∀ i, 0 ≤ du i ∧ du i ≤ 9007199254740992) {m : Ms} {out : List api_Slot} (B : TB m out) {z' : Ms × List api_Slot} (hz : nxt n w ls du (m, out) = some z') : TB z'.1 z'.2 := by
  rcases nxt_cases hz with ⟨d, k, _, _, hd, hk, hr, hf, rfl⟩ | ⟨t, hno, ht, hlo, hlt, rfl⟩
  · have h1 := hdu d
    have h2 := B.t
    have hlen : ((out ++ [api_Slot.mk d k m.t (m.t + du d)]).length : Int) = out.length + 1 := by simp
    refine ⟨?_, fun j => ?_⟩
    · simp only [hlen]; unfold place; simp only; omega
    · have := B.f j
      simp only [hlen]; unfold place fset; simp only
      split <;> omega
  · obtain ⟨k, _, _, h1, _⟩ := mem_running.1 ht
    refine ⟨?_, B.f⟩
    have := B.f k
    simp only; omega

theorem refsched_good {n w : Nat} {ls : List api_Link} {dl : List Int} (S : GoodS n w ls dl) : ∃ m out, ref31_Schedule.f n ls dl w = some (out, 0) ∧ Sched n w ls (duf dl) m out := by
  have g := S.g
  have hn := g.n128
  have hw := S.w1
  have hw0 := S.w0
  have hll : ls.length ≤ maxLen := by have := g.len; rw [maxLen_eq]; omega
  have hic : icode n ls dl w = 0 := by
    have h := icode_scode (p := (n : Int)) (ls := ls) (dl := dl) (w := (w : Int))
    refine Classical.byContradiction fun hne => ?_
    have := h.1 hne
    rw [good_scode S] at this; omega
  unfold ref31_Schedule.f
  rw [input31_ok _ _ _ _ hll (by rw [S.dn, maxLen_eq]; omega), hic, Option.bind_some, if_neg (by simp), if_neg (by simp; omega)]
  have key0 : ∃ a, ref31_Schedule.l0 n FUEL (ref31_plan.mk ls ([] : List api_Slot) ([] : List Int) 0) 0 = some (ref31_plan.mk ls [] a 0) ∧ RepV n a (fun _ => -1) := by
    refine loop_c (L := fun k (s : ref31_plan) i => ref31_Schedule.l0 n k s i) n (fun i s => s.links = ls ∧ s.now = 0 ∧ s.at_ = List.replicate i (-1)) (fun o => ∃ a, o = some (ref31_plan.mk ls [] a 0) ∧ RepV n a (fun _ => -1)) ?_ ?_ FUEL 0 _ (Nat.zero_le _) (FUEL_pos (by omega)) ⟨rfl, rfl, rfl⟩
    · rintro k ⟨l, sl, a, t⟩ i hi ⟨h1, h2, h3⟩
      simp only at h1 h2 h3
      subst h1 h2 h3
      rw [ref31_Schedule.l0, if_pos (by simp; omega)]
      simp only
      rw [app_ok (by simp; omega), Option.bind_some, wi_succ (by omega)]
      refine .inl ⟨_, ⟨rfl, rfl, ?_⟩, rfl⟩
      simp only
      rw [List.replicate_succ']
    · rintro k ⟨l, sl, a, t⟩ ⟨h1, h2, h3⟩
      simp only at h1 h2 h3
      subst h1 h2 h3
      rw [ref31_Schedule.l0, if_neg (by simp)]
      exact ⟨_, rfl, RepV.rep n (-1)⟩
  obtain ⟨a, e0, ha⟩ := key0
  rw [e0, Option.bind_some]
  have hdu := duf_range S.d0
  have key : ∃ m out, ref31_Schedule.l1 dl w FUEL (ref31_plan.mk ls [] a 0) = some (out, 0) ∧ ∃ j, it n w ls (duf dl) j z00 = (m, out) ∧ nxt n w ls (duf dl) (m, out) = none := by
    refine loop_m (L := fun k (s : ref31_plan) => ref31_Schedule.l1 dl w k s) (fun s => ∃ m j, RP n ls s m ∧ it n w ls (duf dl) j z00 = (m, s.slots) ∧ Inv n w ls (duf dl) m s.slots ∧ TB m s.slots)
      (fun s => 2 * (n - s.slots.length) + (s.slots.filter (fun x => decide (s.now < x.End))).length) (fun o => ∃ m out, o = some (out, 0) ∧ ∃ j, it n w ls (duf dl) j z00 = (m, out) ∧ nxt n w ls (duf dl) (m, out) = none) ?_ FUEL (ref31_plan.mk ls [] a 0) ⟨z00.1, 0, ⟨rfl, rfl, _, ha, fun d _ _ => .inl ⟨rfl, rfl⟩⟩, rfl, Inv.start, ⟨by simp [z00], fun k => by simp [z00]⟩⟩ (FUEL_pos (by simp; omega))
    rintro k ⟨l, sl, at', t⟩ ⟨m, j, R, hj, I, B⟩
    simp only at hj I B ⊢
    have hl := I.out_le
    have hBt := B.t
    have hb2 : (sl.length : Int) * 9007199254740992 ≤ 128 * 9007199254740992 := Int.mul_le_mul_of_nonneg_right (by omega) (by omega)
    rw [ref31_Schedule.l1, refready_ok g R, Option.bind_some, reffree_ok (w := w) (du := duf dl) hw (by show sl.length ≤ 128; omega) R I, Option.bind_some]
    by_cases hp : 0 ≤ nextD n ls m ∧ 0 ≤ nextW w m
    · obtain ⟨p1, p2⟩ := hp
      obtain ⟨q1, q2, _⟩ := fst_lt p1
      have hbd := (rdy_iff.1 q2).1
      have hlt := unbegun_len I p1 q1 hbd
      have hnx : nxt n w ls (duf dl) (m, sl) = some (place (duf dl) m (nextD n ls m) (nextW w m), sl ++ [api_Slot.mk (nextD n ls m) (nextW w m) m.t (m.t + duf dl (nextD n ls m))]) := by unfold nxt; rw [if_pos ⟨p1, p2⟩]
      have hI' := I.step (fun i => (hdu i).1) hnx
      have hB' := B.step hdu hnx
      have hit := it_succ (n := n) (w := w) (ls := ls) (du := duf dl) j z00 _ (by rw [hj]; exact hnx)
      obtain ⟨A, h1, h2⟩ := R.at_
      have ht0 := I.t0
      rw [if_pos (by simp [p1, p2])]
      change nextD n ls m < n at q1
      change m.b (nextD n ls m) = false at hbd
      generalize nextD n ls m = d at *
      generalize nextW w m = v at *
      have hd := hdu d
      have ht : t = m.t := R.t
      have e1 : idx at' d = some (A d) := h1.2 d p1 q1
      simp only
      rw [e1, Option.bind_some, (duf_rep S.dn).2 d p1 q1, Option.bind_some, ht, wu_id (by omega) (by omega), app_ok (by simp; omega), Option.bind_some, Option.bind_some, Fl.go]
      refine .inl ⟨ref31_plan.mk l (sl ++ [api_Slot.mk d v m.t (m.t + duf dl d)]) (upd at' d (sl.length : Int)) m.t, ⟨place (duf dl) m d v, j + 1, ⟨R.l, rfl, _, h1.set p1 (sl.length : Int), fun c c0 c1 => ?_⟩, hit, hI', hB'⟩, ?_, rfl⟩
      · unfold place fset
        simp only
        by_cases e : c = d
        · rw [if_pos e, if_pos e, if_pos e]
          refine .inr ⟨rfl, by omega, ?_⟩
          rw [idx_nat (by omega)]; simp
        · rw [if_neg e, if_neg e, if_neg e]
          rcases h2 c c0 c1 with ⟨a1, a2⟩ | ⟨a1, a2, a3⟩
          · exact .inl ⟨a1, a2⟩
          · refine .inr ⟨a1, a2, ?_⟩
            have hlo := idx_hi a3
            change A c < (sl.length : Int) at hlo
            have a3' : idx sl (A c) = some (m.s c) := a3
            rw [← a3', idx_nat a2, idx_nat a2, List.getElem?_append_left (by omega)]
      · simp only [List.filter_append, List.length_append, List.length_singleton]
        have : ((List.filter (fun x => decide (m.t < x.End)) [api_Slot.mk d v m.t (m.t + duf dl d)]).length) ≤ 1 := List.length_filter_le _ _
        omega
    · rw [if_neg (by simpa using hp)]
      have hnx : nxt n w ls (duf dl) (m, sl) = match lowest (running w m) with | none => none | some t => some (⟨m.b, m.s, m.f, t⟩, sl) := by unfold nxt; rw [if_neg hp] <;> rfl
      rcases refnext_ok (w := w) (du := duf dl) (by show sl.length ≤ 128; omega) R I with ⟨h1, e⟩ | ⟨u, u0, h1, h2, e⟩
      · rw [e, Option.bind_some, if_pos (by simp), Option.bind_some, Fl.go]
        have hlow : lowest (running w m) = none := by rw [h1]; rfl
        rw [hlow] at hnx
        exact .inr ⟨m, sl, rfl, j, hj, hnx⟩
      · rw [e, Option.bind_some, if_neg (by simp; omega), Option.bind_some, Fl.go]
        rw [lowest_of h1 h2] at hnx
        have hit := it_succ (n := n) (w := w) (ls := ls) (du := duf dl) j z00 _ (by rw [hj]; exact hnx)
        obtain ⟨kk, _, _, hf, hlt⟩ := mem_running.1 h1
        have ht : t = m.t := R.t
        obtain ⟨A, a1, a2⟩ := R.at_
        refine .inl ⟨ref31_plan.mk l sl at' u, ⟨⟨m.b, m.s, m.f, u⟩, j + 1, ⟨R.l, rfl, A, a1, a2⟩, hit, I.step (fun i => (hdu i).1) hnx, B.step hdu hnx⟩, ?_, rfl⟩
        simp only
        have hx : ∃ x ∈ sl, x.End = u := by
          have := I.t0
          rcases I.fex kk with h | ⟨x, hx, _, he⟩
          · omega
          · exact ⟨x, hx, by omega⟩
        obtain ⟨x, hx, hxe⟩ := hx
        have hl2 : (sl.filter (fun x => decide (u < x.End))).length < (sl.filter (fun x => decide (t < x.End))).length := by
          have e : sl.filter (fun x => decide (u < x.End)) = (sl.filter (fun x => decide (t < x.End))).filter (fun x => decide (u < x.End)) := by
            rw [List.filter_filter]
            apply List.filter_congr
            intro y _
            by_cases q : u < y.End
            · simp [q]; omega
            · simp [q]
          rw [e]
          exact List.length_filter_lt_length_iff_exists.2 ⟨x, List.mem_filter.2 ⟨hx, by simp; omega⟩, by simp; omega⟩
        omega
  obtain ⟨m, out, e, j, hj, hno⟩ := key
  have e' : ref31_Schedule.l1 dl w FUEL (ref31_plan.mk (ref31_plan.mk ls [] a 0).links ([] : List api_Slot) (ref31_plan.mk ls [] a 0).at_ (ref31_plan.mk ls [] a 0).now) = some (out, 0) := e
  exact ⟨m, out, e', Sched.mk' S hj hno⟩

end Go.Proofs.Ythmjgadmadlpkaa.Sim

namespace Go.Proofs.Ythmjgadmadlpkaa.Sim
open Go
set_option linter.unusedVariables false
set_option maxRecDepth 100000

/-- A loop that only looks whether there is an index with P. -/
theorem any_ok {ρ : Type} {L : Nat → Int → Option (Fl ρ Unit)} (n : Nat) (P : Int → Prop) (v : ρ) (hn : n ≤ 9223372036854775807)
    (hL : ∀ k (i : Nat), i < n → (P i ∧ L (k + 1) (i : Int) = some (.out v)) ∨ (¬ P i ∧ L (k + 1) (i : Int) = L k ((i + 1 : Nat) : Int))) (hE : ∀ k, L (k + 1) (n : Int) = some (.nxt ())) :
    ((∃ u : Int, 0 ≤ u ∧ u < n ∧ P u) ∧ L FUEL 0 = some (.out v)) ∨ ((∀ u : Int, 0 ≤ u → u < n → ¬ P u) ∧ L FUEL 0 = some (.nxt ())) := by
  refine loop_c (L := fun k (_ : Unit) i => L k i) n (fun i _ => ∀ u : Int, 0 ≤ u → u < i → ¬ P u) (fun o => ((∃ u : Int, 0 ≤ u ∧ u < n ∧ P u) ∧ o = some (.out v)) ∨ ((∀ u : Int, 0 ≤ u → u < n → ¬ P u) ∧ o = some (.nxt ()))) ?_ ?_ FUEL 0 () (Nat.zero_le _) (FUEL_pos (by omega)) (fun u h0 h1 => by omega)
  · intro k s i hi hI
    rcases hL k i hi with ⟨a, b⟩ | ⟨a, b⟩
    · exact .inr (.inl ⟨⟨_, by omega, by omega, a⟩, b⟩)
    · refine .inl ⟨(), fun u h0 h1 => ?_, b⟩
      by_cases e : u = i
      · subst e; exact a
      · exact hI u h0 (by omega)
  · intro k s hI
    exact .inr ⟨hI, hE k⟩

theorem shaped_ok {n : Nat} (hn : n ≤ 128) {dl : List Int} (hd : dl.length = n) (w : Int) (slots : List api_Slot) : ∃ b, ref31_shaped.f n dl w slots = some b ∧ (b = true ↔ VS n (duf dl) w slots) := by
  unfold ref31_shaped.f
  by_cases hl : slots.length = n
  · rw [if_neg (by simp [hl]), mk_ok (by omega), Option.bind_some]
    have key : ∃ o, ref31_shaped.l0 n dl w slots FUEL (List.replicate n false) 0 = some o ∧ ((o = .out false ∧ ¬ VS n (duf dl) w slots) ∨ (o = .nxt () ∧ VS n (duf dl) w slots)) := by
      refine loop_c (L := fun k (s : List Bool) i => ref31_shaped.l0 n dl w slots k s i) n (fun i s => RepV n s (fun d => decide (d ∈ (slots.take i).map api_Slot.Device)) ∧ (∀ x ∈ slots.take i, okS n (duf dl) w x) ∧ ((slots.take i).map api_Slot.Device).Nodup)
        (fun o => ∃ o', o = some o' ∧ ((o' = .out false ∧ ¬ VS n (duf dl) w slots) ∨ (o' = .nxt () ∧ VS n (duf dl) w slots))) ?_ ?_ FUEL 0 _ (Nat.zero_le _) (FUEL_pos (by omega)) ⟨(RepV.rep n false).congr fun d _ _ => by simp, by simp, by simp⟩
      · rintro k s i hi ⟨h1, h2, h3⟩
        have hi' : i < slots.length := by omega
        have hm := List.getElem_mem hi'
        rw [ref31_shaped.l0, if_pos (by simp; omega), idx_get hi', Option.bind_some]
        by_cases c1 : (((decide (slots[i].Device < 0) || decide ((n : Int) ≤ slots[i].Device)) || decide (slots[i].Worker < 0)) || decide (w ≤ slots[i].Worker)) = true
        · rw [if_pos c1, Option.bind_some, if_pos (by simp), Option.bind_some, if_pos rfl]
          refine .inr ⟨_, rfl, .inl ⟨rfl, fun V => ?_⟩⟩
          have := V.ok _ hm
          unfold okS at this
          simp at c1; omega
        · rw [if_neg c1]
          simp at c1
          obtain ⟨⟨⟨c2, c3⟩, c4⟩, c5⟩ := c1
          rw [h1.2 _ c2 c3, Option.bind_some, Option.bind_some]
          by_cases c6 : slots[i].Device ∈ (slots.take i).map api_Slot.Device
          · rw [if_pos (by simp only [c6, decide_true, Bool.true_or]), Option.bind_some, if_pos rfl]
            refine .inr ⟨_, rfl, .inl ⟨rfl, fun V => ?_⟩⟩
            have := V.nd
            have h4 : ((slots.take (i + 1)).map api_Slot.Device).Nodup := List.Sublist.nodup (List.Sublist.map _ (List.take_sublist _ _)) this
            rw [List.take_succ_eq_append_getElem hi', List.map_append] at h4
            exact (nodup_snoc_iff.1 h4).2 c6
          · by_cases c7 : slots[i].End < slots[i].Start
            · rw [if_pos (by simp only [c7, decide_true, Bool.or_true]), Option.bind_some, if_pos rfl]
              refine .inr ⟨_, rfl, .inl ⟨rfl, fun V => ?_⟩⟩
              have := V.ok _ hm
              unfold okS at this; omega
            · rw [if_neg (by simp only [c6, c7, decide_false, Bool.or_false]; simp), (duf_rep hd).2 _ c2 c3, Option.bind_some, Option.bind_some]
              by_cases c8 : wu (slots[i].End - slots[i].Start) = duf dl slots[i].Device
              · rw [if_neg (by simpa using c8), Option.bind_some, wi_succ (by omega)]
                refine .inl ⟨_, ⟨seen_step hi' h1 c2, fun x hx => ?_, ?_⟩, rfl⟩
                · rcases (mem_take_succ hi').1 hx with h | h
                  · exact h2 x h
                  · subst h; exact ⟨c2, c3, c4, c5, by omega, c8⟩
                · rw [List.take_succ_eq_append_getElem hi', List.map_append]
                  exact nodup_snoc_iff.2 ⟨h3, c6⟩
              · rw [if_pos (by simpa using c8)]
                refine .inr ⟨_, rfl, .inl ⟨rfl, fun V => c8 (V.ok _ hm).2.2.2.2.2⟩⟩
      · rintro k s ⟨h1, h2, h3⟩
        rw [ref31_shaped.l0, if_neg (by simp)]
        rw [List.take_of_length_le (by omega)] at h2 h3
        exact ⟨_, rfl, .inr ⟨rfl, hl, h2, h3⟩⟩
    obtain ⟨o, e, h⟩ := key
    rw [e, Option.bind_some]
    rcases h with ⟨rfl, h⟩ | ⟨rfl, h⟩
    · exact ⟨false, rfl, by simp [h]⟩
    · exact ⟨true, rfl, by simp [h]⟩
  · rw [if_pos (by simp; omega)]
    exact ⟨false, rfl, by simp; exact fun V => hl V.len⟩

theorem refverify_good {n w : Nat} {ls : List api_Link} {dl : List Int} (S : GoodS n w ls dl) (slots : List api_Slot) : ∃ r, ref31_Verify.f n ls dl w slots = some r ∧ VR n ls (duf dl) w slots r := by
  have g := S.g
  have hn := g.n128
  have hll : ls.length ≤ maxLen := by have := g.len; rw [maxLen_eq]; omega
  have hll' := g.len
  have hic : icode n ls dl w = 0 := by
    have h := icode_scode (p := (n : Int)) (ls := ls) (dl := dl) (w := (w : Int))
    refine Classical.byContradiction fun hne => ?_
    have := h.1 hne
    rw [good_scode S] at this; omega
  unfold ref31_Verify.f
  rw [input31_ok _ _ _ _ hll (by rw [S.dn, maxLen_eq]; omega), hic, Option.bind_some, if_neg (by simp), if_neg (by have := S.w0; simp; omega)]
  obtain ⟨b, e1, hb⟩ := shaped_ok hn S.dn w slots
  rw [e1, Option.bind_some, Option.bind_some]
  cases b with
  | false =>
    have hv : ¬ VS n (duf dl) w slots := fun h => by have := hb.2 h; cases this
    exact ⟨1, rfl, fun _ => rfl, fun h => absurd h hv, fun h => absurd h hv, fun h => absurd h hv⟩
  | true =>
    have V := hb.1 rfl
    have hlen := V.len
    rw [if_neg (by simp)]
    have hget : ∀ i : Nat, i < n → ∃ h : i < slots.length, idx slots (i : Int) = some slots[i] := fun i hi => ⟨by omega, idx_get (by omega)⟩
    -- conflicts
    let S' : Int → api_Slot := fun i => slots.getD i.toNat (api_Slot.mk 0 0 0 0)
    have hS : ∀ i : Int, 0 ≤ i → i < n → idx slots i = some (S' i) := fun i i0 i1 => by
      obtain ⟨k, rfl⟩ := Int.eq_ofNat_of_zero_le i0
      have hk : k < slots.length := by omega
      rw [idx_get hk]; simp [S', hk]
    have hSm : ∀ i : Int, 0 ≤ i → i < n → S' i ∈ slots := fun i i0 i1 => by
      obtain ⟨x, hx, hm⟩ := idx_of (xs := slots) i0 (by omega)
      rw [hS i i0 i1] at hx; injection hx with hx; rw [hx]; exact hm
    have hSx : ∀ x ∈ slots, ∃ i : Int, 0 ≤ i ∧ i < n ∧ S' i = x := fun x hx => by
      obtain ⟨k, hk, rfl⟩ := List.getElem_of_mem hx
      exact ⟨k, by omega, by omega, by simp [S', hk]⟩
    have hl1 : ∀ i : Int, 0 ≤ i → i < n → ((∃ u : Int, 0 ≤ u ∧ u < n ∧ (i ≠ u ∧ Conf (S' i) (S' u))) ∧ ref31_Verify.l1 n slots i FUEL 0 = some (.out (.out 17))) ∨ ((∀ u : Int, 0 ≤ u → u < n → ¬ (i ≠ u ∧ Conf (S' i) (S' u))) ∧ ref31_Verify.l1 n slots i FUEL 0 = some (.nxt ())) := fun i i0 i1 => by
      refine any_ok (L := ref31_Verify.l1 n slots i) n (fun u => i ≠ u ∧ Conf (S' i) (S' u)) (.out 17) (by omega) (fun k u hu => ?_) (fun k => by rw [ref31_Verify.l1, if_neg (by simp)])
      rw [ref31_Verify.l1, if_pos (by simp; omega), hS i i0 i1, Option.bind_some, hS (u : Int) (by omega) (by omega), Option.bind_some, wi_succ (by omega)]
      by_cases c : i ≠ u ∧ Conf (S' i) (S' u)
      · refine .inl ⟨c, ?_⟩
        rw [if_pos (by simp only [Bool.and_eq_true, beq_iff_eq, bne_iff_ne, decide_eq_true_eq]; exact ⟨⟨⟨c.1, c.2.1⟩, c.2.2.1⟩, c.2.2.2⟩)]
      · refine .inr ⟨c, ?_⟩
        rw [if_neg (by simp only [Bool.and_eq_true, beq_iff_eq, bne_iff_ne, decide_eq_true_eq]; exact fun h => c ⟨h.1.1.1, h.1.1.2, h.1.2, h.2⟩)]
    have hl0 := any_ok (L := ref31_Verify.l0 n slots) n (fun i => ∃ u : Int, 0 ≤ u ∧ u < n ∧ (i ≠ u ∧ Conf (S' i) (S' u))) (17 : Int) (by omega) (fun k i hi => by
      rw [ref31_Verify.l0, if_pos (by simp; omega), wi_succ (by omega)]
      rcases hl1 i (by omega) (by omega) with ⟨a, e⟩ | ⟨a, e⟩
      · rw [e]; exact .inl ⟨a, rfl⟩
      · rw [e]; exact .inr ⟨fun ⟨u, u0, u1, h⟩ => a u u0 u1 h, rfl⟩) (fun k => by rw [ref31_Verify.l0, if_neg (by simp)])
    have hVC : VC slots ↔ ∀ i : Int, 0 ≤ i → i < n → ¬ ∃ u : Int, 0 ≤ u ∧ u < n ∧ (i ≠ u ∧ Conf (S' i) (S' u)) := by
      unfold VC
      rw [List.pairwise_iff_getElem]
      constructor
      · rintro h i i0 i1 ⟨u, u0, u1, hne, hc⟩
        obtain ⟨a, rfl⟩ := Int.eq_ofNat_of_zero_le i0
        obtain ⟨b, rfl⟩ := Int.eq_ofNat_of_zero_le u0
        have ha : a < slots.length := by omega
        have hb' : b < slots.length := by omega
        have ea : S' (a : Int) = slots[a] := by simp [S', ha]
        have eb : S' (b : Int) = slots[b] := by simp [S', hb']
        rw [ea, eb] at hc
        rcases Nat.lt_trichotomy a b with h' | h' | h'
        · exact h a b ha hb' h' hc
        · exact hne (by rw [h'])
        · exact h b a hb' ha h' hc.symm
      · intro h a b ha hb' hlt hc
        have ea : S' (a : Int) = slots[a] := by simp [S', ha]
        have eb : S' (b : Int) = slots[b] := by simp [S', hb']
        exact h a (by omega) (by omega) ⟨b, by omega, by omega, by omega, by rw [ea, eb]; exact hc⟩
    rcases hl0 with ⟨⟨i, i0, i1, a⟩, e⟩ | ⟨a, e⟩
    · have C : ¬ VC slots := fun h => hVC.1 h i i0 i1 a
      rw [e]
      exact ⟨17, rfl, fun h => absurd V h, fun _ _ => rfl, fun _ h => absurd h C, fun _ h => absurd h C⟩
    · have C : VC slots := hVC.2 a
      rw [e, Option.bind_some, Fl.go]
      have hl4 : ∀ (j : Nat) (hj : j < ls.length) (i : Int), 0 ≤ i → i < n → ((∃ u : Int, 0 ≤ u ∧ u < n ∧ ((S' i).Device = ls[j].Consumer ∧ (S' u).Device = ls[j].Supplier ∧ (S' i).Start < (S' u).End)) ∧ ref31_Verify.l4 n ls slots j i FUEL 0 = some (.out (.out (.out 9)))) ∨
          ((∀ u : Int, 0 ≤ u → u < n → ¬ ((S' i).Device = ls[j].Consumer ∧ (S' u).Device = ls[j].Supplier ∧ (S' i).Start < (S' u).End)) ∧ ref31_Verify.l4 n ls slots j i FUEL 0 = some (.nxt ())) := fun j hj i i0 i1 => by
        refine any_ok (L := ref31_Verify.l4 n ls slots j i) n (fun u => (S' i).Device = ls[j].Consumer ∧ (S' u).Device = ls[j].Supplier ∧ (S' i).Start < (S' u).End) (.out (.out 9)) (by omega) (fun k u hu => ?_) (fun k => by rw [ref31_Verify.l4, if_neg (by simp)])
        have hu' := hS (u : Int) (by omega) (by omega)
        rw [ref31_Verify.l4, if_pos (by simp; omega), hS i i0 i1, Option.bind_some, idx_get hj, Option.bind_some, wi_succ (by omega), hu']
        by_cases c1 : (S' i).Device = ls[j].Consumer
        · rw [if_pos (by simpa using c1), Option.bind_some, Option.bind_some]
          by_cases c2 : (S' u).Device = ls[j].Supplier
          · rw [if_pos (by simpa using c2), Option.bind_some, Option.bind_some]
            by_cases c3 : (S' i).Start < (S' u).End
            · rw [if_pos (by simpa using c3)]; exact .inl ⟨⟨c1, c2, c3⟩, rfl⟩
            · rw [if_neg (by simpa using c3)]; exact .inr ⟨fun h => c3 h.2.2, rfl⟩
          · rw [if_neg (by simpa using c2), Option.bind_some, if_neg (by simp)]; exact .inr ⟨fun h => c2 h.2.1, rfl⟩
        · rw [if_neg (by simpa using c1), Option.bind_some, if_neg (by simp), Option.bind_some, if_neg (by simp)]; exact .inr ⟨fun h => c1 h.1, rfl⟩
      have hl3 : ∀ (j : Nat) (hj : j < ls.length), ((∃ i : Int, 0 ≤ i ∧ i < n ∧ ∃ u : Int, 0 ≤ u ∧ u < n ∧ ((S' i).Device = ls[j].Consumer ∧ (S' u).Device = ls[j].Supplier ∧ (S' i).Start < (S' u).End)) ∧ ref31_Verify.l3 n ls slots j FUEL 0 = some (.out (.out 9))) ∨
          ((∀ i : Int, 0 ≤ i → i < n → ¬ ∃ u : Int, 0 ≤ u ∧ u < n ∧ ((S' i).Device = ls[j].Consumer ∧ (S' u).Device = ls[j].Supplier ∧ (S' i).Start < (S' u).End)) ∧ ref31_Verify.l3 n ls slots j FUEL 0 = some (.nxt ())) := fun j hj => by
        refine any_ok (L := ref31_Verify.l3 n ls slots j) n (fun i => ∃ u : Int, 0 ≤ u ∧ u < n ∧ ((S' i).Device = ls[j].Consumer ∧ (S' u).Device = ls[j].Supplier ∧ (S' i).Start < (S' u).End)) (.out 9) (by omega) (fun k i hi => ?_) (fun k => by rw [ref31_Verify.l3, if_neg (by simp)])
        rw [ref31_Verify.l3, if_pos (by simp; omega), wi_succ (by omega)]
        rcases hl4 j hj i (by omega) (by omega) with ⟨a, e⟩ | ⟨a, e⟩
        · rw [e]; exact .inl ⟨a, rfl⟩
        · rw [e]; exact .inr ⟨fun ⟨u, u0, u1, h⟩ => a u u0 u1 h, rfl⟩
      have hl2 := any_ok (L := ref31_Verify.l2 n ls slots) ls.length (fun j => ∃ h : j.toNat < ls.length, ∃ i : Int, 0 ≤ i ∧ i < n ∧ ∃ u : Int, 0 ≤ u ∧ u < n ∧ ((S' i).Device = ls[j.toNat].Consumer ∧ (S' u).Device = ls[j.toNat].Supplier ∧ (S' i).Start < (S' u).End)) (9 : Int) (by omega) (fun k j hj => by
        rw [ref31_Verify.l2, if_pos (by simp; omega), wi_succ (by omega)]
        rcases hl3 j hj with ⟨a, e⟩ | ⟨a, e⟩
        · rw [e]; exact .inl ⟨⟨hj, a⟩, rfl⟩
        · rw [e]; exact .inr ⟨fun ⟨_, i, i0, i1, h⟩ => a i i0 i1 h, rfl⟩) (fun k => by rw [ref31_Verify.l2, if_neg (by simp)])
      rcases hl2 with ⟨⟨j, j0, j1, hj, i, i0, i1, u, u0, u1, h1, h2, h3⟩, e⟩ | ⟨a, e⟩
      · rw [e]
        have L : ¬ VL ls slots := fun h => h _ (List.getElem_mem hj) _ (hSm i i0 i1) _ (hSm u u0 u1) h1 h2 h3
        exact ⟨9, rfl, fun h => absurd V h, fun _ h => absurd C h, fun _ _ _ => rfl, fun _ _ h => absurd h L⟩
      · rw [e]
        have L : VL ls slots := fun l hl x hx y hy ex ey hlt => by
          obtain ⟨j, hj, rfl⟩ := List.getElem_of_mem hl
          obtain ⟨i, i0, i1, rfl⟩ := hSx x hx
          obtain ⟨u, u0, u1, rfl⟩ := hSx y hy
          exact a j (by omega) (by omega) ⟨by simpa using hj, i, i0, i1, u, u0, u1, by simpa using ex, by simpa using ey, hlt⟩
        exact ⟨0, rfl, fun h => absurd V h, fun _ h => absurd C h, fun _ _ h => absurd L h, fun _ _ _ => rfl⟩

theorem verify_same {p : Int} {ls : List api_Link} {dl : List Int} {w : Int} (slots : List api_Slot) (h : ls.length ≤ maxLen) (hd : dl.length ≤ maxLen) (hd0 : ∀ x ∈ dl, 0 ≤ x) : ∃ r, resume_Verify.f p ls dl w slots = some r ∧ ref31_Verify.f p ls dl w slots = some r := by
  obtain ⟨i1, i2, i3⟩ := icode_scode (p := p) (ls := ls) (dl := dl) (w := w)
  by_cases hs : scode p ls dl w = 0
  · obtain ⟨n, v, rfl, rfl, S⟩ := scode_good hs hd0
    obtain ⟨r, e, h1⟩ := verify_good S slots
    obtain ⟨q, e', h2⟩ := refverify_good S slots
    have := h1.uniq h2
    subst this
    exact ⟨_, e, e'⟩
  · refine ⟨_, verify_bad h hd hs, ?_⟩
    unfold ref31_Verify.f
    rw [input31_ok p ls dl w h hd, Option.bind_some]
    by_cases hi : icode p ls dl w = 0
    · have hw : w = 0 := Classical.byContradiction fun hw => hs (i3 hi hw)
      rw [if_neg (by simp [hi]), if_pos (by simp [hw]), Option.bind_some, if_pos rfl, i2 hi hw]
    · rw [if_pos (by simpa using hi), i1 hi]
end Go.Proofs.Ythmjgadmadlpkaa.Sim

namespace Go.Proofs.Ythmjgadmadlpkaa.Sim
open Go
set_option linter.unusedVariables false
set_option maxRecDepth 100000

theorem resumeVerifyAgrees : law31_ResumeVerifyAgrees.Pure := by
  intro p0 p1 p2 p3 p4 p5 p6 p7 _ h1 h2 _ h4 _ _ _
  unfold law31_ResumeVerifyAgrees.f
  by_cases hb : 40 < p1.length ∨ 20 < p4.length
  · rw [if_pos (by simp; omega), awake31_ok]; rfl
  · rw [if_neg (by simp; omega)]
    obtain ⟨n, ls, e1, g⟩ := graph_ok p0 p1 true h1.1
    have hn := g.n13
    have hll : ls.length ≤ maxLen := by have := g.good.len; rw [maxLen_eq]; omega
    obtain ⟨w, e2, e3, w0, w1⟩ := mod1_ok p3 4 (by omega) (by omega)
    have hp2 : ∀ x ∈ p2, 0 ≤ x := fun x hx => (u64_range (h2.2 x hx)).1
    obtain ⟨dl, e4, d1, d2⟩ := durations_ok n (by omega) p2 hp2 h2.1
    have hdl : dl.length ≤ maxLen := by rw [maxLen_eq]; omega
    have hd0 : ∀ x ∈ dl, 0 ≤ x := fun x hx => (d2 x hx).1
    have S := goodS_of g d1 d2 (w := w) w0 (by omega)
    obtain ⟨m, out, e5, SC⟩ := refsched_good S
    have hlen := SC.dn.len
    obtain ⟨r, a1, a2⟩ := verify_same (p := (n : Int)) (ls := ls) (dl := dl) (w := (w : Int)) p4 hll hdl hd0
    obtain ⟨r', a1', a2'⟩ := verify_same (p := p0) (ls := p1) (dl := p2) (w := p3) p4 h1.1 h2.1 hp2
    have e2' : help_Mod.f p3 4 = some ((w : Int) - 1) := e2
    rw [e1, Option.bind_some, e2', Option.bind_some]
    simp only
    rw [e4, Option.bind_some, e3, a1, Option.bind_some, a2, Option.bind_some, if_neg (by simp), a1', Option.bind_some, a2', Option.bind_some, Option.bind_some, if_neg (by simp), e5, Option.bind_some]
    by_cases h0 : out.length = 0
    · rw [if_pos (by simp [h0]), awake31_ok]; rfl
    · rw [if_neg (by simpa using h0)]
      obtain ⟨i, e6, i0, i1⟩ := mod_ok (x := p5) (n := (out.length : Int)) (by omega) (by omega)
      obtain ⟨x, hx, hm⟩ := idx_of (xs := out) i0 i1
      have hfin : ∀ (v : List api_Slot), ((resume_Verify.f n ls dl w v).bind fun r321 => (ref31_Verify.f n ls dl w v).bind fun r330 => (if (r321 == r330) = true then (law31_awake.f ).bind fun r337 => some r337 else some false).bind fun t341 => some t341) = some true := fun v => by
        obtain ⟨q, b1, b2⟩ := verify_same (p := (n : Int)) (ls := ls) (dl := dl) (w := (w : Int)) v hll hdl hd0
        rw [b1, Option.bind_some, b2, Option.bind_some, if_pos (by simp), awake31_ok]; rfl
      have hu : ∀ y, idx (upd out i y) i = some y := fun y => by rw [idx_upd i0 i0 i1, if_pos rfl]
      rw [e6, Option.bind_some]
      obtain ⟨q, e7, _, _⟩ := mod_ok (x := wi (Int.tmod p6 8)) (n := wi ((w : Int) + 1)) (by rw [wi_id (by omega) (by omega)]; omega) (by rw [wi_id (by omega) (by omega)]; omega)
      have es : slc out 1 (out.length : Int) = some (out.drop 1) := slc_back (l := 1) (by omega)
      simp only [hx, hu, e7, es, Option.bind_some]
      have hg : ∀ (o : Option (List api_Slot)), (∃ v, o = some v) → (o.bind fun v => (resume_Verify.f n ls dl w v).bind fun r321 => (ref31_Verify.f n ls dl w v).bind fun r330 => (if (r321 == r330) = true then (law31_awake.f ).bind fun r337 => some r337 else some false).bind fun t341 => some t341) = some true := fun o ⟨v, hv⟩ => by rw [hv]; exact hfin v
      refine hg _ ?_
      split
      · exact ⟨_, rfl⟩
      split
      · exact ⟨_, rfl⟩
      split
      · exact ⟨_, rfl⟩
      split
      · exact ⟨_, rfl⟩
      split
      · exact ⟨_, rfl⟩
      · exact ⟨_, rfl⟩
end Go.Proofs.Ythmjgadmadlpkaa.Sim
