/-
  The laws of the order and of the check of a graph, about plain values.
-/
import Derived.Test.YtphgandhncmaoaaG4
import Derived.Test.YtphgandhncmaoaaLwDepgraphOrderAgrees
import Derived.Test.YtphgandhncmaoaaLwDepgraphOrderIsTopological
import Derived.Test.YtphgandhncmaoaaLwDepgraphCheckAgrees
namespace Go.Proofs.Ytphgandhncmaoaa.Sim
open Go
set_option linter.unusedVariables false

theorem Gr.lenM {n : Nat} {ls : List api_Link} {b : Bool} (g : Gr n ls b) : ls.length ≤ maxLen := by have := g.len; rw [maxLen_eq]; omega

theorem orderAgrees : law24_DepgraphOrderAgrees.Pure := by
  intro p0 p1 p2 _ ⟨hl, _⟩
  unfold law24_DepgraphOrderAgrees.f
  by_cases h : 40 < (p1.length : Int)
  · rw [if_pos (decide_eq_true h), awake_ok]; rfl
  · rw [if_neg (by simpa using h)]
    obtain ⟨n, ls, e, g⟩ := graph_ok p0 p1 p2 hl
    rw [e]
    simp only [Option.bind_some]
    rw [order_ok p0 p1 hl, reforder_ok p0 p1 hl, order_ok (n : Int) ls g.lenM, reforder_ok (n : Int) ls g.lenM]
    simp only [Option.bind_some, beq_self_eq_true, Bool.and_self, if_true, equal_ok _ _ (ores_len _ _), decide_true, awake_ok]

theorem checkAgrees : law24_DepgraphCheckAgrees.Pure := by
  intro p0 p1 _ ⟨hl, _⟩
  unfold law24_DepgraphCheckAgrees.f
  by_cases h : 40 < (p1.length : Int)
  · rw [if_pos (decide_eq_true h), awake_ok]; rfl
  · rw [if_neg (by simpa using h)]
    obtain ⟨n, ls, e, g⟩ := graph_ok p0 p1 false hl
    obtain ⟨n', ls', e', g'⟩ := graph_ok p0 p1 true hl
    rw [e, e']
    simp only [Option.bind_some]
    rw [check_ok p0 p1 hl, refcheck_ok p0 p1 hl, check_ok (n : Int) ls g.lenM, refcheck_ok (n : Int) ls g.lenM, check_ok (n' : Int) ls' g'.lenM, refcheck_ok (n' : Int) ls' g'.lenM]
    simp only [Option.bind_some, beq_self_eq_true, if_true, awake_ok]

theorem rank_path {ls : List api_Link} {r : Int → Int} (h : ∀ l ∈ ls, r l.Supplier < r l.Consumer) {a b : Int} (hp : Path ls a b) : r b < r a := by
  induction hp with
  | one h1 => exact h _ h1
  | more h1 _ ih => have := h _ h1; simp only at this; omega

theorem Gr.full {n : Nat} {ls : List api_Link} (g : Gr n ls true) : (ord n ls).length = n := by
  obtain ⟨r, hr⟩ := g.down rfl
  have := ord_le n ls
  refine Classical.byContradiction fun hne => ?_
  obtain ⟨i, _, _, hp⟩ := ord_cyclic g.good (by omega)
  have := rank_path hr hp
  omega

theorem Gr.ores {n : Nat} {ls : List api_Link} (g : Gr n ls true) : Sim.ores (n : Int) ls = (ord n ls, 0) := by
  have hc : ccode (n : Int) ls = 0 := by rw [ccode_good g.good, if_neg (by have := g.full; omega)]
  unfold Sim.ores
  rw [hc]; rfl

theorem Run.take {n : Nat} {ls : List api_Link} {out : List Int} (h : Run n ls out) : ∀ i (hi : i < out.length), least n ls (out.take i) = some out[i] := by
  induction h with
  | nil => intro i hi; simp at hi
  | @snoc out v h hv ih =>
    intro i hi
    rw [List.length_append, List.length_singleton] at hi
    by_cases e : i < out.length
    · rw [List.take_append_of_le_length (by omega), List.getElem_append_left e]; exact ih i e
    · have : i = out.length := by omega
      subst this
      rw [List.take_append_of_le_length (Nat.le_refl _), List.take_length, List.getElem_append_right (Nat.le_refl _)]
      simpa using hv

theorem topo_l2 {n : Nat} {ls : List api_Link} (g : GoodG n ls) {done : List Bool} {out : List Int} (hs : Says n done out) (v : Int) (b : Bool) (hb : b = decide (v ∉ out)) :
    law24_DepgraphOrderIsTopological.l2 ((n : Int), ls) done v FUEL b 0 = some (free ls out v) := by
  have hl := g.len
  refine loop_c (L := fun k (s : Bool) i => law24_DepgraphOrderIsTopological.l2 ((n : Int), ls) done v k s i) ls.length (fun i s => s = free (ls.take i) out v) (fun o => o = some (free ls out v)) ?_ ?_ FUEL 0 b (Nat.zero_le _) (FUEL_pos (by omega)) (by subst hb; simp [free])
  · rintro k s i hi rfl
    rw [law24_DepgraphOrderIsTopological.l2]
    have hm := List.getElem_mem hi
    have hsx := g.s0 _ hm
    rw [if_pos (by simp only [decide_eq_true_eq]; omega)]
    refine .inl ⟨_, rfl, ?_⟩
    rw [wi_succ (by omega)]
    by_cases hf : free (ls.take i) out v = true
    · rw [if_pos hf, idx_get (xs := ls) hi]
      simp only [Option.bind_some]
      obtain ⟨f1, f2⟩ := free_iff.1 hf
      by_cases e : ls[i].Consumer = v
      · rw [if_neg (by simp [e]), hs.2 _ hsx.1 hsx.2]
        simp only [Option.bind_some]
        by_cases hin : ls[i].Supplier ∈ out
        · have : free (ls.take (i + 1)) out v = true := free_iff.2 ⟨f1, fun l hl' hc => by
            rcases (mem_take_succ hi).1 hl' with h | h
            · exact f2 l h hc
            · subst h; exact hin⟩
          rw [this]; simp [hin]
        · have : free (ls.take (i + 1)) out v = false := by
            rw [Bool.eq_false_iff]
            intro h
            exact hin ((free_iff.1 h).2 _ ((mem_take_succ hi).2 (.inr rfl)) e)
          rw [this]; simp [hin]
      · rw [if_pos (by simp [e])]
        have : free (ls.take (i + 1)) out v = true := free_iff.2 ⟨f1, fun l hl' hc => by
            rcases (mem_take_succ hi).1 hl' with h | h
            · exact f2 l h hc
            · subst h; exact absurd hc e⟩
        rw [this]; rfl
    · rw [if_neg hf]
      have : free (ls.take (i + 1)) out v = false := by
        rw [Bool.eq_false_iff]
        intro h
        obtain ⟨h1, h2⟩ := free_iff.1 h
        exact hf (free_iff.2 ⟨h1, fun l hl' => h2 l ((mem_take_succ hi).2 (.inl hl'))⟩)
      rw [this]; rfl
  · rintro k s rfl
    rw [law24_DepgraphOrderIsTopological.l2, if_neg (by simp), List.take_length]

theorem topo_l1 {n : Nat} {ls : List api_Link} (g : GoodG n ls) {done : List Bool} {out : List Int} (hs : Says n done out) : ∃ next, law24_DepgraphOrderIsTopological.l1 ((n : Int), ls) done FUEL (-1) (wi ((n : Int) - 1)) = some next ∧ Down n ls out 0 next := by
  have hn := g.n128
  rw [wi_id (by omega) (by omega)]
  refine loop_m (L := fun k (s : Int × Nat) => law24_DepgraphOrderIsTopological.l1 ((n : Int), ls) done k s.1 ((s.2 : Int) - 1)) (fun s => s.2 ≤ n ∧ Down n ls out s.2 s.1) (fun s => s.2) (fun o => ∃ next, o = some next ∧ Down n ls out 0 next) ?_ FUEL (-1, n) ⟨Nat.le_refl _, .inl ⟨rfl, fun v h1 h2 => by omega⟩⟩ (FUEL_pos (by show n ≤ _; omega))
  rintro k ⟨next, j⟩ ⟨hj, hd⟩
  simp only at hj hd ⊢
  rw [law24_DepgraphOrderIsTopological.l1]
  cases j with
  | zero => rw [if_neg (by simp)]; exact .inr ⟨next, rfl, hd⟩
  | succ j =>
    have e : (((j + 1 : Nat) : Int) - 1) = (j : Int) := by omega
    rw [e, if_pos (by simp), hs.2 _ (by omega) (by omega)]
    simp only [Option.bind_some]
    rw [topo_l2 g hs (j : Int) _ (by simp)]
    simp only [Option.bind_some]
    refine .inl ⟨(if free ls out (j : Int) = true then (j : Int) else next, j), ⟨by omega, hd.step (by omega)⟩, by show j < j + 1; omega, ?_⟩
    have e2 : wi ((j : Int) - 1) = (j : Int) - 1 := wi_id (by omega) (by omega)
    rw [e2]
    split <;> rfl

theorem orderIsTopological : law24_DepgraphOrderIsTopological.Pure := by
  intro p0 p1 _ ⟨hl, _⟩
  unfold law24_DepgraphOrderIsTopological.f
  by_cases h : 40 < (p1.length : Int)
  · rw [if_pos (decide_eq_true h), awake_ok]; rfl
  · rw [if_neg (by simpa using h)]
    obtain ⟨n, ls, e, g⟩ := graph_ok p0 p1 true hl
    have hn := g.n13
    have hfull := g.full
    rw [e]
    simp only [Option.bind_some]
    rw [order_ok (n : Int) ls g.lenM, g.ores]
    simp only [Option.bind_some]
    rw [if_neg (by simp [hfull]), mk_ok (by omega)]
    simp only [Option.bind_some]
    have key : law24_DepgraphOrderIsTopological.l0 ((n : Int), ls) (ord n ls, 0) FUEL (List.replicate n false) 0 = some (.nxt ()) := by
      refine loop_c (L := fun k (s : List Bool) i => law24_DepgraphOrderIsTopological.l0 ((n : Int), ls) (ord n ls, 0) k s i) n (fun i s => Says n s ((ord n ls).take i)) (fun o => o = some (.nxt ())) ?_ ?_ FUEL 0 _ (Nat.zero_le _) (FUEL_pos (by omega)) (by simpa using Says.nil n)
      · intro k s i hi hs
        have hio : i < (ord n ls).length := by omega
        have hlst := (ord_run n ls).1.take i hio
        rw [law24_DepgraphOrderIsTopological.l0, if_pos (by simp only [decide_eq_true_eq]; omega)]
        obtain ⟨next, h1, h2⟩ := topo_l1 g.good hs
        rw [h1]
        simp only [Option.bind_some]
        rcases h2.zero with ⟨_, h3⟩ | ⟨h3, h4⟩
        · rw [hlst] at h3; cases h3
        · rw [hlst] at h4; injection h4 with h4
          obtain ⟨q0, q1, _, _⟩ := least_some hlst
          rw [if_neg (by simp only [decide_eq_true_eq]; omega), idx_get (xs := ord n ls) hio]
          simp only [Option.bind_some]
          rw [if_neg (by simp [h4]), hs.2 next h3 (by rw [← h4]; exact q1)]
          refine .inl ⟨upd s next true, ?_, by rw [wi_succ (by omega)]; rfl⟩
          rw [List.take_succ_eq_append_getElem hio, h4]
          exact hs.snoc h3
      · intro k s hs
        rw [law24_DepgraphOrderIsTopological.l0, if_neg (by simp)]
    rw [key, awake_ok]
    rfl

end Go.Proofs.Ytphgandhncmaoaa.Sim
