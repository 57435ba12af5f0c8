/-
  The law of levels, about plain values.
-/
import Derived.Test.YtphgandhncmaoaaG6
import Derived.Test.YtphgandhncmaoaaLwDepgraphLevelsAgree
namespace Go.Proofs.Ytphgandhncmaoaa.Sim
open Go
set_option linter.unusedVariables false

theorem levAgree_l1 {n : Nat} {ls : List api_Link} (g : GoodG n ls) {r : List Int} {e : Int} (hr : Lev n ls r) {i : Nat} (hi : i < n) :
    law24_DepgraphLevelsAgree.l1 ((n : Int), ls) (r, e) (i : Int) (lv r (i : Int)) FUEL (lv r (i : Int) == 0) 0 = some (.nxt true) := by
  have hl := g.len
  have hn := g.n128
  have m := hr.mx (i : Int) (by omega) (by omega)
  refine loop_c (L := fun k (s : Bool) j => law24_DepgraphLevelsAgree.l1 ((n : Int), ls) (r, e) (i : Int) (lv r (i : Int)) k s j) ls.length
    (fun j s => s = true ∨ ((∀ t, api_Link.mk (i : Int) t ∈ ls.take j → lv r (i : Int) ≠ lv r t + 1) ∧ lv r (i : Int) ≠ 0)) (fun o => o = some (.nxt true)) ?_ ?_ FUEL 0 _ (Nat.zero_le _) (FUEL_pos (by omega)) ?_
  · intro k s j hj hI
    have hm := List.getElem_mem hj
    have hs0 := g.s0 _ hm
    rw [law24_DepgraphLevelsAgree.l1, if_pos (by simp only [decide_eq_true_eq]; omega), idx_get (xs := ls) hj]
    simp only [Option.bind_some]
    by_cases e1 : ls[j].Consumer = (i : Int)
    · have hlink : api_Link.mk (i : Int) ls[j].Supplier = ls[j] := by rw [← e1]
      rw [if_pos (by simp [e1]), idx_lv hr.len hs0.1 hs0.2]
      simp only [Option.bind_some]
      have hub := m.ub ls[j].Supplier (by rw [hlink]; exact hm) trivial
      have h1 := hr.nn (i : Int)
      have h2 := hr.le (i : Int) (by omega) (by omega)
      rw [if_neg (by simp; omega)]
      simp only [Option.bind_some, Fl.go]
      refine .inl ⟨_, ?_, by rw [wi_succ (by omega)]⟩
      rcases hI with rfl | ⟨q1, q2⟩
      · exact .inl rfl
      · by_cases e2 : lv r ls[j].Supplier = wi (lv r (i : Int) - 1)
        · left; rw [e2]; simp
        · right
          refine ⟨fun t ht => ?_, q2⟩
          rcases (mem_take_succ hj).1 ht with h | h
          · exact q1 t h
          · rw [← hlink] at h; injection h with _ h; subst h
            rw [wi_id (by omega) (by omega)] at e2; omega
    · rw [if_neg (by simp [e1])]
      refine .inl ⟨s, ?_, by rw [wi_succ (by omega)]; rfl⟩
      rcases hI with rfl | ⟨q1, q2⟩
      · exact .inl rfl
      · refine .inr ⟨fun t ht => ?_, q2⟩
        rcases (mem_take_succ hj).1 ht with h | h
        · exact q1 t h
        · exact absurd (by rw [← h]) e1
  · intro k s hI
    rw [law24_DepgraphLevelsAgree.l1, if_neg (by simp)]
    rcases hI with rfl | ⟨q1, q2⟩
    · rfl
    · rw [List.take_length] at q1
      rcases m.at_ with e | ⟨t, h1, _, h2⟩
      · exact absurd e q2
      · exact absurd h2 (q1 t h1)
  · by_cases e : lv r (i : Int) = 0
    · left; simp [e]
    · right; exact ⟨fun t ht => by simp at ht, e⟩

theorem levelsAgree : law24_DepgraphLevelsAgree.Pure := by
  intro p0 p1 p2 _ ⟨hl, _⟩
  unfold law24_DepgraphLevelsAgree.f
  by_cases h : 40 < (p1.length : Int)
  · rw [if_pos (decide_eq_true h), awake_ok]; rfl
  · rw [if_neg (by simpa using h)]
    obtain ⟨n, ls, e, g⟩ := graph_ok p0 p1 p2 hl
    have hls : ls.length ≤ maxLen := by have := g.len; rw [maxLen_eq]; omega
    rw [e]
    simp only [Option.bind_some]
    obtain ⟨r, e1, e2, e3, e4⟩ := levels_ok (n : Int) ls hls
    obtain ⟨r', e1', e2', _, _⟩ := levels_ok p0 p1 hl
    rw [e1, e2, e1', e2']
    simp only [Option.bind_some]
    have hn := g.n13
    rw [if_neg (by simp), equal_ok _ _ (by rw [maxLen_eq]; omega)]
    simp only [Option.bind_some, decide_true, Bool.not_true, Bool.false_eq_true, if_false]
    have key : law24_DepgraphLevelsAgree.l0 ((n : Int), ls) r FUEL 0 = some (.nxt ()) := by
      obtain ⟨l, c⟩ := r
      by_cases hc : c = 0
      · have hr := e4 n rfl g.good hc
        simp only at hr
        have hlen := hr.len
        refine loop_c (L := fun k (_ : Unit) i => law24_DepgraphLevelsAgree.l0 ((n : Int), ls) (l, c) k i) n (fun _ _ => True) (fun o => o = some (.nxt ())) ?_ ?_ FUEL 0 () (Nat.zero_le _) (FUEL_pos (by omega)) trivial
        · intro k _ i hi _
          rw [law24_DepgraphLevelsAgree.l0, if_pos (by simp only [decide_eq_true_eq]; omega), idx_lv hlen (by omega) (by omega)]
          simp only [Option.bind_some]
          rw [levAgree_l1 g.good hr hi]
          simp only [Option.bind_some, Fl.go, Bool.not_true, Bool.false_eq_true, if_false]
          exact .inl ⟨(), trivial, by rw [wi_succ (by omega)]⟩
        · intro k _ _
          rw [law24_DepgraphLevelsAgree.l0, if_neg (by simp only [decide_eq_true_eq]; omega)]
      · have hemp : l = [] := by
          unfold depgraph_Levels.f at e1
          rw [order_ok (n : Int) ls hls] at e1
          simp only [Option.bind_some] at e1
          by_cases hv : (ores (n : Int) ls).2 = 0
          · rw [if_neg (by simp [hv])] at e1
            obtain ⟨adj, cnt, ha, _, _, _⟩ := adjacent_ok g.good
            rw [ha] at e1
            simp only [Option.bind_some] at e1
            obtain ⟨y, _, e1⟩ := bind_el e1
            obtain ⟨z, _, e1⟩ := bind_el e1
            injection e1 with e1
            injection e1 with _ e1
            exact absurd e1.symm hc
          · rw [if_pos (by simpa using hv)] at e1
            injection e1 with e1
            injection e1 with e1 _
            exact e1.symm
        subst hemp
        have hf : FUEL = (FUEL - 1) + 1 := by unfold FUEL; rfl
        rw [hf, law24_DepgraphLevelsAgree.l0, if_neg (by simp)]
    rw [key, awake_ok]
    rfl

end Go.Proofs.Ytphgandhncmaoaa.Sim
