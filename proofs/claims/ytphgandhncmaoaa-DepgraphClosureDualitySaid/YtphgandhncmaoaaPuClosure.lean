/-
  The laws of suppliers and consumers, about plain values.
-/
import Derived.Test.YtphgandhncmaoaaG7
import Derived.Test.YtphgandhncmaoaaLwDepgraphClosuresAgree
import Derived.Test.YtphgandhncmaoaaLwDepgraphClosureDuality
namespace Go.Proofs.Ytphgandhncmaoaa.Sim
open Go
set_option linter.unusedVariables false

theorem closAgree_l0 {n : Nat} {ls : List api_Link} (hn : n ≤ 128) (of : List Int) (hof : of.length ≤ 20) : ∃ s, law24_DepgraphClosuresAgree.l0 of ((n : Int), ls) FUEL [] 0 = some s ∧ s.length ≤ 20 := by
  refine loop_c (L := fun k (s : List Int) i => law24_DepgraphClosuresAgree.l0 of ((n : Int), ls) k s i) of.length (fun i s => s.length ≤ i) (fun o => ∃ s, o = some s ∧ s.length ≤ 20) ?_ ?_ FUEL 0 [] (Nat.zero_le _) (FUEL_pos (by omega)) (by simp)
  · intro k s i hi hs
    rw [law24_DepgraphClosuresAgree.l0]
    by_cases h0 : 0 < n
    · rw [if_pos (by simp; omega), idx_get hi, Option.bind_some]
      obtain ⟨r, hr, _, _⟩ := mod_ok (x := of[i]) (n := (n : Int)) (by omega) (by omega)
      simp only
      rw [hr, Option.bind_some, app_ok (by simp; omega), Option.bind_some]
      exact .inl ⟨s ++ [r], by simp; omega, by rw [wi_succ (by omega)]⟩
    · rw [if_neg (by simp; omega)]
      exact .inr ⟨s, rfl, by omega⟩
  · intro k s hs
    rw [law24_DepgraphClosuresAgree.l0, if_neg (by simp)]
    exact ⟨s, rfl, by omega⟩

theorem closuresAgree : law24_DepgraphClosuresAgree.Pure := by
  intro p0 p1 p2 _ ⟨hl, _⟩ ⟨hl2, _⟩
  unfold law24_DepgraphClosuresAgree.f
  by_cases h : ((decide (40 < (p1.length : Int))) || (decide (20 < (p2.length : Int)))) = true
  · rw [if_pos h, awake_ok]; rfl
  · rw [if_neg h]
    have h20 : p2.length ≤ 20 := by simp at h; omega
    obtain ⟨n, ls, e, g⟩ := graph_ok p0 p1 false hl
    have hls : ls.length ≤ maxLen := by have := g.len; rw [maxLen_eq]; omega
    have hn := g.good.n128
    rw [e, Option.bind_some]
    obtain ⟨s, hs, hs20⟩ := closAgree_l0 (n := n) (ls := ls) hn p2 h20
    have hsm : s.length ≤ maxLen := by rw [maxLen_eq]; omega
    have ln : ∀ down p ls of, (clres down p ls of).1.length ≤ maxLen := fun down p ls of => by have := clres_len down p ls of; rw [maxLen_eq]; omega
    rw [hs, Option.bind_some]
    simp only
    rw [suppliers_ok (n : Int) ls s hls hsm, refsuppliers_ok (n : Int) ls s hls hsm, consumers_ok (n : Int) ls s hls hsm, refconsumers_ok (n : Int) ls s hls hsm,
      suppliers_ok (n : Int) ls p2 hls hl2, refsuppliers_ok (n : Int) ls p2 hls hl2, consumers_ok p0 p1 p2 hl hl2, refconsumers_ok p0 p1 p2 hl hl2]
    simp only [Option.bind_some, bne_self_eq_false, Bool.or_self, Bool.false_eq_true, if_false, equal_ok _ _ (ln _ _ _ _), decide_true, Bool.not_true, beq_self_eq_true, Bool.and_self, if_true, awake_ok]

theorem closureDuality : law24_DepgraphClosureDuality.Pure := by
  intro p0 p1 p2 p3 _ ⟨hl, _⟩ _ _
  unfold law24_DepgraphClosureDuality.f
  by_cases h : 40 < (p1.length : Int)
  · rw [if_pos (decide_eq_true h), awake_ok]; rfl
  · rw [if_neg (by simpa using h)]
    obtain ⟨n, ls, e, g⟩ := graph_ok p0 p1 false hl
    have hls : ls.length ≤ maxLen := by have := g.len; rw [maxLen_eq]; omega
    have hn := g.good.n128
    rw [e, Option.bind_some]
    simp only
    by_cases h0 : n = 0
    · subst h0; rw [if_pos (by decide), awake_ok]; rfl
    · rw [if_neg (by simp; omega)]
      obtain ⟨a, ha, a0, a1⟩ := mod_ok (x := p2) (n := (n : Int)) (by omega) (by omega)
      obtain ⟨b, hb, b0, b1⟩ := mod_ok (x := p3) (n := (n : Int)) (by omega) (by omega)
      rw [ha, Option.bind_some, hb, Option.bind_some]
      have g' := g.good
      have one : ∀ x : Int, 0 ≤ x → x < n → ([x] : List Int).any (badV n) = false := fun x h0 h1 => by
        simp only [List.any_cons, List.any_nil, Bool.or_false]; exact badV_iff.2 ⟨h0, h1⟩
      have e1 : clres true (n : Int) ls [a] = (upto n (Rch true ls [a]), 0) := by rw [clres_good g', one a a0 a1]; rfl
      have e2 : clres false (n : Int) ls [b] = (upto n (Rch false ls [b]), 0) := by rw [clres_good g', one b b0 b1]; rfl
      have e3 : clres true (n : Int) ls (upto n (Rch true ls [a])) = (upto n (Rch true ls [a]), 0) := by
        rw [clres_good g']
        rw [if_neg (by
          rw [Bool.not_eq_true, List.any_eq_false]
          intro x hx
          rw [Bool.not_eq_true]
          exact badV_iff.2 (mem_upto.1 hx).1)]
        congr 1
        refine upto_congr fun v v0 v1 => ?_
        unfold Rch
        simp only [if_true, List.mem_singleton]
        constructor
        · rintro ⟨x, hx, e⟩
          obtain ⟨_, y, rfl, e'⟩ := mem_upto.1 hx
          rcases e with rfl | e
          · exact ⟨y, rfl, e'⟩
          · rcases e' with rfl | e'
            · exact ⟨x, rfl, .inr e⟩
            · exact ⟨y, rfl, .inr (e'.trans e)⟩
        · rintro ⟨x, rfl, e⟩
          exact ⟨v, mem_upto.2 ⟨⟨v0, v1⟩, x, rfl, e⟩, .inl rfl⟩
      have hu := upto_len n (Rch true ls [a])
      have hd := upto_len n (Rch false ls [b])
      have m1 : (upto n (Rch true ls [a])).length ≤ maxLen := by rw [maxLen_eq]; omega
      have m2 : (upto n (Rch false ls [b])).length ≤ maxLen := by rw [maxLen_eq]; omega
      rw [suppliers_ok (n : Int) ls [a] hls (by simp [maxLen_eq]), Option.bind_some, consumers_ok (n : Int) ls [b] hls (by simp [maxLen_eq]), Option.bind_some, e1, e2]
      simp only
      rw [suppliers_ok (n : Int) ls _ hls m1, Option.bind_some, e3]
      simp only [beq_self_eq_true, Bool.and_self, if_true]
      rw [contains_ok _ _ m1, contains_ok _ _ m2, contains_ok _ _ m1, equal_ok _ _ m1, awake_ok]
      have hiff : b ∈ upto n (Rch true ls [a]) ↔ a ∈ upto n (Rch false ls [b]) := by
        rw [mem_upto, mem_upto]
        unfold Rch
        simp only [if_true, List.mem_singleton, Bool.false_eq_true, if_false]
        constructor
        · rintro ⟨_, x, rfl, e⟩
          refine ⟨⟨a0, a1⟩, b, rfl, ?_⟩
          rcases e with e | e
          · exact .inl e.symm
          · exact .inr e
        · rintro ⟨_, x, rfl, e⟩
          refine ⟨⟨b0, b1⟩, a, rfl, ?_⟩
          rcases e with e | e
          · exact .inl e.symm
          · exact .inr e
      have hself : a ∈ upto n (Rch true ls [a]) := mem_upto.2 ⟨⟨a0, a1⟩, a, List.mem_singleton.2 rfl, .inl rfl⟩
      have hdec : decide (b ∈ upto n (Rch true ls [a])) = decide (a ∈ upto n (Rch false ls [b])) := by rw [decide_eq_decide]; exact hiff
      simp only [Option.bind_some, hdec, beq_self_eq_true, if_true, decide_eq_true hself, decide_true]

end Go.Proofs.Ytphgandhncmaoaa.Sim
