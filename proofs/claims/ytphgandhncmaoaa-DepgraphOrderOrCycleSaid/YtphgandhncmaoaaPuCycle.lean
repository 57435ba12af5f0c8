/-
  The laws of cycles, about plain values.
-/
import Derived.Test.YtphgandhncmaoaaG5
import Derived.Test.YtphgandhncmaoaaLwDepgraphCycleAgrees
import Derived.Test.YtphgandhncmaoaaLwDepgraphOrderOrCycle
namespace Go.Proofs.Ytphgandhncmaoaa.Sim
open Go
set_option linter.unusedVariables false

theorem cycleAgrees : law24_DepgraphCycleAgrees.Pure := by
  intro p0 p1 _ ⟨hl, _⟩
  unfold law24_DepgraphCycleAgrees.f
  by_cases h : 40 < (p1.length : Int)
  · rw [if_pos (decide_eq_true h), awake_ok]; rfl
  · rw [if_neg (by simpa using h)]
    obtain ⟨n, ls, e, g⟩ := graph_ok p0 p1 false hl
    have hls : ls.length ≤ maxLen := by have := g.len; rw [maxLen_eq]; omega
    rw [e]
    simp only [Option.bind_some]
    rw [cycle_ok p0 p1 hl, refcycle_ok p0 p1 hl, cycle_ok (n : Int) ls hls, refcycle_ok (n : Int) ls hls]
    have h1 := cres_len p0 p1
    have h2 := cres_len (n : Int) ls
    simp only [Option.bind_some, beq_self_eq_true, Bool.and_self, if_true]
    rw [equal_ok _ _ (by rw [maxLen_eq]; omega), equal_ok _ _ (by rw [maxLen_eq]; omega), awake_ok]
    simp

theorem orderOrCycle : law24_DepgraphOrderOrCycle.Pure := by
  intro p0 p1 _ ⟨hl, _⟩
  unfold law24_DepgraphOrderOrCycle.f
  by_cases h : 40 < (p1.length : Int)
  · rw [if_pos (decide_eq_true h), awake_ok]; rfl
  · rw [if_neg (by simpa using h)]
    obtain ⟨n, ls, e, g⟩ := graph_ok p0 p1 false hl
    have hls : ls.length ≤ maxLen := by have := g.len; rw [maxLen_eq]; omega
    rw [e]
    simp only [Option.bind_some]
    rw [order_ok (n : Int) ls hls, cycle_ok (n : Int) ls hls]
    simp only [Option.bind_some]
    have hn := g.good.n128
    have hcode := ccode_good g.good
    have hv := good_vcode g.good
    by_cases hc : (ord n ls).length < n
    · rw [if_pos hc] at hcode
      have eo : ores (n : Int) ls = ([], 18) := by unfold ores; rw [hcode]; rfl
      have ec : cres (n : Int) ls = (cyc n ls, 0) := by unfold cres; rw [if_pos hv]; simp only [Int.toNat_natCast]; rw [if_pos hc]
      have hr := cyc_res g.good hc
      have hlen := cres_len (n : Int) ls
      rw [ec] at hlen
      simp only at hlen
      rw [eo, ec, if_neg (by decide), if_neg (by simp; have := hr.ne; intro h; rw [h] at this; simp at this)]
      have key : law24_DepgraphOrderOrCycle.l0 ((n : Int), ls) (cyc n ls, 0) FUEL 0 = some (.nxt ()) := by
        refine loop_c (L := fun k (_ : Unit) i => law24_DepgraphOrderOrCycle.l0 ((n : Int), ls) (cyc n ls, 0) k i) (cyc n ls).length (fun _ _ => True) (fun o => o = some (.nxt ())) ?_ ?_ FUEL 0 () (Nat.zero_le _) (FUEL_pos (by omega)) trivial
        · intro k _ i hi _
          rw [law24_DepgraphOrderOrCycle.l0, if_pos (by simp only [decide_eq_true_eq]; omega), idx_get (xs := cyc n ls) hi]
          simp only [Option.bind_some]
          rw [if_neg (by have := hr.ne; omega)]
          have em : Int.tmod (wi ((i : Int) + 1)) ((cyc n ls).length : Int) = (((i + 1) % (cyc n ls).length : Nat) : Int) := by
            rw [wi_succ (by omega), Int.tmod_eq_emod_of_nonneg (by omega)]; rfl
          rw [em, idx_get (xs := cyc n ls) (Nat.mod_lt _ hr.ne)]
          simp only [Option.bind_some]
          rw [linked_ok ls _ _ hls, decide_eq_true (hr.link i hi)]
          simp only [Option.bind_some, Bool.not_true, Bool.false_eq_true, if_false]
          have inner : law24_DepgraphOrderOrCycle.l1 (cyc n ls, 0) (i : Int) (cyc n ls)[i] FUEL 0 = some (.nxt ()) := by
            refine loop_c (L := fun k (_ : Unit) j => law24_DepgraphOrderOrCycle.l1 (cyc n ls, 0) (i : Int) (cyc n ls)[i] k j) i (fun _ _ => True) (fun o => o = some (.nxt ())) ?_ ?_ FUEL 0 () (Nat.zero_le _) (FUEL_pos (by omega)) trivial
            · intro k _ j hj _
              rw [law24_DepgraphOrderOrCycle.l1, if_pos (by simp only [decide_eq_true_eq]; omega), idx_get (xs := cyc n ls) (by omega)]
              simp only [Option.bind_some]
              have hne : (cyc n ls)[i] ≠ (cyc n ls)[j] := fun e => by
                have := (List.getElem_inj hr.nodup).1 e; omega
              rw [if_neg (by simpa using hne)]
              exact .inl ⟨(), trivial, by rw [wi_succ (by omega)]⟩
            · intro k _ _
              rw [law24_DepgraphOrderOrCycle.l1, if_neg (by simp)]
          rw [inner]
          exact .inl ⟨(), trivial, by rw [wi_succ (by omega)]; rfl⟩
        · intro k _ _
          rw [law24_DepgraphOrderOrCycle.l0, if_neg (by simp)]
      rw [key, awake_ok]; rfl
    · rw [if_neg hc] at hcode
      have eo : ores (n : Int) ls = (ord n ls, 0) := by unfold ores; rw [hcode]; rfl
      have ec : cres (n : Int) ls = ([], 6) := by unfold cres; rw [if_pos hv]; simp only [Int.toNat_natCast]; rw [if_neg hc]
      rw [eo, ec, if_pos (by simp), if_pos (by simp), awake_ok]; rfl

end Go.Proofs.Ytphgandhncmaoaa.Sim
