/-
  The law of a graph's limits, about plain values.
-/
import Derived.Test.YtphgandhncmaoaaG4
import Derived.Test.YtphgandhncmaoaaLwDepgraphCheckLimits
namespace Go.Proofs.Ytphgandhncmaoaa.Sim
open Go
set_option linter.unusedVariables false

/-- Links that were made up to (c, s): all below it, each once. -/
structure Made (c s : Int) (m : List api_Link) : Prop where
  ok : ∀ l ∈ m, 0 ≤ l.Supplier ∧ l.Supplier < l.Consumer ∧ (l.Consumer < c ∨ (l.Consumer = c ∧ l.Supplier < s))
  nodup : m.Nodup

theorem limits_l1 {p0 r : Int} (hr : help_Mod.f p0 3 = some r) (r0 : 0 ≤ r) (r1 : r < 3) {c : Nat} (hc : c < 128) {m0 : List api_Link} (h0 : Made c 0 m0) (hl : m0.length < 1024) :
    ∃ m, law24_DepgraphCheckLimits.l1 p0 (c : Int) FUEL m0 0 = some m ∧ Made (c + 1) 0 m ∧ m.length ≤ 1024 ∧ (m.length = 1024 ∨ 3 * m0.length + 2 * c ≤ 3 * m.length + 3) := by
  obtain ⟨q, rfl⟩ := Int.eq_ofNat_of_zero_le r0
  refine loop_c (L := fun k (s : List api_Link) i => law24_DepgraphCheckLimits.l1 p0 (c : Int) k s i) c
    (fun i s => Made c i s ∧ s.length ≤ 1024 ∧ (s.length = 1024 ∨ s.length + (c + q + i + 2) / 3 = m0.length + i + (c + q + 2) / 3))
    (fun o => ∃ m, o = some m ∧ Made (c + 1) 0 m ∧ m.length ≤ 1024 ∧ (m.length = 1024 ∨ 3 * m0.length + 2 * c ≤ 3 * m.length + 3)) ?_ ?_ FUEL 0 m0 (Nat.zero_le _) (FUEL_pos (by omega)) ⟨h0, by omega, .inr (by omega)⟩
  · rintro k s i hi ⟨h1, h2, h3⟩
    rw [law24_DepgraphCheckLimits.l1]
    by_cases hf : s.length < 1024
    · rw [if_pos (by simp; omega), hr, Option.bind_some]
      have e : Int.tmod (wi ((wi ((c : Int) + (i : Int))) + (q : Int))) 3 = (((c + i + q) % 3 : Nat) : Int) := by
        rw [wi_id (x := (c : Int) + (i : Int)) (by omega) (by omega), wi_id (by omega) (by omega), Int.tmod_eq_emod_of_nonneg (by omega)]; omega
      rw [e]
      by_cases hz : (c + i + q) % 3 = 0
      · rw [if_neg (by simp; omega)]
        refine .inl ⟨s, ⟨⟨fun l hl => ?_, h1.nodup⟩, h2, ?_⟩, by rw [wi_succ (by omega)]; rfl⟩
        · obtain ⟨a, b, d⟩ := h1.ok l hl
          exact ⟨a, b, by omega⟩
        · rcases h3 with h3 | h3
          · exact .inl h3
          · right; omega
      · rw [if_pos (by simp; omega), app_ok (by simp; omega)]
        refine .inl ⟨s ++ [api_Link.mk c i], ⟨⟨fun l hl => ?_, ?_⟩, by simp; omega, ?_⟩, by rw [wi_succ (by omega)]; rfl⟩
        · rcases List.mem_append.1 hl with hl | hl
          · obtain ⟨a, b, d⟩ := h1.ok l hl
            exact ⟨a, b, by omega⟩
          · simp only [List.mem_singleton] at hl; subst hl
            exact ⟨by simp only; omega, by simp only; omega, .inr ⟨rfl, by simp only; omega⟩⟩
        · rw [List.nodup_append]
          refine ⟨h1.nodup, by simp, fun a ha b hb => ?_⟩
          simp only [List.mem_singleton] at hb
          subst hb
          rintro rfl
          have := (h1.ok _ ha).2.2
          simp only at this
          omega
        · rw [List.length_append, List.length_singleton]
          rcases h3 with h3 | h3
          · omega
          · right; omega
    · rw [if_neg (by simp; omega)]
      refine .inr ⟨s, rfl, ⟨fun l hl => ?_, h1.nodup⟩, h2, .inl (by omega)⟩
      obtain ⟨a, b, d⟩ := h1.ok l hl
      exact ⟨a, b, by omega⟩
  · rintro k s ⟨h1, h2, h3⟩
    rw [law24_DepgraphCheckLimits.l1, if_neg (by simp)]
    refine ⟨s, rfl, ⟨fun l hl => ?_, h1.nodup⟩, h2, ?_⟩
    · obtain ⟨a, b, d⟩ := h1.ok l hl
      exact ⟨a, b, by omega⟩
    · rcases h3 with h3 | h3
      · exact .inl h3
      · right; omega

theorem limits_l0 {p0 r : Int} (hr : help_Mod.f p0 3 = some r) (r0 : 0 ≤ r) (r1 : r < 3) : ∃ m c, law24_DepgraphCheckLimits.l0 p0 FUEL [] 0 = some m ∧ Made c 0 m ∧ c ≤ 128 ∧ m.length = 1024 := by
  refine loop_c (L := fun k (s : List api_Link) i => law24_DepgraphCheckLimits.l0 p0 k s i) 128
    (fun i s => Made i 0 s ∧ s.length ≤ 1024 ∧ (s.length = 1024 ∨ i * i ≤ 3 * s.length + 4 * i)) (fun o => ∃ m c, o = some m ∧ Made c 0 m ∧ c ≤ 128 ∧ m.length = 1024) ?_ ?_ FUEL 0 [] (Nat.zero_le _) (FUEL_pos (by omega)) ⟨⟨by simp, by simp⟩, by simp, .inr (by simp)⟩
  · rintro k s i hi ⟨h1, h2, h3⟩
    rw [law24_DepgraphCheckLimits.l0]
    by_cases hf : s.length < 1024
    · rw [if_pos (by simp; omega)]
      obtain ⟨m, e, q1, q2, q3⟩ := limits_l1 hr r0 r1 hi h1 hf
      rw [e]
      refine .inl ⟨m, ⟨q1, q2, ?_⟩, by rw [wi_succ (by omega)]; rfl⟩
      have sq : (i + 1) * (i + 1) = i * i + 2 * i + 1 := by rw [Nat.add_mul, Nat.mul_add]; omega
      rcases q3 with q3 | q3
      · exact .inl q3
      · rcases h3 with h3 | h3
        · omega
        · right; rw [sq]; omega
    · rw [if_neg (by simp; omega)]
      exact .inr ⟨s, i, rfl, h1, by omega, by omega⟩
  · rintro k s ⟨h1, h2, h3⟩
    rw [law24_DepgraphCheckLimits.l0, if_neg (by simp)]
    exact ⟨s, 128, rfl, h1, by omega, by omega⟩

theorem limits_rank {ls : List api_Link} (h : ∀ l ∈ ls, l.Supplier < l.Consumer) {a b : Int} (hp : Path ls a b) : b < a := by
  induction hp with
  | one h1 => exact h _ h1
  | more h1 _ ih => have := h _ h1; simp only at this; omega

theorem checkLimits : law24_DepgraphCheckLimits.Pure := by
  intro p0 _
  unfold law24_DepgraphCheckLimits.f
  obtain ⟨r, hr, r0, r1⟩ := mod_ok (x := p0) (n := 3) (by omega) (by omega)
  obtain ⟨m, c, e, hm, hc, hl⟩ := limits_l0 hr r0 r1
  rw [e, Option.bind_some, app_ok (by simp; omega), Option.bind_some, app_ok (by simp; omega), Option.bind_some]
  simp only [List.nil_append]
  have hml : m.length ≤ maxLen := by rw [maxLen_eq]; omega
  have hgood : GoodG 128 m := ⟨by omega, by omega, fun l h => by have := hm.ok l h; omega, fun l h => by have := hm.ok l h; omega, hm.nodup⟩
  have hcode : ccode 128 m = 0 := by
    have := ccode_good hgood
    rw [if_neg] at this
    · exact this
    · intro hlt
      obtain ⟨i, _, _, hp⟩ := ord_cyclic hgood hlt
      have := limits_rank (fun l h => (hm.ok l h).2.1) hp
      omega
  have hmore : ccode 128 (m ++ [api_Link.mk 127 126]) = 1 := by
    have hv : vcode 128 (m ++ [api_Link.mk 127 126]) = 1 := by
      unfold vcode; rw [if_pos (by simp; omega)]
    unfold ccode; rw [hv]; rfl
  have h129 : ccode 129 [] = 1 := by
    have hv : vcode 129 [] = 1 := by unfold vcode; rw [if_pos (by simp)]
    unfold ccode; rw [hv]; rfl
  have hneg : ccode (-1) [] = 1 := by
    have hv : vcode (-1) [] = 1 := by unfold vcode; rw [if_pos (by simp)]
    unfold ccode; rw [hv]; rfl
  have key : law24_DepgraphCheckLimits.l2 m (m ++ [api_Link.mk 127 126]) FUEL 0 = some (.nxt ()) ∨ law24_DepgraphCheckLimits.l2 m (m ++ [api_Link.mk 127 126]) FUEL 0 = some (.out true) := by
    refine loop_c (L := fun k (_ : Unit) i => law24_DepgraphCheckLimits.l2 m (m ++ [api_Link.mk 127 126]) k i) m.length (fun _ _ => True) (fun o => o = some (.nxt ()) ∨ o = some (.out true)) ?_ ?_ FUEL 0 () (Nat.zero_le _) (FUEL_pos (by omega)) trivial
    · intro k _ i hi _
      rw [law24_DepgraphCheckLimits.l2, if_pos (by simp; omega), idx_get hi, Option.bind_some, idx_get (by simp), Option.bind_some]
      by_cases he : m[i] = (m ++ [api_Link.mk 127 126])[m.length]
      · rw [if_pos (decide_eq_true he), awake_ok]; exact .inr (.inr rfl)
      · rw [if_neg (by simpa using he)]
        exact .inl ⟨(), trivial, by rw [wi_succ (by omega)]⟩
    · intro k _ _
      rw [law24_DepgraphCheckLimits.l2, if_neg (by simp)]; exact .inl rfl
  rcases key with h | h
  · rw [h, Option.bind_some]
    simp only [Fl.go]
    rw [if_pos (by simp [hl]), check_ok 128 m hml, hcode, check_ok 128 _ (by rw [maxLen_eq, List.length_append]; simp; omega), hmore, check_ok 129 [] (by simp), h129, check_ok (-1) [] (by simp), hneg, awake_ok]
    rfl
  · rw [h]; rfl

end Go.Proofs.Ytphgandhncmaoaa.Sim
