/-
  The law RailsPoweredChain.
-/
import Derived.Test.YtfiodhdldleocaaC3
import Derived.Test.YtfiodhdldleocaaLwRailsPoweredChain
namespace Go.Proofs.Ytfiodhdldleocaa.Sim
open Go
set_option linter.unusedVariables false
set_option maxRecDepth 100000

section
variable {xs : List api_Rail} {rk : Int → Nat} {t : Int}

theorem pureChain : law25_RailsPoweredChain.Pure := by
  intro p0 p1 p2 h0 h1 h2
  unfold law25_RailsPoweredChain.f
  rw [awake_ok]
  by_cases hl : 40 < p1.length
  · rw [if_pos (by simp; omega)]; rfl
  · rw [if_neg (by simp; omega)]
    obtain ⟨xs, rk, e1, T⟩ := some_ok p0 h0.1 h0.2
    have hn := T.n
    obtain ⟨e2, hI⟩ := rnew_tree T
    rw [e1, Option.bind_some, e2, Option.bind_some, if_neg (by simp), Option.bind_some]
    have inner : ∀ {i : Nat} {a : rails_Rails} {now : Int} {s : Ms} {u : Fn}, Plc xs i a now s u → law25_RailsPoweredChain.l1 p2 xs (a, now) FUEL 0 = some (.nxt (a, now)) := by
      intro i a now s u p
      refine pass_ok (L := law25_RailsPoweredChain.l1 p2 xs (a, now)) xs.length _ (FUEL_pos (by omega)) ?_ ?_
      · intro k m hm
        rw [law25_RailsPoweredChain.l1, if_pos (by simp; omega), at_ (xs := xs) (by omega) (by omega), Option.bind_some]
        have e : (rl xs (m : Int)).Supply = sp xs m := rfl
        simp only [e]
        by_cases hs : sp xs (m : Int) < 0
        · rw [if_pos (by simpa using hs), Option.bind_some]
          simp only [Fl.go]
          rw [wi_succ (by omega)]
        · rw [if_neg (by simpa using hs)]
          simp only [ready_ok p.a, pow_ok p.a, Option.bind_some]
          have hT := T.s (m : Int)
          have hcm : mcount xs s (m : Int) = s.c m := by unfold mcount; rw [if_pos ⟨by omega, by omega⟩]
          have hcs : mcount xs s (sp xs m) = s.c (sp xs m) := by unfold mcount; rw [if_pos ⟨by omega, by omega⟩]
          have main : s.c m ≠ 0 → s.c (sp xs m) ≠ 0 ∧ s.d (sp xs m) ≤ s.d m := fun h => by
            have h5 := p.g.inv.c0 m
            have h6 := p.g.inv.up T (i := m) (by omega) (by omega) (by omega) (by omega)
            exact ⟨by omega, p.g.inv.pow m (by omega) (by omega) (by omega) (by omega)⟩
          have hz : ∀ v : Int, ((mready xs s m).2 && (!(mready xs s (sp xs m)).2 || decide ((mready xs s m).1 < (mready xs s (sp xs m)).1))) = false ∧ (mpow xs s m v = true → mpow xs s (sp xs m) v = true) := by
            intro v
            unfold mpow mready
            rw [hcm, hcs]
            by_cases hc : s.c m = 0
            · rw [if_pos hc]; simp
            · obtain ⟨m1, m2⟩ := main hc
              rw [if_neg hc, if_neg m1]
              refine ⟨by simp; omega, by simp; omega⟩
          obtain ⟨z1, z2⟩ := hz (wu (now + Int.tmod p2 80))
          rw [z1]
          by_cases hp : mpow xs s m (wu (now + Int.tmod p2 80)) = true
          · rw [if_pos hp, Option.bind_some, z2 hp, if_neg (by simp), Option.bind_some]
            simp only [Fl.go]
            rw [wi_succ (by omega)]
          · rw [if_neg hp, Option.bind_some, if_neg (by simp), Option.bind_some]
            simp only [Fl.go]
            rw [wi_succ (by omega)]
      · intro k
        rw [law25_RailsPoweredChain.l1, if_neg (by simp)]
    have key : law25_RailsPoweredChain.l0 p1 p2 xs FUEL (rails_Rails.mk (xs.map rail0) 0) 0 0 = some (.nxt ()) := by
      refine loop_c (L := fun fu (z : rails_Rails × Int) i => law25_RailsPoweredChain.l0 p1 p2 xs fu z.1 z.2 i) p1.length (fun i z => ∃ s u, Plc xs i z.1 z.2 s u) (fun o => o = some (.nxt ())) ?_ ?_ FUEL 0 (_, 0) (Nat.zero_le _) (FUEL_pos (by omega)) ⟨st0, fun _ => 0, pl0 T⟩
      · rintro fu ⟨a, now⟩ i hi ⟨s, u, p⟩
        simp only at p ⊢
        rw [law25_RailsPoweredChain.l0, if_pos (by simp; omega), idx_get hi, Option.bind_some]
        obtain ⟨k, v, a', s', ops, r, f1, f2, f3, f4, p', rp, le, f5⟩ := step_ok T (by omega) p p1[i] (h1.2 _ (List.getElem_mem hi))
        rw [cat_ok _ hn now, f1, Option.bind_some, f2, Option.bind_some]
        simp only
        refine .inl ⟨(a', if r = 0 then v else now), ⟨s', _, p'⟩, ?_⟩
        by_cases hr : r = 0
        · rw [if_pos (by simpa using hr), Option.bind_some]
          rw [if_pos hr] at p' ⊢
          rw [inner p', Option.bind_some]
          simp only [Fl.go]
          rw [wi_succ (by omega)]
        · rw [if_neg (by simpa using hr), Option.bind_some]
          rw [if_neg hr] at p' ⊢
          rw [inner p', Option.bind_some]
          simp only [Fl.go]
          rw [wi_succ (by omega)]
      · rintro fu ⟨a, now⟩ _
        simp only
        rw [law25_RailsPoweredChain.l0, if_neg (by simp)]
    rw [key]; rfl
end
end Go.Proofs.Ytfiodhdldleocaa.Sim
