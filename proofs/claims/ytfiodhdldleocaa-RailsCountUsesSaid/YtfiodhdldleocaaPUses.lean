/-
  The law RailsCountUses.
-/
import Derived.Test.YtfiodhdldleocaaC3
import Derived.Test.YtfiodhdldleocaaLwRailsCountUses
namespace Go.Proofs.Ytfiodhdldleocaa.Sim
open Go
set_option linter.unusedVariables false
set_option maxRecDepth 100000

section
variable {xs : List api_Rail} {rk : Int → Nat} {t : Int}

theorem pureUses : law25_RailsCountUses.Pure := by
  intro p0 p1 h0 h1
  unfold law25_RailsCountUses.f
  rw [awake_ok]
  by_cases hl : 40 < p1.length
  · rw [if_pos (by simp; omega)]; rfl
  · rw [if_neg (by simp; omega)]
    obtain ⟨xs, rk, e1, T⟩ := some_ok p0 h0.1 h0.2
    have hn := T.n
    obtain ⟨e2, hI⟩ := rnew_tree T
    rw [e1, Option.bind_some, e2, Option.bind_some, if_neg (by simp), mk_ok (by omega), Option.bind_some, Option.bind_some]
    have inner2 : ∀ {i : Nat} {a : rails_Rails} {now : Int} {s : Ms} {u : Fn} (z : (List api_RailOp) × Int) (j n0 : Int), Plc xs i a now s u → 0 ≤ n0 → n0 ≤ 1000 → law25_RailsCountUses.l2 xs (a, z) j FUEL n0 0 = some (n0 + fed xs s.c j xs.length) := by
      intro i a now s u z j n0 p n1 n2
      refine loop_c (L := fun fu (m : Int) i => law25_RailsCountUses.l2 xs (a, z) j fu m i) xs.length (fun i m => m = n0 + fed xs s.c j i) (fun o => o = some (n0 + fed xs s.c j xs.length)) ?_ ?_ FUEL 0 n0 (Nat.zero_le _) (FUEL_pos (by omega)) (by simp [fed])
      · rintro fu m i hi rfl
        have hf := fed_nonneg (xs := xs) s.c j i
        rw [law25_RailsCountUses.l2, if_pos (by simp; omega), at_ (xs := xs) (by omega) (by omega), Option.bind_some, fed]
        refine .inl ⟨_, rfl, ?_⟩
        have e : (rl xs (i : Int)).Supply = sp xs i := rfl
        have hcm : mcount xs s (i : Int) = s.c i := by unfold mcount; rw [if_pos ⟨by omega, by omega⟩]
        simp only [e, count_ok p.a, hcm, Option.bind_some]
        by_cases hs : sp xs i = j
        · rw [if_pos (by simpa using hs), Option.bind_some]
          by_cases hc : 0 < s.c i
          · rw [if_pos (by simpa using hc), if_pos ⟨hs, hc⟩, Option.bind_some, wi_succ (by omega), wi_id (by omega) (by omega)]; congr 1; omega
          · rw [if_neg (by simpa using hc), if_neg (fun h => hc h.2), Option.bind_some, wi_succ (by omega)]; congr 1; omega
        · rw [if_neg (by simpa using hs), Option.bind_some, if_neg (by simp), if_neg (fun h => hs h.1), Option.bind_some, wi_succ (by omega)]; congr 1; omega
      · rintro fu m rfl
        rw [law25_RailsCountUses.l2, if_neg (by simp)]
    have inner : ∀ {i : Nat} {a : rails_Rails} {now : Int} {s : Ms} {u : Fn} (z : (List api_RailOp) × Int) (us : List Int) (w : Int), i ≤ 100 → Plc xs i a now s u → RepV xs.length us u → law25_RailsCountUses.l1 xs (a, z) (us, w) FUEL 0 = some (.nxt (a, us, w)) := by
      intro i a now s u z us w hi p hus
      refine pass_ok (L := law25_RailsCountUses.l1 xs (a, z) (us, w)) xs.length _ (FUEL_pos (by omega)) ?_ ?_
      · intro k m hm
        have hb := p.g.inv.bal m (by omega) (by omega)
        have hf := fed_nonneg (xs := xs) s.c m xs.length
        have hc1 := p.g.c1 m
        have hu0 := p.g.inv.u0 m
        have hcm : mcount xs s (m : Int) = s.c m := by unfold mcount; rw [if_pos ⟨by omega, by omega⟩]
        rw [law25_RailsCountUses.l1, if_pos (by simp; omega)]
        simp only
        rw [hus.2 m (by omega) (by omega), Option.bind_some, inner2 z m (u m) p (by omega) (by omega), Option.bind_some, count_ok p.a, Option.bind_some, hcm, ← hb, if_neg (by simp; omega), Option.bind_some]
        simp only [Fl.go]
        rw [wi_succ (by omega)]
      · intro k
        rw [law25_RailsCountUses.l1, if_neg (by simp)]
    have key : law25_RailsCountUses.l0 p1 xs FUEL (rails_Rails.mk (xs.map rail0) 0) (List.replicate xs.length 0) 0 0 = some (.nxt ()) := by
      refine loop_c (L := fun fu (z : rails_Rails × List Int × Int) i => law25_RailsCountUses.l0 p1 xs fu z.1 z.2.1 z.2.2 i) p1.length (fun i z => ∃ s u, Plc xs i z.1 z.2.2 s u ∧ RepV xs.length z.2.1 u) (fun o => o = some (.nxt ())) ?_ ?_ FUEL 0 (_, _, 0) (Nat.zero_le _) (FUEL_pos (by omega)) ⟨st0, fun _ => 0, pl0 T, by simp, fun i i0 i1 => idx_replicate i0 i1⟩
      · rintro fu ⟨a, us, now⟩ i hi ⟨s, u, p, hus⟩
        simp only at p hus ⊢
        rw [law25_RailsCountUses.l0]
        by_cases hz : 0 < xs.length
        · rw [if_pos (by simp; omega), idx_get hi, Option.bind_some]
          obtain ⟨k, v, a', s', ops, r, f1, f2, f3, f4, p', rp, le, f5⟩ := step_ok T (by omega) p p1[i] (h1.2 _ (List.getElem_mem hi))
          obtain ⟨k0, k1⟩ := f3 hz
          rw [cat_ok _ hn now, f1, Option.bind_some, f2, Option.bind_some]
          simp only
          have hbk := p.g.inv.bal k k0 (by omega)
          have hfk := fed_nonneg (xs := xs) s.c k xs.length
          have hck := p.g.c1 k
          have huk := p.g.inv.u0 k
          by_cases hr : r = 0
          · rw [if_pos (by simpa using hr)]
            rw [if_pos hr] at p'
            by_cases hq : p1[i].Release = true
            · have : musg u r p1[i].Release k = set u k (u k - 1) := by unfold musg; rw [if_pos hr, if_pos hq]
              rw [this] at p'
              have hus' := hus.set k0 (u k - 1)
              refine .inl ⟨(a', upd us k (u k - 1), v), ⟨s', _, p', hus'⟩, ?_⟩
              rw [if_pos hq, hus.2 k k0 k1, Option.bind_some, Option.bind_some, wi_id (by omega) (by omega), inner _ _ _ (by omega) p' hus', Option.bind_some]
              simp only [Fl.go]
              rw [wi_succ (by omega)]
            · have : musg u r p1[i].Release k = set u k (u k + 1) := by unfold musg; rw [if_pos hr, if_neg hq]
              rw [this] at p'
              have hus' := hus.set k0 (u k + 1)
              refine .inl ⟨(a', upd us k (u k + 1), v), ⟨s', _, p', hus'⟩, ?_⟩
              rw [if_neg hq, hus.2 k k0 k1, Option.bind_some, Option.bind_some, wi_id (by omega) (by omega), inner _ _ _ (by omega) p' hus', Option.bind_some]
              simp only [Fl.go]
              rw [wi_succ (by omega)]
          · rw [if_neg (by simpa using hr)]
            rw [if_neg hr] at p'
            have : musg u r p1[i].Release k = u := by unfold musg; rw [if_neg hr]
            rw [this] at p'
            refine .inl ⟨(a', us, now), ⟨s', _, p', hus⟩, ?_⟩
            rw [Option.bind_some, inner _ _ _ (by omega) p' hus, Option.bind_some]
            simp only [Fl.go]
            rw [wi_succ (by omega)]
        · rw [if_neg (by rw [Bool.and_eq_true, decide_eq_true_eq, decide_eq_true_eq]; omega)]
          exact .inr rfl
      · rintro fu ⟨a, us, now⟩ _
        simp only
        rw [law25_RailsCountUses.l0, if_neg (by simp)]
    rw [key]; rfl
end
end Go.Proofs.Ytfiodhdldleocaa.Sim
