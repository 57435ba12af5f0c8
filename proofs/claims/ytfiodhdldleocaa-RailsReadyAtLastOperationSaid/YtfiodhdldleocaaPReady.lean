/-
  The law RailsReadyAtLastOperation.
-/
import Derived.Test.YtfiodhdldleocaaC4
import Derived.Test.YtfiodhdldleocaaLwRailsReadyAtLastOperation
namespace Go.Proofs.Ytfiodhdldleocaa.Sim
open Go
set_option linter.unusedVariables false
set_option maxRecDepth 100000

section
variable {xs : List api_Rail} {rk : Int → Nat} {t : Int}

theorem pureReady : law25_RailsReadyAtLastOperation.Pure := by
  intro p0 p1 p2 h0 h1 h2
  unfold law25_RailsReadyAtLastOperation.f
  rw [awake_ok]
  by_cases hl : 40 < p1.length
  · rw [if_pos (by simp; omega)]; rfl
  · rw [if_neg (by simp; omega)]
    obtain ⟨xs, rk, e1, T⟩ := some_ok p0 h0.1 h0.2
    have hn := T.n
    obtain ⟨e2, hI⟩ := rnew_tree T
    rw [e1, Option.bind_some, e2, Option.bind_some, if_neg (by simp), mk_ok (by omega), Option.bind_some, Option.bind_some]
    have inner : ∀ (a : rails_Rails) (ops : List api_RailOp) (r now : Int) (done : List Int) (o : Int → Bool) (d : Fn) (o' : Int → Bool) (d' : Fn), ops.length ≤ 8 → Rp xs o d ops o' d' → RepV xs.length done d →
        ∃ done', law25_RailsReadyAtLastOperation.l1 (a, ops, r) now FUEL done 0 = some (.nxt (a, done', now)) ∧ RepV xs.length done' d' := by
      intro a ops r now done o d o' d' h8 rp hd
      refine loop_c (L := fun fu (z : List Int) i => law25_RailsReadyAtLastOperation.l1 (a, ops, r) now fu z i) ops.length (fun i z => ∃ o d, Rp xs o d (ops.drop i) o' d' ∧ RepV xs.length z d)
        (fun q => ∃ done', q = some (.nxt (a, done', now)) ∧ RepV xs.length done' d') ?_ ?_ FUEL 0 done (Nat.zero_le _) (FUEL_pos (by omega)) ⟨o, d, rp, hd⟩
      · rintro fu z i hi ⟨o, d, rp, hd⟩
        obtain ⟨k1, k2⟩ := rp.at_ hi
        rw [law25_RailsReadyAtLastOperation.l1, if_pos (by simp; omega)]
        simp only
        rw [idx_get hi, Option.bind_some, hd.2 _ k1.r0 k1.r1, Option.bind_some]
        exact .inl ⟨_, ⟨_, _, k2, hd.set k1.r0 _⟩, by rw [wi_succ (by omega)]⟩
      · rintro fu z ⟨o, d, rp, hd⟩
        obtain ⟨_, rfl⟩ := rp.end_
        rw [law25_RailsReadyAtLastOperation.l1, if_neg (by simp)]
        exact ⟨z, rfl, hd⟩
    have key : ∃ (a : rails_Rails) (done : List Int) (now : Int) (s : Ms) (u : Fn), law25_RailsReadyAtLastOperation.l0 p1 xs FUEL (rails_Rails.mk (xs.map rail0) 0) (List.replicate xs.length 0) 0 0 = some (.nxt (a.list, a.now, done)) ∧ Plc xs p1.length a now s u ∧ RepV xs.length done s.d := by
      refine loop_c (L := fun fu (z : rails_Rails × List Int × Int) i => law25_RailsReadyAtLastOperation.l0 p1 xs fu z.1 z.2.1 z.2.2 i) p1.length (fun i z => ∃ s u, Plc xs i z.1 z.2.2 s u ∧ RepV xs.length z.2.1 s.d)
        (fun o => ∃ (a : rails_Rails) (done : List Int) (now : Int) (s : Ms) (u : Fn), o = some (.nxt (a.list, a.now, done)) ∧ Plc xs p1.length a now s u ∧ RepV xs.length done s.d) ?_ ?_ FUEL 0 (_, _, 0) (Nat.zero_le _) (FUEL_pos (by omega)) ⟨st0, fun _ => 0, pl0 T, by simp, fun i i0 i1 => idx_replicate i0 i1⟩
      · rintro fu ⟨a, done, now⟩ i hi ⟨s, u, p, hd⟩
        simp only at p hd ⊢
        rw [law25_RailsReadyAtLastOperation.l0, if_pos (by simp; omega), idx_get hi, Option.bind_some]
        obtain ⟨k, v, a', s', ops, r, f1, f2, f3, f4, p', rp, le, f5⟩ := step_ok T (by omega) p p1[i] (h1.2 _ (List.getElem_mem hi))
        rw [cat_ok _ hn now, f1, Option.bind_some, f2, Option.bind_some]
        simp only
        obtain ⟨done', w1, w2⟩ := inner a' ops r (if r = 0 then v else now) done _ _ _ _ le rp hd
        refine .inl ⟨(a', done', if r = 0 then v else now), ⟨s', _, p', w2⟩, ?_⟩
        have e5 : (if (r == 0) = true then some v else some now : Option Int) = some (if r = 0 then v else now) := by
          by_cases hr : r = 0
          · rw [if_pos (by simpa using hr), if_pos hr]
          · rw [if_neg (by simpa using hr), if_neg hr]
        rw [e5, Option.bind_some, named_ok hn rp.mem (by omega), Option.bind_some, if_neg (by simp), w1, Option.bind_some]
        simp only [Fl.go]
        rw [wi_succ (by omega)]
      · rintro fu ⟨a, done, now⟩ ⟨s, u, p, hd⟩
        simp only
        rw [law25_RailsReadyAtLastOperation.l0, if_neg (by simp)]
        exact ⟨a, done, now, s, u, rfl, p, hd⟩
    obtain ⟨a, done, now, s, u, f1, p, hd⟩ := key
    rw [f1, Option.bind_some]
    simp only [Fl.go]
    have key2 : law25_RailsReadyAtLastOperation.l2 p2 xs (a.list, a.now, done) FUEL 0 = some (.nxt ()) := by
      refine pass_ok (L := law25_RailsReadyAtLastOperation.l2 p2 xs (a.list, a.now, done)) xs.length _ (FUEL_pos (by omega)) ?_ ?_
      · intro f m hm
        have hcm : mcount xs s (m : Int) = s.c m := by unfold mcount; rw [if_pos ⟨by omega, by omega⟩]
        have hc0 := p.g.inv.c0 m
        rw [law25_RailsReadyAtLastOperation.l2, if_pos (by simp; omega)]
        simp only
        rw [show rails_Rails_ReadyAt.f (rails_Rails.mk a.list a.now) (m : Int) = _ from ready_ok p.a m, show rails_Rails_Count.f (rails_Rails.mk a.list a.now) (m : Int) = _ from count_ok p.a m, show rails_Rails_Powered.f (rails_Rails.mk a.list a.now) (m : Int) p2 = _ from pow_ok p.a m p2]
        simp only [Option.bind_some]
        rw [hcm, hd.2 m (by omega) (by omega)]
        unfold mpow mready
        rw [hcm]
        by_cases hc : s.c m = 0
        · rw [if_pos hc, if_neg (by simp [hc]), if_neg (by simp)]
          simp only [Option.bind_some]
          rw [if_neg (by simp)]
          simp only [Option.bind_some]
          rw [if_neg (by simp), wi_succ (by omega)]
        · rw [if_neg hc, if_neg (by simp; omega), if_pos rfl]
          simp only [Option.bind_some]
          rw [if_neg (by simp)]
          simp only [Option.bind_some]
          rw [if_neg (by simp), wi_succ (by omega)]
      · intro f
        rw [law25_RailsReadyAtLastOperation.l2, if_neg (by simp)]
    rw [key2]; rfl
end
end Go.Proofs.Ytfiodhdldleocaa.Sim
