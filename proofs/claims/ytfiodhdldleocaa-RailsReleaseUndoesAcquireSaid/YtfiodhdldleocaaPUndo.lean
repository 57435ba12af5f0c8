/-
  The law RailsReleaseUndoesAcquire.
-/
import Derived.Test.YtfiodhdldleocaaC3
import Derived.Test.YtfiodhdldleocaaLwRailsReleaseUndoesAcquire
namespace Go.Proofs.Ytfiodhdldleocaa.Sim
open Go
set_option linter.unusedVariables false
set_option maxRecDepth 100000

section
variable {xs : List api_Rail} {rk : Int → Nat} {t : Int}

theorem pureUndo : law25_RailsReleaseUndoesAcquire.Pure := by
  intro p0 p1 p2 h0 h1 h2
  unfold law25_RailsReleaseUndoesAcquire.f
  rw [awake_ok]
  by_cases hl : 20 < p1.length
  · rw [if_pos (by simp; omega)]; rfl
  · rw [if_neg (by simp; omega)]
    obtain ⟨xs, rk, e1, T⟩ := some_ok p0 h0.1 h0.2
    have hn := T.n
    obtain ⟨e2, hI⟩ := rnew_tree T
    rw [e1, Option.bind_some, e2, Option.bind_some, if_neg (by simp), Option.bind_some]
    have key : ∃ (a : rails_Rails) (now : Int) (s : Ms) (u : Fn), law25_RailsReleaseUndoesAcquire.l0 p1 xs FUEL (rails_Rails.mk (xs.map rail0) 0) 0 0 = some (a.list, a.now, now) ∧ Plc xs p1.length a now s u := by
      refine loop_c (L := fun fu (z : rails_Rails × Int) i => law25_RailsReleaseUndoesAcquire.l0 p1 xs fu z.1 z.2 i) p1.length (fun i z => ∃ s u, Plc xs i z.1 z.2 s u) (fun o => ∃ (a : rails_Rails) (now : Int) (s : Ms) (u : Fn), o = some (a.list, a.now, now) ∧ Plc xs p1.length a now s u) ?_ ?_ FUEL 0 (_, 0) (Nat.zero_le _) (FUEL_pos (by omega)) ⟨st0, fun _ => 0, pl0 T⟩
      · rintro fu ⟨a, now⟩ i hi ⟨s, u, p⟩
        simp only at p ⊢
        rw [law25_RailsReleaseUndoesAcquire.l0, if_pos (by simp; omega), idx_get hi, Option.bind_some]
        obtain ⟨k, v, a', s', ops, r, f1, f2, f3, f4, p', rp, le, f5⟩ := step_ok T (by omega) p p1[i] (h1.2 _ (List.getElem_mem hi))
        rw [cat_ok _ hn now, f1, Option.bind_some, f2, Option.bind_some]
        simp only
        refine .inl ⟨(a', if r = 0 then v else now), ⟨s', _, p'⟩, ?_⟩
        by_cases hr : r = 0
        · rw [if_pos (by simpa using hr), Option.bind_some, wi_succ (by omega), if_pos hr]
        · rw [if_neg (by simpa using hr), Option.bind_some, wi_succ (by omega), if_neg hr]
      · rintro fu ⟨a, now⟩ ⟨s, u, p⟩
        simp only
        rw [law25_RailsReleaseUndoesAcquire.l0, if_neg (by simp)]
        exact ⟨a, now, s, u, rfl, p⟩
    obtain ⟨a, now, s, u, f1, p⟩ := key
    rw [f1, Option.bind_some]
    by_cases hz : xs.length = 0
    · rw [if_pos (by simp [hz])]; rfl
    · rw [if_neg (by simpa using hz)]
      obtain ⟨k, hk, k0, k1⟩ := mod_ok (x := p2) (n := (xs.length : Int)) (by omega) (by omega)
      simp only
      rw [hk, Option.bind_some, show rails_Rails_Copy.f (rails_Rails.mk a.list a.now) = _ from copy_ok hn p.a, Option.bind_some, if_neg (by simp)]
      have hpt := p.t
      have hp1 := p.t1
      have ht0 := p.g.t0
      have hc : 0 ≤ k ∧ k < xs.length ∧ s.t ≤ now ∧ now ≤ 1152921504606846976 := ⟨k0, k1, by omega, by omega⟩
      obtain ⟨a1, m1, m2⟩ := acquire_ok T p.g (by omega) p.a k now
      obtain ⟨g1, _, le1⟩ := mcall_good T p.g false k now
      obtain ⟨a2, m3, m4⟩ := release_ok T g1 (by omega) m2 k now
      have r1 : mcall xs s false k now = (⟨now, (aon xs now 8 s.c s.d k).1, (aon xs now 8 s.c s.d k).2.1⟩, (aon xs now 8 s.c s.d k).2.2, 0) := by unfold mcall; rw [if_pos hc, if_neg (by simp)]
      rw [r1] at m1 m2 m3 m4 g1 le1
      simp only at m1 m2 m3 m4 g1 le1
      have hu0 := p.g.inv.u0 k
      have hbal := g1.inv.bal k k0 k1
      have hne : ¬ ((aon xs now 8 s.c s.d k).1 k - fed xs (aon xs now 8 s.c s.d k).1 k xs.length = 0) := by
        have : musg u 0 false k k = u k + 1 := by unfold musg; rw [if_pos rfl, if_neg (by simp), set_self]
        simp only at hbal
        rw [this] at hbal
        omega
      have r2 : mcall xs ⟨now, (aon xs now 8 s.c s.d k).1, (aon xs now 8 s.c s.d k).2.1⟩ true k now = (⟨now, (aoff xs now 8 (aon xs now 8 s.c s.d k).1 (aon xs now 8 s.c s.d k).2.1 k).1, (aoff xs now 8 (aon xs now 8 s.c s.d k).1 (aon xs now 8 s.c s.d k).2.1 k).2.1⟩, (aoff xs now 8 (aon xs now 8 s.c s.d k).1 (aon xs now 8 s.c s.d k).2.1 k).2.2, 0) := by
        unfold mcall; rw [if_pos ⟨k0, k1, Int.le_refl _, hc.2.2.2⟩, if_pos rfl, if_neg hne]
      rw [r2] at m3 m4
      simp only at m3 m4
      obtain ⟨u1, u2, u3, u4⟩ := undo T (t := now) 8 s.c s.d (aon xs now 8 s.c s.d k).2.1 k (T.b k) p.g.inv.c0
      generalize aon xs now 8 s.c s.d k = q at *
      generalize aoff xs now 8 q.1 q.2.1 k = q' at *
      obtain ⟨qc, qd, qo⟩ := q
      obtain ⟨qc', qd', qo'⟩ := q'
      simp only at *
      subst u1
      rw [show rails_Rails_Acquire.f (rails_Rails.mk a.list a.now) k now = _ from m1, Option.bind_some, m3, Option.bind_some]
      have hlen : qo.length = qo'.length := by
        have := congrArg List.length u2
        simp at this; omega
      rw [if_neg (by simp [hlen]), Option.bind_some]
      have key2 : law25_RailsReleaseUndoesAcquire.l1 (a1, qo, 0) (a2, qo', 0) (rails_Rails.mk a.list a.now) FUEL 0 = some (.nxt (a.list, a.now)) := by
        refine pass_ok (L := law25_RailsReleaseUndoesAcquire.l1 (a1, qo, 0) (a2, qo', 0) (rails_Rails.mk a.list a.now)) qo.length _ (FUEL_pos (by omega)) ?_ ?_
        · intro f m hm
          rw [law25_RailsReleaseUndoesAcquire.l1, if_pos (by simp; omega)]
          simp only
          have e5 : wi (wi ((qo'.length : Int) - 1) - m) = ((qo'.length - 1 - m : Nat) : Int) := by
            have e4 : wi ((qo'.length : Int) - 1) = (qo'.length : Int) - 1 := wi_id (by omega) (by omega)
            rw [e4, wi_id (by omega) (by omega)]; omega
          rw [idx_get hm, Option.bind_some, e5, idx_get (by omega : qo'.length - 1 - m < qo'.length), Option.bind_some, idx_get (by omega : m < qo'.length), Option.bind_some]
          have e6 : qo[m].Rail = (qo'[qo'.length - 1 - m]'(by omega)).Rail := by
            have h7 : (qo'.map (·.Rail))[qo'.length - 1 - m]'(by simp; omega) = (qo.map (·.Rail)).reverse[qo'.length - 1 - m]'(by simp; omega) := by simp only [u2]
            rw [List.getElem_map, List.getElem_reverse, List.getElem_map] at h7
            rw [h7]
            congr 2
            simp; omega
          rw [e6, u3 _ (List.getElem_mem hm), u4 _ (List.getElem_mem _), if_neg (by simp), Option.bind_some, if_neg (by simp), wi_succ (by omega)]
        · intro f
          rw [law25_RailsReleaseUndoesAcquire.l1, if_neg (by simp)]
      rw [key2, Option.bind_some]
      simp only [Fl.go]
      have key3 : law25_RailsReleaseUndoesAcquire.l2 xs (a2, qo', 0) (a.list, a.now) FUEL 0 = some (.nxt ()) := by
        refine pass_ok (L := law25_RailsReleaseUndoesAcquire.l2 xs (a2, qo', 0) (a.list, a.now)) xs.length _ (FUEL_pos (by omega)) ?_ ?_
        · intro f m hm
          rw [law25_RailsReleaseUndoesAcquire.l2, if_pos (by simp; omega)]
          simp only
          rw [count_ok m4, Option.bind_some, show rails_Rails_Count.f (rails_Rails.mk a.list a.now) (m : Int) = _ from count_ok p.a m, Option.bind_some]
          rw [if_neg (by unfold mcount; simp), wi_succ (by omega)]
        · intro f
          rw [law25_RailsReleaseUndoesAcquire.l2, if_neg (by simp)]
      rw [key3]; rfl
end
end Go.Proofs.Ytfiodhdldleocaa.Sim
