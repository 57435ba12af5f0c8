/-
  The law RailsOperationsAlternate.
-/
import Derived.Test.YtfiodhdldleocaaC4
import Derived.Test.YtfiodhdldleocaaLwRailsOperationsAlternate
namespace Go.Proofs.Ytfiodhdldleocaa.Sim
open Go
set_option linter.unusedVariables false
set_option maxRecDepth 100000

section
variable {xs : List api_Rail} {rk : Int → Nat} {t : Int}

theorem pureAlt : law25_RailsOperationsAlternate.Pure := by
  intro p0 p1 h0 h1
  unfold law25_RailsOperationsAlternate.f
  rw [awake_ok]
  by_cases hl : 40 < p1.length
  · rw [if_pos (by simp; omega)]; rfl
  · rw [if_neg (by simp; omega)]
    obtain ⟨xs, rk, e1, T⟩ := some_ok p0 h0.1 h0.2
    have hn := T.n
    obtain ⟨ops, s, u, f1, g, rp, le⟩ := log_ok T p1 (by omega) h1.2
    rw [e1, Option.bind_some, f1, Option.bind_some, if_neg (by simp), named_ok hn rp.mem (by omega), Option.bind_some, Option.bind_some, if_neg (by simp), mk_ok (by omega), Option.bind_some, mk_ok (by omega), Option.bind_some]
    have key : law25_RailsOperationsAlternate.l0 xs (ops, true) FUEL (List.replicate xs.length false) (List.replicate xs.length 0) 0 = some (.nxt ()) := by
      refine loop_c (L := fun fu (z : List Bool × List Int) i => law25_RailsOperationsAlternate.l0 xs (ops, true) fu z.1 z.2 i) ops.length (fun i z => ∃ o d, Rp xs o d (ops.drop i) (pos s.c) s.d ∧ RepV xs.length z.1 o ∧ RepV xs.length z.2 d)
        (fun q => q = some (.nxt ())) ?_ ?_ FUEL 0 (_, _) (Nat.zero_le _) (FUEL_pos (by omega)) ⟨pos st0.c, st0.d, rp, ⟨by simp, fun i i0 i1 => by rw [idx_replicate i0 i1]; simp [pos, st0]⟩, ⟨by simp, fun i i0 i1 => idx_replicate i0 i1⟩⟩
      · rintro fu ⟨on, done⟩ i hi ⟨o, d, rp, ho, hd⟩
        simp only at ho hd ⊢
        obtain ⟨k1, k2⟩ := rp.at_ hi
        have hm := k2.mono T ops[i].Rail
        rw [set_self] at hm
        have hg := g.d1 ops[i].Rail
        have hs0 := k1.s0
        have hr := k1.ramp
        have hu := T.u ops[i].Rail
        have hdn := T.d ops[i].Rail
        rw [law25_RailsOperationsAlternate.l0, if_pos (by simp; omega)]
        simp only
        rw [idx_get hi, Option.bind_some, at_ k1.r0 k1.r1, Option.bind_some]
        have e5 : (if ops[i].On = true then some (rl xs ops[i].Rail).RampUp else some (rl xs ops[i].Rail).RampDown : Option Int) = some (if ops[i].On = true then (rl xs ops[i].Rail).RampUp else (rl xs ops[i].Rail).RampDown) := by split <;> rfl
        rw [e5, Option.bind_some, ho.2 _ k1.r0 k1.r1, Option.bind_some, k1.alt, if_neg (by simp), hd.2 _ k1.r0 k1.r1, Option.bind_some, Option.bind_some]
        have hwu : wu (ops[i].Start + if ops[i].On = true then (rl xs ops[i].Rail).RampUp else (rl xs ops[i].Rail).RampDown) = ops[i].Done := by rw [← hr]; exact wu_id (by split at hr <;> omega) (by omega)
        have hfr := k1.from_
        rw [hwu, if_neg (by simp; omega), Option.bind_some]
        exact .inl ⟨(upd on ops[i].Rail ops[i].On, upd done ops[i].Rail ops[i].Done), ⟨_, _, k2, ho.fset k1.r0 _, hd.set k1.r0 _⟩, by rw [wi_succ (by omega)]⟩
      · rintro fu ⟨on, done⟩ _
        simp only
        rw [law25_RailsOperationsAlternate.l0, if_neg (by simp)]
    rw [key]; rfl
end
end Go.Proofs.Ytfiodhdldleocaa.Sim
