/-
  The law RailsSupplyIsOn.
-/
import Derived.Test.YtfiodhdldleocaaC4
import Derived.Test.YtfiodhdldleocaaLwRailsSupplyIsOn
namespace Go.Proofs.Ytfiodhdldleocaa.Sim
open Go
set_option linter.unusedVariables false
set_option maxRecDepth 100000

section
variable {xs : List api_Rail} {rk : Int → Nat} {t : Int}

theorem pureSup : law25_RailsSupplyIsOn.Pure := by
  intro p0 p1 h0 h1
  unfold law25_RailsSupplyIsOn.f
  rw [awake_ok]
  by_cases hl : 40 < p1.length
  · rw [if_pos (by simp; omega)]; rfl
  · rw [if_neg (by simp; omega)]
    obtain ⟨xs, rk, e1, T⟩ := some_ok p0 h0.1 h0.2
    have hn := T.n
    obtain ⟨ops, s, u, f1, g, rp, le⟩ := log_ok T p1 (by omega) h1.2
    rw [e1, Option.bind_some, f1, Option.bind_some, if_neg (by simp), named_ok hn rp.mem (by omega), Option.bind_some, Option.bind_some, if_neg (by simp), mk_ok (by omega), Option.bind_some, mk_ok (by omega), Option.bind_some]
    have inner : ∀ (on : List Bool) (done : List Int) (o : Int → Bool) (d : Fn) (x : api_RailOp), RepV xs.length on o → RepV xs.length done d → OkOp xs o d x → law25_RailsSupplyIsOn.l1 xs on done x FUEL 0 = some (.nxt ()) := by
      intro on done o d x ho hd k1
      by_cases hx : x.On = true
      · rw [show FUEL = (FUEL - 1) + 1 from rfl, law25_RailsSupplyIsOn.l1, if_neg (by simp [hx])]
      · rw [Bool.not_eq_true] at hx
        refine pass_ok (L := law25_RailsSupplyIsOn.l1 xs on done x) xs.length _ (FUEL_pos (by omega)) ?_ ?_
        · intro f m hm
          rw [law25_RailsSupplyIsOn.l1, if_pos (by simp [hx]; omega), at_ (xs := xs) (by omega) (by omega), Option.bind_some]
          have e : (rl xs (m : Int)).Supply = sp xs m := rfl
          simp only [e]
          by_cases hs : sp xs m = x.Rail
          · obtain ⟨q1, q2⟩ := k1.feeds hx m (by omega) (by omega) hs
            rw [if_pos (by simpa using hs), ho.2 m (by omega) (by omega), Option.bind_some, q1, if_neg (by simp), hd.2 m (by omega) (by omega)]
            simp only [Option.bind_some]
            rw [if_neg (by simp; omega), wi_succ (by omega)]
          · rw [if_neg (by simpa using hs), Option.bind_some, if_neg (by simp), wi_succ (by omega)]
        · intro f
          rw [law25_RailsSupplyIsOn.l1, if_neg (by simp)]
    have key : law25_RailsSupplyIsOn.l0 xs (ops, true) FUEL (List.replicate xs.length false) (List.replicate xs.length 0) 0 = some (.nxt ()) := by
      refine loop_c (L := fun fu (z : List Bool × List Int) i => law25_RailsSupplyIsOn.l0 xs (ops, true) fu z.1 z.2 i) ops.length (fun i z => ∃ o d, Rp xs o d (ops.drop i) (pos s.c) s.d ∧ RepV xs.length z.1 o ∧ RepV xs.length z.2 d)
        (fun q => q = some (.nxt ())) ?_ ?_ FUEL 0 (_, _) (Nat.zero_le _) (FUEL_pos (by omega)) ⟨pos st0.c, st0.d, rp, ⟨by simp, fun i i0 i1 => by rw [idx_replicate i0 i1]; simp [pos, st0]⟩, ⟨by simp, fun i i0 i1 => idx_replicate i0 i1⟩⟩
      · rintro fu ⟨on, done⟩ i hi ⟨o, d, rp, ho, hd⟩
        simp only at ho hd ⊢
        obtain ⟨k1, k2⟩ := rp.at_ hi
        have hin := inner on done o d ops[i] ho hd k1
        rw [law25_RailsSupplyIsOn.l0, if_pos (by simp; omega)]
        simp only
        rw [idx_get hi, Option.bind_some, at_ k1.r0 k1.r1, Option.bind_some]
        have e : (rl xs ops[i].Rail).Supply = sp xs ops[i].Rail := rfl
        simp only [e]
        refine .inl ⟨(upd on ops[i].Rail ops[i].On, upd done ops[i].Rail ops[i].Done), ⟨_, _, k2, ho.fset k1.r0 _, hd.set k1.r0 _⟩, ?_⟩
        by_cases hc : ops[i].On = true ∧ 0 ≤ sp xs ops[i].Rail
        · obtain ⟨q1, q2⟩ := k1.sup hc.1 hc.2
          have hT := T.s ops[i].Rail
          rw [if_pos (by simpa using hc), ho.2 _ hc.2 hT.2, Option.bind_some, q1, if_neg (by simp), hd.2 _ hc.2 hT.2]
          simp only [Option.bind_some]
          rw [if_neg (by simp; omega), hin, Option.bind_some]
          simp only [Fl.go]
          rw [ho.2 _ k1.r0 k1.r1, Option.bind_some, hd.2 _ k1.r0 k1.r1, Option.bind_some, Option.bind_some]
          simp only
          rw [wi_succ (by omega)]
        · rw [if_neg (by simpa using hc), Option.bind_some, if_neg (by simp), hin, Option.bind_some]
          simp only [Fl.go]
          rw [ho.2 _ k1.r0 k1.r1, Option.bind_some, hd.2 _ k1.r0 k1.r1, Option.bind_some, Option.bind_some]
          simp only
          rw [wi_succ (by omega)]
      · rintro fu ⟨on, done⟩ _
        simp only
        rw [law25_RailsSupplyIsOn.l0, if_neg (by simp)]
    rw [key]; rfl
end
end Go.Proofs.Ytfiodhdldleocaa.Sim
