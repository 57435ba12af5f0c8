/-
  Plain lemmas: the log of the operations.
-/
import Derived.Test.YtfiodhdldleocaaC3
namespace Go.Proofs.Ytfiodhdldleocaa.Sim
open Go
set_option linter.unusedVariables false
set_option maxRecDepth 100000

section
variable {xs : List api_Rail} {rk : Int → Nat} {t : Int}

theorem Rp.mem {o : Int → Bool} {d : Fn} {ys : List api_RailOp} {o' : Int → Bool} {d' : Fn} (h : Rp xs o d ys o' d') : ∀ x ∈ ys, 0 ≤ x.Rail ∧ x.Rail < xs.length := by
  induction h with
  | nil => intro x hx; simp at hx
  | cons h1 _ ih =>
    intro x hx
    rcases List.mem_cons.1 hx with e | e
    · subst e; exact ⟨h1.r0, h1.r1⟩
    · exact ih x e
theorem Rp.mono (T : Tree xs rk) {o : Int → Bool} {d : Fn} {ys : List api_RailOp} {o' : Int → Bool} {d' : Fn} (h : Rp xs o d ys o' d') : ∀ i, d i ≤ d' i := by
  induction h with
  | nil => intro i; exact Int.le_refl _
  | @cons o d x ys o' d' h1 _ ih =>
    intro i
    refine Int.le_trans ?_ (ih i)
    unfold set
    split
    · rename_i e
      subst e
      have h2 := h1.from_
      have h3 := h1.ramp
      have h4 := T.u x.Rail
      have h5 := T.d x.Rail
      split at h3 <;> omega
    · exact Int.le_refl _
theorem Rp.at_ {o : Int → Bool} {d : Fn} {ys : List api_RailOp} {k : Nat} {o' : Int → Bool} {d' : Fn} (hk : k < ys.length) (h : Rp xs o d (ys.drop k) o' d') : OkOp xs o d ys[k] ∧ Rp xs (fset o ys[k].Rail ys[k].On) (set d ys[k].Rail ys[k].Done) (ys.drop (k + 1)) o' d' := by
  rw [List.drop_eq_getElem_cons hk] at h
  cases h with
  | cons h1 h2 => exact ⟨h1, h2⟩
theorem Rp.end_ {o : Int → Bool} {d : Fn} {ys : List api_RailOp} {o' : Int → Bool} {d' : Fn} (h : Rp xs o d (ys.drop ys.length) o' d') : o' = o ∧ d' = d := by
  rw [List.drop_length] at h
  cases h; exact ⟨rfl, rfl⟩

theorem named_ok (h8 : xs.length ≤ 8) {ops : List api_RailOp} (h : ∀ x ∈ ops, 0 ≤ x.Rail ∧ x.Rail < xs.length) (hl : ops.length ≤ 1000000) : law25_named.f ops (xs.length : Int) = some true := by
  unfold law25_named.f
  rw [search_ok (L := law25_named.l0 ops (xs.length : Int)) ops (fun x => (decide (x.Rail < 0)) || (decide ((xs.length : Int) ≤ x.Rail))) false (by rw [maxLen_eq]; omega) (fun k i => by rw [law25_named.l0])]
  rw [if_neg]
  · rfl
  · intro hh
    obtain ⟨x, h1, h2⟩ := List.any_eq_true.1 hh
    have := h x h1
    simp at h2; omega

/-- The log of the operations. -/
theorem log_ok (T : Tree xs rk) (p1 : List law25_Call) (hl : p1.length ≤ 40) (h1 : ∀ c ∈ p1, Wf_law25_Call c) :
    ∃ ops s u, law25_log.f xs p1 = some (ops, true) ∧ Gs xs p1.length s u ∧ Rp xs (pos st0.c) st0.d ops (pos s.c) s.d ∧ ops.length ≤ 8 * p1.length := by
  have hn := T.n
  obtain ⟨e2, hI⟩ := rnew_tree T
  unfold law25_log.f
  rw [e2, Option.bind_some, if_neg (by simp), Option.bind_some]
  have key : ∃ ops s u, law25_log.l0 xs p1 FUEL (rails_Rails.mk (xs.map rail0) 0) [] 0 0 = some (.nxt ops) ∧ Gs xs p1.length s u ∧ Rp xs (pos st0.c) st0.d ops (pos s.c) s.d ∧ ops.length ≤ 8 * p1.length := by
    refine loop_c (L := fun fu (z : rails_Rails × List api_RailOp × Int) i => law25_log.l0 xs p1 fu z.1 z.2.1 z.2.2 i) p1.length (fun i z => ∃ s u, Plc xs i z.1 z.2.2 s u ∧ Rp xs (pos st0.c) st0.d z.2.1 (pos s.c) s.d ∧ z.2.1.length ≤ 8 * i)
      (fun o => ∃ ops s u, o = some (.nxt ops) ∧ Gs xs p1.length s u ∧ Rp xs (pos st0.c) st0.d ops (pos s.c) s.d ∧ ops.length ≤ 8 * p1.length) ?_ ?_ FUEL 0 (_, [], 0) (Nat.zero_le _) (FUEL_pos (by omega)) ⟨st0, fun _ => 0, pl0 T, .nil _ _, by simp⟩
    · rintro fu ⟨a, out, now⟩ i hi ⟨s, u, p, hr, hlen⟩
      simp only at p hr hlen ⊢
      rw [law25_log.l0, if_pos (by simp; omega), idx_get hi, Option.bind_some]
      obtain ⟨k, v, a', s', ops, r, f1, f2, f3, f4, p', rp, le, f5⟩ := step_ok T (by omega) p p1[i] (h1 _ (List.getElem_mem hi))
      rw [cat_ok _ hn now, f1, Option.bind_some, f2, Option.bind_some]
      simp only
      refine .inl ⟨(a', out ++ ops, if r = 0 then v else now), ⟨s', _, p', hr.append rp, by simp; omega⟩, ?_⟩
      by_cases h0 : r = 0
      · rw [if_pos (by simpa using h0), if_pos h0, Option.bind_some]
        simp only [Fl.go]
        rw [app_ok (by omega), Option.bind_some, wi_succ (by omega)]
      · rw [if_neg (by simpa using h0), if_neg h0, if_neg (by rw [f5 h0]; simp), Option.bind_some]
        simp only [Fl.go]
        rw [app_ok (by omega), Option.bind_some, wi_succ (by omega)]
    · rintro fu ⟨a, out, now⟩ ⟨s, u, p, hr, hlen⟩
      simp only
      rw [law25_log.l0, if_neg (by simp)]
      exact ⟨out, s, u, rfl, p.g, hr, hlen⟩
  obtain ⟨ops, s, u, f1, f2, f3, f4⟩ := key
  exact ⟨ops, s, u, by rw [f1]; rfl, f2, f3, f4⟩
end
end Go.Proofs.Ytfiodhdldleocaa.Sim
