/-
  Plain lemmas: calls in a row, with the time that the statement keeps.
-/
import Derived.Test.YtfiodhdldleocaaC2
namespace Go.Proofs.Ytfiodhdldleocaa.Sim
open Go
set_option linter.unusedVariables false
set_option maxRecDepth 100000

section
variable {xs : List api_Rail} {rk : Int → Nat} {t : Int}

theorem pass_ok {ρ : Type} {L : Nat → Int → Option ρ} (n : Nat) (v : Option ρ) (hn : n < FUEL) (step : ∀ k (i : Nat), i < n → L (k + 1) (i : Int) = L k ((i + 1 : Nat) : Int)) (fin : ∀ k, L (k + 1) (n : Int) = v) : L FUEL 0 = v :=
  loop_c (L := fun k (_ : Unit) i => L k i) n (fun _ _ => True) (fun o => o = v) (fun k s i hi _ => .inl ⟨(), trivial, step k i hi⟩) (fun k s _ => fin k) FUEL 0 () (Nat.zero_le _) (by omega) trivial

abbrev pl (c : law25_Call) : law25_Call := law25_Call.mk c.Release c.Rail c.Wait false

theorem mcall_ok {s : Ms} {rel : Bool} {k v : Int} (h : (mcall xs s rel k v).2.2 = 0) : (mcall xs s rel k v).1.t = v := by
  unfold mcall at h ⊢
  split at h
  · rename_i h1
    rw [if_pos h1]
    split at h
    · rename_i h2
      rw [if_pos h2]
      split at h
      · cases h
      · rename_i h3; rw [if_neg h3]
    · rename_i h2; rw [if_neg h2]
  · cases h
theorem mcall_no {s : Ms} {rel : Bool} {k v : Int} (h : (mcall xs s rel k v).2.2 ≠ 0) : (mcall xs s rel k v).1 = s ∧ (mcall xs s rel k v).2.1 = [] := by
  unfold mcall at h ⊢
  split at h
  · rename_i h1
    rw [if_pos h1]
    split at h
    · rename_i h2
      rw [if_pos h2]
      split at h
      · rename_i h3; rw [if_pos h3]; exact ⟨rfl, rfl⟩
      · exact absurd rfl h
    · exact absurd rfl h
  · rename_i h1; rw [if_neg h1]; exact ⟨rfl, rfl⟩

/-- What holds behind i plain calls; the clock is what the statement keeps. -/
structure Plc (xs : List api_Rail) (i : Nat) (a : rails_Rails) (now : Int) (s : Ms) (u : Fn) : Prop where
  g : Gs xs i s u
  a : RI xs a s
  t : s.t = now
  t1 : now ≤ 29 * i
theorem pl0 (T : Tree xs rk) : Plc xs 0 (rails_Rails.mk (xs.map rail0) 0) 0 st0 (fun _ => 0) := ⟨gs0, (rnew_tree T).2, rfl, by simp⟩

/-- A plain call. -/
theorem step_ok (T : Tree xs rk) {i : Nat} (hi : i ≤ 100) {a : rails_Rails} {now : Int} {s : Ms} {u : Fn} (p : Plc xs i a now s u) (c : law25_Call) (hw : Wf_law25_Call c) :
    ∃ k v a' s' ops r, catAt (pl c) xs.length now = (k, v) ∧ law25_do.f a (pl c) (xs.length : Int) now = some (a', ops, r) ∧ (0 < xs.length → 0 ≤ k ∧ k < xs.length) ∧ now ≤ v ∧
      Plc xs (i + 1) a' (if r = 0 then v else now) s' (musg u r c.Release k) ∧ Rp xs (pos s.c) s.d ops (pos s'.c) s'.d ∧ ops.length ≤ 8 ∧ (r ≠ 0 → ops = []) := by
  have ht0 := p.g.t0
  have ht1 := p.t1
  have hpt := p.t
  have hwt := (u64_range hw.2.2.1).1
  obtain ⟨c1, c2, c3⟩ : (0 < xs.length → 0 ≤ (catAt (pl c) xs.length now).1 ∧ (catAt (pl c) xs.length now).1 < xs.length) ∧ now ≤ (catAt (pl c) xs.length now).2 ∧ (catAt (pl c) xs.length now).2 ≤ now + 29 := cat_plain c T.n (now := now) (by omega) (by omega) hwt
  obtain ⟨a', f1, f2⟩ := do_ok T p.g (by omega) p.a (pl c) now
  obtain ⟨g', rp, le⟩ := mcall_good T p.g c.Release (catAt (pl c) xs.length now).1 (catAt (pl c) xs.length now).2
  refine ⟨(catAt (pl c) xs.length now).1, (catAt (pl c) xs.length now).2, a', _, _, _, rfl, f1, fun h => by have := c1 h; exact ⟨this.1, by omega⟩, c2, ⟨g', f2, ?_, ?_⟩, rp, le, fun h => (mcall_no h).2⟩
  · split
    · rename_i h; exact mcall_ok h
    · rename_i h
      have := (mcall_no h).1
      show (mcall xs s c.Release _ _).1.t = now
      rw [this]; exact hpt
  · have : (pl c).Release = c.Release := rfl
    split <;> omega
end
end Go.Proofs.Ytfiodhdldleocaa.Sim
