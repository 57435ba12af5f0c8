/-
  Plain lemmas: a call of the rails as a step of the machine; queries.
-/
import Derived.Test.YtfiodhdldleocaaB2
namespace Go.Proofs.Ytfiodhdldleocaa.Sim
open Go
set_option linter.unusedVariables false
set_option maxRecDepth 100000

structure Ms where
  t : Int
  c : Fn
  d : Fn
abbrev MaxT : Int := 1152921504606846976
def mcall (xs : List api_Rail) (s : Ms) (rel : Bool) (k u : Int) : Ms × List api_RailOp × Int :=
  if 0 ≤ k ∧ k < xs.length ∧ s.t ≤ u ∧ u ≤ 1152921504606846976 then
    if rel = true then (if s.c k - fed xs s.c k xs.length = 0 then (s, [], 9) else (⟨u, (aoff xs u 8 s.c s.d k).1, (aoff xs u 8 s.c s.d k).2.1⟩, (aoff xs u 8 s.c s.d k).2.2, 0))
    else (⟨u, (aon xs u 8 s.c s.d k).1, (aon xs u 8 s.c s.d k).2.1⟩, (aon xs u 8 s.c s.d k).2.2, 0)
  else (s, [], 1)
def musg (u : Fn) (r : Int) (rel : Bool) (k : Int) : Fn := if r = 0 then (if rel = true then set u k (u k - 1) else set u k (u k + 1)) else u
def RI (xs : List api_Rail) (a : rails_Rails) (s : Ms) : Prop := a.now = s.t ∧ RepL xs a.list s.c s.d
def RR (xs : List api_Rail) (b : ref25_Rails) (s : Ms) : Prop := b.R = xs ∧ b.Clock = s.t ∧ RepV xs.length b.N s.c ∧ RepV xs.length b.Done s.d
structure Gs (xs : List api_Rail) (j : Nat) (s : Ms) (u : Fn) : Prop where
  inv : Inv xs s.c s.d u
  c1 : ∀ i, s.c i ≤ j
  d1 : ∀ i, s.d i ≤ 1152921504606846976 + 160 * j
  t0 : 0 ≤ s.t
  t1 : s.t ≤ 1152921504606846976

section
variable {xs : List api_Rail} {rk : Int → Nat} {t : Int}

theorem aon_c (T : Tree xs rk) : ∀ (f : Nat) (c d : Fn) (k i : Int), c i ≤ (aon xs t f c d k).1 i ∧ (aon xs t f c d k).1 i ≤ c i + 1
  | 0, c, d, k, i => by simp only [aon]; omega
  | f + 1, c, d, k, i => by
    rw [aon]
    split
    · unfold set; simp only; split <;> (try subst i) <;> omega
    · split
      · rename_i h2
        have h3 := aon_frame T (t := t) f c d (sp xs k) k (T.r k h2)
        have h4 := aon_c T f c d (sp xs k) i
        unfold set; simp only; split <;> (try subst i) <;> omega
      · unfold set; simp only; split <;> (try subst i) <;> omega
theorem aoff_c : ∀ (f : Nat) (c d : Fn) (k i : Int), (aoff xs t f c d k).1 i ≤ c i
  | 0, c, d, k, i => by simp only [aoff]; omega
  | f + 1, c, d, k, i => by
    have hs : set c k (c k - 1) i ≤ c i := by unfold set; split <;> (try subst i) <;> omega
    rw [aoff]
    split
    · exact hs
    · simp only
      split
      · exact Int.le_trans (aoff_c f _ _ _ i) hs
      · exact hs

theorem mcall_good (T : Tree xs rk) {j : Nat} {s : Ms} {u : Fn} (g : Gs xs j s u) (rel : Bool) (k v : Int) :
    Gs xs (j + 1) (mcall xs s rel k v).1 (musg u (mcall xs s rel k v).2.2 rel k) ∧ Rp xs (pos s.c) s.d (mcall xs s rel k v).2.1 (pos (mcall xs s rel k v).1.c) (mcall xs s rel k v).1.d ∧ (mcall xs s rel k v).2.1.length ≤ 8 := by
  have same : Gs xs (j + 1) s u := ⟨g.inv, fun i => by have := g.c1 i; omega, fun i => by have := g.d1 i; omega, g.t0, g.t1⟩
  have hd : ∀ i, 0 ≤ s.d i ∧ s.d i ≤ 1152921504606846976 + 160 * j := fun i => ⟨g.inv.d0 i, g.d1 i⟩
  unfold mcall musg
  split
  · rename_i h
    obtain ⟨k0, k1, h1, h2⟩ := h
    have v0 : 0 ≤ v := by have := g.t0; omega
    have hbal := g.inv.bal k k0 k1
    have huk := g.inv.u0 k
    by_cases hr : rel = true
    · rw [if_pos hr]
      by_cases hz : s.c k - fed xs s.c k xs.length = 0
      · rw [if_pos hz]; simp only; exact ⟨same, .nil _ _, by simp⟩
      · rw [if_neg hz]; simp only
        rw [if_pos trivial, if_pos hr]
        obtain ⟨a1, a2⟩ := off_inv T v0 8 s.c s.d (set u k (u k - 1)) k (T.b k) k0 k1 g.inv.c0 g.inv.d0 (fun i => by have := g.inv.u0 i; unfold set; split <;> omega)
          (fun i i0 i1 => by
            have := g.inv.bal i i0 i1
            unfold set
            by_cases e : i = k
            · subst e; rw [if_pos rfl, if_pos rfl]; omega
            · rw [if_neg e, if_neg e]; omega) g.inv.pow
        have hb := aoff_bound T (t := v) 8 (1152921504606846976 + 160 * j) s.c s.d k v0 (by omega) hd
        exact ⟨⟨a1, fun i => by have := g.c1 i; have := aoff_c (xs := xs) (t := v) 8 s.c s.d k i; simp only; omega, fun i => by have := hb.1 i; simp only; omega, v0, h2⟩, a2, hb.2⟩
    · rw [if_neg hr]; simp only
      rw [if_pos trivial, if_neg hr]
      obtain ⟨a1, a2, _⟩ := on_inv T v0 8 s.c s.d (set u k (u k + 1)) k (T.b k) k0 k1 g.inv.c0 g.inv.d0 (fun i => by have := g.inv.u0 i; unfold set; split <;> omega) (by rw [set_self]; omega)
          (fun i i0 i1 => by
            have := g.inv.bal i i0 i1
            unfold set
            by_cases e : i = k
            · subst e; rw [if_pos rfl, if_pos rfl]; omega
            · rw [if_neg e, if_neg e]; omega) g.inv.pow
      have hb := aon_bound T (t := v) (B := 1152921504606846976 + 160 * j) v0 (by omega) 8 s.c s.d k hd
      exact ⟨⟨a1, fun i => by have := g.c1 i; have := aon_c T (t := v) 8 s.c s.d k i; simp only; omega, fun i => by have := hb.1 i; simp only; omega, v0, h2⟩, a2, hb.2⟩
  · simp only; exact ⟨same, .nil _ _, by simp⟩

theorem own_ok (T : Tree xs rk) {a : rails_Rails} {s : Ms} (h : RI xs a s) {k : Int} (k0 : 0 ≤ k) (k1 : k < xs.length) (hc : 0 ≤ s.c k ∧ s.c k ≤ 1000) : rails_Rails_own.f a k = some (s.c k - fed xs s.c k xs.length) := by
  have hn := T.n
  unfold rails_Rails_own.f
  rw [h.2.get k0 k1, Option.bind_some]
  simp only
  have : rails_Rails_own.l0 a k FUEL (s.c k) 0 = some (s.c k - fed xs s.c k xs.length) := by
    refine loop_c (L := fun fu (m : Int) i => rails_Rails_own.l0 a k fu m i) xs.length (fun i m => m = s.c k - fed xs s.c k i) (fun o => o = some (s.c k - fed xs s.c k xs.length)) ?_ ?_ FUEL 0 (s.c k) (Nat.zero_le _) (FUEL_pos (by omega)) (by simp [fed])
    · rintro fu m i hi rfl
      have hf := fed_nonneg (xs := xs) s.c k i
      rw [rails_Rails_own.l0, h.2.1, if_pos (by simp; omega), h.2.get (by omega) (by omega), Option.bind_some, fed]
      refine .inl ⟨_, rfl, ?_⟩
      have e : (rl xs (i : Int)).Supply = sp xs i := rfl
      simp only [e]
      by_cases hs : sp xs i = k ∧ 0 < s.c i
      · rw [if_pos (by simpa using hs), if_pos hs, Option.bind_some, wi_succ (by omega), wi_id (by omega) (by omega)]; congr 1; omega
      · rw [if_neg (by simpa using hs), if_neg hs, Option.bind_some, wi_succ (by omega)]; congr 1; omega
    · rintro fu m rfl
      rw [rails_Rails_own.l0, h.2.1, if_neg (by simp)]
  rw [this]; rfl
theorem ownr_ok (T : Tree xs rk) {b : ref25_Rails} {s : Ms} (h : RR xs b s) {k : Int} (k0 : 0 ≤ k) (k1 : k < xs.length) (hc : 0 ≤ s.c k ∧ s.c k ≤ 1000) : ref25_Rails_own.f b k = some (s.c k - fed xs s.c k xs.length) := by
  have hn := T.n
  unfold ref25_Rails_own.f
  rw [h.2.2.1.2 k k0 k1, Option.bind_some]
  have : ref25_Rails_own.l0 b k FUEL (s.c k) 0 = some (s.c k - fed xs s.c k xs.length) := by
    refine loop_c (L := fun fu (m : Int) i => ref25_Rails_own.l0 b k fu m i) xs.length (fun i m => m = s.c k - fed xs s.c k i) (fun o => o = some (s.c k - fed xs s.c k xs.length)) ?_ ?_ FUEL 0 (s.c k) (Nat.zero_le _) (FUEL_pos (by omega)) (by simp [fed])
    · rintro fu m i hi rfl
      have hf := fed_nonneg (xs := xs) s.c k i
      rw [ref25_Rails_own.l0, h.1, if_pos (by simp; omega), at_ (xs := xs) (by omega) (by omega), Option.bind_some, fed]
      refine .inl ⟨_, rfl, ?_⟩
      have e : (rl xs (i : Int)).Supply = sp xs i := rfl
      simp only [e, h.2.2.1.2 (i : Int) (by omega) (by omega), Option.bind_some]
      by_cases hs : sp xs i = k
      · rw [if_pos (by simpa using hs), Option.bind_some]
        by_cases hc : 0 < s.c i
        · rw [if_pos (by simpa using hc), if_pos ⟨hs, hc⟩, Option.bind_some, wi_succ (by omega), wi_id (by omega) (by omega)]; congr 1; omega
        · rw [if_neg (by simpa using hc), if_neg (fun h => hc h.2), Option.bind_some, wi_succ (by omega)]; congr 1; omega
      · rw [if_neg (by simpa using hs), Option.bind_some, if_neg (by simp), if_neg (fun h => hs h.1), Option.bind_some, wi_succ (by omega)]; congr 1; omega
    · rintro fu m rfl
      rw [ref25_Rails_own.l0, h.1, if_neg (by simp)]
  rw [this]; rfl

theorem FUEL_8 : 8 ≤ FUEL := by unfold FUEL; omega

theorem acquire_ok (T : Tree xs rk) {j : Nat} {s : Ms} {u : Fn} (g : Gs xs j s u) (hj : j ≤ 100) {a : rails_Rails} (h : RI xs a s) (k v : Int) :
    ∃ a', rails_Rails_Acquire.f a k v = some (a', (mcall xs s false k v).2.1, (mcall xs s false k v).2.2) ∧ RI xs a' (mcall xs s false k v).1 := by
  unfold rails_Rails_Acquire.f rails_Rails_check.f rails_Rails_has.f mcall
  simp only [Option.bind_some, h.1, h.2.1]
  by_cases hc : 0 ≤ k ∧ k < xs.length ∧ s.t ≤ v ∧ v ≤ 1152921504606846976
  · rw [if_pos hc, if_neg (by simp [hc]), if_neg (by simp)]
    obtain ⟨k0, k1, h1, h2⟩ := hc
    have ht := g.t0
    obtain ⟨l', e1, e2⟩ := on_ok T (t := v) (tm := v) 8 FUEL (1152921504606846976 + 160 * j) a.list s.c s.d k (T.b k) FUEL_8 k0 k1 h.2 (fun i => ⟨g.inv.c0 i, by have := g.c1 i; omega⟩) (fun i => ⟨g.inv.d0 i, g.d1 i⟩) (by omega) (by omega) (by omega) (by omega)
    rw [show rails_Rails_on.f (rails_Rails.mk a.list v) k v = _ from e1, Option.bind_some]
    exact ⟨_, rfl, rfl, e2⟩
  · rw [if_neg hc, if_pos (by simp; omega)]
    exact ⟨a, rfl, h⟩
theorem release_ok (T : Tree xs rk) {j : Nat} {s : Ms} {u : Fn} (g : Gs xs j s u) (hj : j ≤ 100) {a : rails_Rails} (h : RI xs a s) (k v : Int) :
    ∃ a', rails_Rails_Release.f a k v = some (a', (mcall xs s true k v).2.1, (mcall xs s true k v).2.2) ∧ RI xs a' (mcall xs s true k v).1 := by
  unfold rails_Rails_Release.f rails_Rails_check.f rails_Rails_has.f mcall
  simp only [Option.bind_some, h.1, h.2.1]
  by_cases hc : 0 ≤ k ∧ k < xs.length ∧ s.t ≤ v ∧ v ≤ 1152921504606846976
  · rw [if_pos hc, if_neg (by simp [hc]), if_pos trivial]
    obtain ⟨k0, k1, h1, h2⟩ := hc
    have ht := g.t0
    have hcj : ∀ i, 0 ≤ s.c i ∧ s.c i ≤ 1000 := fun i => ⟨g.inv.c0 i, by have := g.c1 i; omega⟩
    rw [own_ok T h k0 k1 (hcj k), Option.bind_some]
    by_cases hz : s.c k - fed xs s.c k xs.length = 0
    · rw [if_pos hz, if_pos (by simpa using hz)]; exact ⟨a, rfl, h⟩
    · rw [if_neg hz, if_neg (by simpa using hz)]
      obtain ⟨l', e1, e2⟩ := off_ok T (t := v) (tm := v) 8 FUEL (1152921504606846976 + 160 * j) a.list s.c s.d k (T.b k) FUEL_8 k0 k1 h.2 (fun i => by have := hcj i; omega) (fun i => ⟨g.inv.d0 i, g.d1 i⟩) (by omega) (by omega) (by omega) (by omega) (fun i _ => by have := hcj i; omega)
      rw [show rails_Rails_off.f (rails_Rails.mk a.list v) k v = _ from e1, Option.bind_some]
      exact ⟨_, rfl, rfl, e2⟩
  · rw [if_neg hc, if_pos (by simp; omega)]
    exact ⟨a, rfl, h⟩
theorem acquirer_ok (T : Tree xs rk) {j : Nat} {s : Ms} {u : Fn} (g : Gs xs j s u) (hj : j ≤ 100) {b : ref25_Rails} (h : RR xs b s) (k v : Int) :
    ∃ b', ref25_Rails_Acquire.f b k v = some (b', (mcall xs s false k v).2.1, (mcall xs s false k v).2.2) ∧ RR xs b' (mcall xs s false k v).1 := by
  unfold ref25_Rails_Acquire.f ref25_Rails_bad.f mcall
  simp only [Option.bind_some, h.1, h.2.1]
  by_cases hc : 0 ≤ k ∧ k < xs.length ∧ s.t ≤ v ∧ v ≤ 1152921504606846976
  · rw [if_pos hc, if_neg (by simp; omega), if_neg (by simp)]
    obtain ⟨k0, k1, h1, h2⟩ := hc
    have ht := g.t0
    obtain ⟨N', D', e1, e2, e3⟩ := add_ok T (t := v) (tm := v) 8 FUEL (1152921504606846976 + 160 * j) b.N b.Done [] s.c s.d k (T.b k) FUEL_8 k0 k1 h.2.2.1 h.2.2.2 (fun i => ⟨g.inv.c0 i, by have := g.c1 i; omega⟩) (fun i => ⟨g.inv.d0 i, g.d1 i⟩) (by omega) (by omega) (by omega) (by simp)
    rw [show ref25_Rails_add.f (ref25_Rails.mk xs b.N b.Done v) [] k v = _ from e1, Option.bind_some]
    exact ⟨_, rfl, rfl, rfl, e2, e3⟩
  · rw [if_neg hc, if_pos (by simp; omega)]
    exact ⟨b, rfl, h⟩
theorem releaser_ok (T : Tree xs rk) {j : Nat} {s : Ms} {u : Fn} (g : Gs xs j s u) (hj : j ≤ 100) {b : ref25_Rails} (h : RR xs b s) (k v : Int) :
    ∃ b', ref25_Rails_Release.f b k v = some (b', (mcall xs s true k v).2.1, (mcall xs s true k v).2.2) ∧ RR xs b' (mcall xs s true k v).1 := by
  unfold ref25_Rails_Release.f ref25_Rails_bad.f mcall
  simp only [Option.bind_some, h.1, h.2.1]
  by_cases hc : 0 ≤ k ∧ k < xs.length ∧ s.t ≤ v ∧ v ≤ 1152921504606846976
  · rw [if_pos hc, if_neg (by simp; omega), if_pos trivial]
    obtain ⟨k0, k1, h1, h2⟩ := hc
    have ht := g.t0
    have hcj : ∀ i, 0 ≤ s.c i ∧ s.c i ≤ 1000 := fun i => ⟨g.inv.c0 i, by have := g.c1 i; omega⟩
    rw [ownr_ok T h k0 k1 (hcj k), Option.bind_some]
    by_cases hz : s.c k - fed xs s.c k xs.length = 0
    · rw [if_pos hz, if_pos (by simpa using hz)]; exact ⟨b, rfl, h⟩
    · rw [if_neg hz, if_neg (by simpa using hz)]
      obtain ⟨N', D', e1, e2, e3⟩ := drop_ok T (t := v) (tm := v) 8 FUEL (1152921504606846976 + 160 * j) b.N b.Done [] s.c s.d k (T.b k) FUEL_8 k0 k1 h.2.2.1 h.2.2.2 (fun i => by have := hcj i; omega) (fun i => ⟨g.inv.d0 i, g.d1 i⟩) (by omega) (by omega) (by omega) (by simp) (fun i _ => by have := hcj i; omega)
      rw [show ref25_Rails_drop.f (ref25_Rails.mk xs b.N b.Done v) [] k v = _ from e1, Option.bind_some]
      exact ⟨_, rfl, rfl, rfl, e2, e3⟩
  · rw [if_neg hc, if_pos (by simp; omega)]
    exact ⟨b, rfl, h⟩

/-! ### queries -/

def mcount (xs : List api_Rail) (s : Ms) (k : Int) : Int := if 0 ≤ k ∧ k < xs.length then s.c k else 0
def mready (xs : List api_Rail) (s : Ms) (k : Int) : Int × Bool := if mcount xs s k = 0 then (0, false) else (s.d k, true)
def mpow (xs : List api_Rail) (s : Ms) (k v : Int) : Bool := (mready xs s k).2 && decide ((mready xs s k).1 ≤ v)

theorem count_ok {a : rails_Rails} {s : Ms} (h : RI xs a s) (k : Int) : rails_Rails_Count.f a k = some (mcount xs s k) := by
  unfold rails_Rails_Count.f rails_Rails_has.f mcount
  simp only [Option.bind_some, h.2.1]
  by_cases hc : 0 ≤ k ∧ k < xs.length
  · rw [if_neg (by simp [hc]), if_pos hc, h.2.get hc.1 hc.2]; rfl
  · rw [if_pos (by simp; omega), if_neg hc]
theorem mcount_range {s : Ms} {k : Int} (h : mcount xs s k ≠ 0) : 0 ≤ k ∧ k < xs.length := by
  unfold mcount at h; split at h
  · assumption
  · exact absurd rfl h
theorem ready_ok {a : rails_Rails} {s : Ms} (h : RI xs a s) (k : Int) : rails_Rails_ReadyAt.f a k = some (mready xs s k) := by
  unfold rails_Rails_ReadyAt.f mready
  rw [count_ok h, Option.bind_some]
  by_cases hz : mcount xs s k = 0
  · rw [if_pos (by simpa using hz), if_pos hz]
  · obtain ⟨k0, k1⟩ := mcount_range hz
    rw [if_neg (by simpa using hz), if_neg hz, h.2.get k0 k1]; rfl
theorem pow_ok {a : rails_Rails} {s : Ms} (h : RI xs a s) (k v : Int) : rails_Rails_Powered.f a k v = some (mpow xs s k v) := by
  unfold rails_Rails_Powered.f mpow
  rw [ready_ok h]; rfl
theorem countr_ok {b : ref25_Rails} {s : Ms} (h : RR xs b s) (k : Int) : ref25_Rails_Count.f b k = some (mcount xs s k) := by
  unfold ref25_Rails_Count.f mcount
  simp only [h.1]
  by_cases hc : 0 ≤ k ∧ k < xs.length
  · rw [if_neg (by simp; omega), if_pos hc, h.2.2.1.2 k hc.1 hc.2]; rfl
  · rw [if_pos (by simp; omega), if_neg hc]
theorem readyr_ok {b : ref25_Rails} {s : Ms} (h : RR xs b s) (k : Int) : ref25_Rails_ReadyAt.f b k = some (mready xs s k) := by
  unfold ref25_Rails_ReadyAt.f mready
  rw [countr_ok h, Option.bind_some]
  by_cases hz : mcount xs s k = 0
  · rw [if_pos (by simpa using hz), if_pos hz]
  · obtain ⟨k0, k1⟩ := mcount_range hz
    rw [if_neg (by simpa using hz), if_neg hz, h.2.2.2.2 k k0 k1]; rfl
theorem powr_ok {b : ref25_Rails} {s : Ms} (h : RR xs b s) (hc : ∀ i, 0 ≤ s.c i) (k v : Int) : ref25_Rails_Powered.f b k v = some (mpow xs s k v) := by
  unfold ref25_Rails_Powered.f mpow mready
  rw [countr_ok h, Option.bind_some]
  by_cases hz : mcount xs s k = 0
  · rw [if_neg (by simp [hz]), if_pos hz]; rfl
  · obtain ⟨k0, k1⟩ := mcount_range hz
    have : 0 < mcount xs s k := by
      have h1 := hc k
      unfold mcount at hz ⊢
      rw [if_pos ⟨k0, k1⟩] at hz ⊢
      omega
    rw [if_pos (by simpa using this), if_neg hz, h.2.2.2.2 k k0 k1]; simp
end
end Go.Proofs.Ytfiodhdldleocaa.Sim
