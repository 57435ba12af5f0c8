/-
  Plain lemmas: the reference's rails are the machine on functions.
-/
import Derived.Test.YtfiodhdldleocaaB1
namespace Go.Proofs.Ytfiodhdldleocaa.Sim
open Go
set_option linter.unusedVariables false
set_option maxRecDepth 100000

section
variable {xs : List api_Rail} {rk : Int → Nat} {t : Int}

theorem later_ok (a b : Int) : ref25_later.f a b = some (max a b) := by
  unfold ref25_later.f
  by_cases h : b < a
  · rw [if_pos (by simpa using h)]; congr 1; omega
  · rw [if_neg (by simpa using h)]; congr 1; omega

theorem add_ok (T : Tree xs rk) {tm : Int} : ∀ (f kr : Nat) (B : Int) (N D : List Int) (os : List api_RailOp) (c d : Fn) (k : Int), rk k < f → f ≤ kr → 0 ≤ k → k < xs.length → RepV xs.length N c → RepV xs.length D d →
    (∀ i, 0 ≤ c i ∧ c i ≤ 1000) → (∀ i, 0 ≤ d i ∧ d i ≤ B) → 0 ≤ t → t ≤ B → B + 20 * f < 18446744073709551616 → os.length + f ≤ 1000 →
    ∃ N' D', ref25_Rails_add.r kr (ref25_Rails.mk xs N D tm) os k t = some (ref25_Rails.mk xs N' D' tm, os ++ (aon xs t f c d k).2.2) ∧ RepV xs.length N' (aon xs t f c d k).1 ∧ RepV xs.length D' (aon xs t f c d k).2.1
  | 0, kr, B, N, D, os, c, d, k, h, _, _, _, _, _, _, _, _, _, _, _ => absurd h (by omega)
  | f + 1, 0, B, N, D, os, c, d, k, h, h', _, _, _, _, _, _, _, _, _, _ => absurd h' (by omega)
  | f + 1, kr + 1, B, N, D, os, c, d, k, hf, hkr, k0, k1, hN, hD, hc, hd, t0, tB, hB, hf9 => by
    have hck := hc k
    have hdk := hd k
    have hup := T.u k
    have hw : wi (c k + 1) = c k + 1 := wi_id (by omega) (by omega)
    have hN1 := hN.set k0 (c k + 1)
    rw [ref25_Rails_add.r]
    simp only [hN.2 k k0 k1, Option.bind_some, hw, hN1.2 k k0 k1, set_self]
    rw [aon]
    by_cases h1 : 0 < c k
    · rw [if_pos h1, if_pos (by simp; omega)]
      exact ⟨_, _, by simp, hN1, hD⟩
    · rw [if_neg h1, if_neg (by simp; omega)]
      simp only [hD.2 k k0 k1, Option.bind_some, later_ok, at_ k0 k1]
      by_cases h2 : 0 ≤ sp xs k
      · have h2' : 0 ≤ (rl xs k).Supply := h2
        rw [if_pos h2, if_pos (by simpa using h2')]
        have hrk := T.r k h2
        have hbd := aon_bound T t0 tB f c d (sp xs k) hd
        have hst := aon_set T (t := t) f c d (sp xs k) k (c k + 1) hrk
        obtain ⟨N', D', e1, e2, e3⟩ := add_ok T (tm := tm) f kr B _ D os (set c k (c k + 1)) d (sp xs k) (by omega) (by omega) h2 (T.s k).2 hN1 hD (fun i => by have := hc i; unfold set; split <;> omega) hd t0 tB (by omega) (by omega)
        rw [hst] at e1 e2 e3
        simp only at e1 e2 e3
        have e1' : ref25_Rails_add.r kr (ref25_Rails.mk xs (upd N k (c k + 1)) D tm) os (rl xs k).Supply t = _ := e1
        generalize aon xs t f c d (sp xs k) = r at *
        obtain ⟨rc, rd, ro⟩ := r
        simp only at *
        have hb1 := hbd.1 (sp xs k)
        have hb2 := hbd.2
        rw [e1', Option.bind_some]
        rw [show idx D' (rl xs k).Supply = some _ from e3.2 _ h2 (T.s k).2]
        simp only [Option.bind_some, e3.2 k k0 k1, at_ k0 k1]
        have e5 : (rl xs k).Supply = sp xs k := rfl
        have hwu : wu (max (max t (d k)) (rd (sp xs k)) + (rl xs k).RampUp) = max (max t (d k)) (rd (sp xs k)) + (rl xs k).RampUp := wu_id (by omega) (by omega)
        simp only [e5]
        rw [hwu]
        have hD2 := e3.set k0 (max (max t (d k)) (rd (sp xs k)) + (rl xs k).RampUp)
        rw [hD2.2 k k0 k1, Option.bind_some, app_ok (by simp; omega), Option.bind_some]
        simp only [set_self]
        exact ⟨_, _, by rw [List.append_assoc], e2, hD2⟩
      · have h2' : ¬ 0 ≤ (rl xs k).Supply := h2
        rw [if_neg h2, if_neg (by simpa using h2')]
        simp only [Option.bind_some, hD.2 k k0 k1, at_ k0 k1]
        have hwu : wu (max t (d k) + (rl xs k).RampUp) = max t (d k) + (rl xs k).RampUp := wu_id (by omega) (by omega)
        rw [hwu]
        have hD2 := hD.set k0 (max t (d k) + (rl xs k).RampUp)
        rw [hD2.2 k k0 k1, Option.bind_some, app_ok (by simp; omega), Option.bind_some]
        simp only [set_self]
        exact ⟨_, _, rfl, hN1, hD2⟩

theorem dropl_ok {N D : List Int} {tm k : Int} {d : Fn} (h64 : xs.length ≤ 64) (hD : RepV xs.length D d) (m0 : Int) :
    ref25_Rails_drop.l0 (ref25_Rails.mk xs N D tm) k FUEL m0 0 = some (offS xs d k m0 xs.length) := by
  refine loop_c (L := fun fu (s : Int) i => ref25_Rails_drop.l0 (ref25_Rails.mk xs N D tm) k fu s i) xs.length (fun i s => s = offS xs d k m0 i) (fun o => o = some (offS xs d k m0 xs.length)) ?_ ?_ FUEL 0 m0 (Nat.zero_le _) (FUEL_pos (by omega)) rfl
  · rintro fu s i hi rfl
    rw [ref25_Rails_drop.l0, if_pos (decide_eq_true (by show (i : Int) < (xs.length : Int); omega)), at_ (xs := xs) (by omega) (by omega), Option.bind_some, offS]
    refine .inl ⟨_, rfl, ?_⟩
    have e : (rl xs (i : Int)).Supply = sp xs i := rfl
    simp only [e, later_ok]
    by_cases h : sp xs i = k
    · rw [if_pos (by simpa using h), if_pos h, hD.2 i (by omega) (by omega)]
      simp only [Option.bind_some]
      rw [wi_succ (by omega)]
    · rw [if_neg (by simpa using h), if_neg h, Option.bind_some, wi_succ (by omega)]
  · rintro fu s rfl
    rw [ref25_Rails_drop.l0, if_neg (by simp)]

theorem drop_ok (T : Tree xs rk) {tm : Int} : ∀ (f kr : Nat) (B : Int) (N D : List Int) (os : List api_RailOp) (c d : Fn) (k : Int), rk k < f → f ≤ kr → 0 ≤ k → k < xs.length → RepV xs.length N c → RepV xs.length D d →
    (∀ i, 0 ≤ c i + 1000 ∧ c i ≤ 1000) → (∀ i, 0 ≤ d i ∧ d i ≤ B) → 0 ≤ t → t ≤ B → B + 20 * f < 18446744073709551616 → os.length + f ≤ 1000 → (∀ i, rk i < f → -500 + (f : Int) ≤ c i) →
    ∃ N' D', ref25_Rails_drop.r kr (ref25_Rails.mk xs N D tm) os k t = some (ref25_Rails.mk xs N' D' tm, os ++ (aoff xs t f c d k).2.2) ∧ RepV xs.length N' (aoff xs t f c d k).1 ∧ RepV xs.length D' (aoff xs t f c d k).2.1
  | 0, kr, B, N, D, os, c, d, k, h, _, _, _, _, _, _, _, _, _, _, _, _ => absurd h (by omega)
  | f + 1, 0, B, N, D, os, c, d, k, h, h', _, _, _, _, _, _, _, _, _, _, _ => absurd h' (by omega)
  | f + 1, kr + 1, B, N, D, os, c, d, k, hf, hkr, k0, k1, hN, hD, hc, hd, t0, tB, hB, hf9, hlo => by
    have hck := hc k
    have hdk := hd k
    have hup := T.d k
    have hw : wi (c k - 1) = c k - 1 := wi_id (by omega) (by omega)
    have hN1 := hN.set k0 (c k - 1)
    rw [ref25_Rails_drop.r]
    simp only [hN.2 k k0 k1, Option.bind_some, hw, hN1.2 k k0 k1, set_self]
    rw [aoff]
    by_cases h1 : 0 < c k - 1
    · rw [if_pos h1, if_pos (by simpa using h1)]
      exact ⟨_, _, by simp, hN1, hD⟩
    · rw [if_neg h1, if_neg (by simpa using h1)]
      simp only [hD.2 k k0 k1, Option.bind_some, later_ok, at_ k0 k1]
      rw [dropl_ok (by have := T.n; omega) hD, Option.bind_some]
      have hs1 := (offS_ge (xs := xs) d k (max t (d k)) xs.length).1
      have hs2 := offS_le (xs := xs) d k (max t (d k)) (B := B) (by omega) (fun i => (hd i).2) xs.length
      generalize offS xs d k (max t (d k)) xs.length = s at *
      have hwu : wu (s + (rl xs k).RampDown) = s + (rl xs k).RampDown := wu_id (by omega) (by omega)
      simp only [hwu]
      have hD2 := hD.set k0 (s + (rl xs k).RampDown)
      rw [hD2.2 k k0 k1, Option.bind_some, set_self, app_ok (by simp; omega), Option.bind_some]
      by_cases h2 : 0 ≤ sp xs k
      · have h2' : 0 ≤ (rl xs k).Supply := h2
        rw [if_pos h2, if_pos (by simpa using h2')]
        have hrk := T.r k h2
        have hd2 : ∀ i, 0 ≤ set d k (s + (rl xs k).RampDown) i ∧ set d k (s + (rl xs k).RampDown) i ≤ B + 20 := fun i => by have := hd i; unfold set; split <;> omega
        obtain ⟨N', D', e1, e2, e3⟩ := drop_ok T (tm := tm) f kr (B + 20) _ _ (os ++ [api_RailOp.mk k false s (s + (rl xs k).RampDown)]) (set c k (c k - 1)) (set d k (s + (rl xs k).RampDown)) (sp xs k) (by omega) (by omega) h2 (T.s k).2 hN1 hD2
          (fun i => by have := hc i; have := hlo k hf; unfold set; split <;> omega) hd2 t0 (by omega) (by omega) (by simp; omega) (fun i hi => by have := hlo i (by omega); have := hlo k hf; unfold set; split <;> omega)
        have e1' : ref25_Rails_drop.r kr (ref25_Rails.mk xs (upd N k (c k - 1)) (upd D k (s + (rl xs k).RampDown)) tm) (os ++ [api_RailOp.mk k false s (s + (rl xs k).RampDown)]) (rl xs k).Supply t = _ := e1
        rw [e1', Option.bind_some, Option.bind_some]
        exact ⟨_, _, by rw [List.append_assoc]; rfl, e2, e3⟩
      · have h2' : ¬ 0 ≤ (rl xs k).Supply := h2
        rw [if_neg h2, if_neg (by simpa using h2')]
        exact ⟨_, _, rfl, hN1, hD2⟩
end
end Go.Proofs.Ytfiodhdldleocaa.Sim
