/-
  Plain lemmas: the program's rails and the reference's rails are the machine on functions.
-/
import Derived.Test.YtfiodhdldleocaaA2
namespace Go.Proofs.Ytfiodhdldleocaa.Sim
open Go
set_option linter.unusedVariables false
set_option maxRecDepth 100000

def RepL (xs : List api_Rail) (l : List rails_rail) (c d : Fn) : Prop := l.length = xs.length ∧ ∀ i x, idx xs i = some x → idx l i = some (rails_rail.mk x (c i) (d i))
def RepV {α : Type} (n : Nat) (l : List α) (c : Int → α) : Prop := l.length = n ∧ ∀ i : Int, 0 ≤ i → i < n → idx l i = some (c i)

section
variable {xs : List api_Rail} {rk : Int → Nat} {t : Int}

theorem rl_of {k : Int} {x : api_Rail} (h : idx xs k = some x) : rl xs k = x := by unfold rl; rw [h]; rfl
theorem sp_of {k : Int} {x : api_Rail} (h : idx xs k = some x) : sp xs k = x.Supply := by unfold sp; rw [rl_of h]
theorem at_ {k : Int} (h0 : 0 ≤ k) (h1 : k < xs.length) : idx xs k = some (rl xs k) := by
  obtain ⟨x, h, _⟩ := idx_of h0 h1
  rw [h, rl_of h]
theorem RepL.get {l : List rails_rail} {c d : Fn} (h : RepL xs l c d) {k : Int} (h0 : 0 ≤ k) (h1 : k < xs.length) : idx l k = some (rails_rail.mk (rl xs k) (c k) (d k)) := h.2 _ _ (at_ h0 h1)
theorem RepL.put {l : List rails_rail} {c d : Fn} (h : RepL xs l c d) {k : Int} (h0 : 0 ≤ k) (h1 : k < xs.length) (v w : Int) : RepL xs (upd l k (rails_rail.mk (rl xs k) v w)) (set c k v) (set d k w) := by
  refine ⟨by rw [upd_length]; exact h.1, fun i x hx => ?_⟩
  rw [idx_upd_some h0 (h.2 i x hx)]
  by_cases e : k = i
  · subst e; rw [if_pos rfl, set_self, set_self, rl_of hx]
  · rw [if_neg e, set_ne _ _ (Ne.symm e), set_ne _ _ (Ne.symm e)]
theorem RepL.putc {l : List rails_rail} {c d : Fn} (h : RepL xs l c d) {k : Int} (h0 : 0 ≤ k) (h1 : k < xs.length) (v : Int) : RepL xs (upd l k (rails_rail.mk (rl xs k) v (d k))) (set c k v) d := by
  have := h.put h0 h1 v (d k)
  rwa [set_id d rfl] at this
theorem RepL.putd {l : List rails_rail} {c d : Fn} (h : RepL xs l c d) {k : Int} (h0 : 0 ≤ k) (h1 : k < xs.length) (w : Int) : RepL xs (upd l k (rails_rail.mk (rl xs k) (c k) w)) c (set d k w) := by
  have := h.put h0 h1 (c k) w
  rwa [set_id c rfl] at this
theorem RepV.put {α : Type} {n : Nat} {l : List α} {c : Int → α} (h : RepV n l c) {k : Int} (h0 : 0 ≤ k) (v : α) : RepV n (upd l k v) (fun i => if i = k then v else c i) := by
  refine ⟨by rw [upd_length]; exact h.1, fun i i0 i1 => ?_⟩
  rw [idx_upd_some h0 (h.2 i i0 i1)]
  by_cases e : k = i
  · subst e; simp
  · simp [e, Ne.symm e]
theorem RepV.set {n : Nat} {l : List Int} {c : Fn} (h : RepV n l c) {k : Int} (h0 : 0 ≤ k) (v : Int) : RepV n (upd l k v) (set c k v) := h.put h0 v
theorem RepV.fset {n : Nat} {l : List Bool} {c : Int → Bool} (h : RepV n l c) {k : Int} (h0 : 0 ≤ k) (v : Bool) : RepV n (upd l k v) (fset c k v) := h.put h0 v

theorem on_ok (T : Tree xs rk) {tm : Int} : ∀ (f kr : Nat) (B : Int) (l : List rails_rail) (c d : Fn) (k : Int), rk k < f → f ≤ kr → 0 ≤ k → k < xs.length → RepL xs l c d →
    (∀ i, 0 ≤ c i ∧ c i ≤ 1000) → (∀ i, 0 ≤ d i ∧ d i ≤ B) → 0 ≤ t → t ≤ B → B + 20 * f < 18446744073709551616 → f ≤ 1000 →
    ∃ l', rails_Rails_on.r kr (rails_Rails.mk l tm) k t = some (rails_Rails.mk l' tm, (aon xs t f c d k).2.2) ∧ RepL xs l' (aon xs t f c d k).1 (aon xs t f c d k).2.1
  | 0, kr, B, l, c, d, k, h, _, _, _, _, _, _, _, _, _, _ => absurd h (by omega)
  | f + 1, 0, B, l, c, d, k, h, h', _, _, _, _, _, _, _, _, _ => absurd h' (by omega)
  | f + 1, kr + 1, B, l, c, d, k, hf, hkr, k0, k1, hR, hc, hd, t0, tB, hB, hf9 => by
    have hck := hc k
    have hdk := hd k
    have hup := T.u k
    have hw : wi (c k + 1) = c k + 1 := wi_id (by omega) (by omega)
    have hR1 := hR.putc k0 k1 (c k + 1)
    rw [rails_Rails_on.r]
    simp only [hR.get k0 k1, Option.bind_some, hw, hR1.get k0 k1, set_self]
    rw [aon]
    by_cases h1 : 0 < c k
    · rw [if_pos h1, if_pos (by simp; omega)]
      exact ⟨_, rfl, hR1⟩
    · rw [if_neg h1, if_neg (by simp; omega)]
      by_cases h2 : 0 ≤ sp xs k
      · have h2' : 0 ≤ (rl xs k).Supply := h2
        rw [if_pos h2, if_pos (by simpa using h2')]
        have hrk := T.r k h2
        have hbd := aon_bound T t0 tB f c d (sp xs k) hd
        have hfr := aon_frame T (t := t) f c d (sp xs k) k hrk
        have hst := aon_set T (t := t) f c d (sp xs k) k (c k + 1) hrk
        obtain ⟨l', e1, e2⟩ := on_ok T (tm := tm) f kr B _ (set c k (c k + 1)) d (sp xs k) (by omega) (by omega) h2 (T.s k).2 hR1 (fun i => by have := hc i; unfold set; split <;> omega) hd t0 tB (by omega) (by omega)
        rw [hst] at e1 e2
        simp only at e1 e2
        have e1' : rails_Rails_on.r kr (rails_Rails.mk (upd l k (rails_rail.mk (rl xs k) (c k + 1) (d k))) tm) (rl xs k).Supply t = some (rails_Rails.mk l' tm, (aon xs t f c d (sp xs k)).2.2) := e1
        generalize aon xs t f c d (sp xs k) = r at *
        obtain ⟨rc, rd, ro⟩ := r
        simp only at *
        have hb1 := hbd.1 (sp xs k)
        have hb2 := hbd.2
        rw [e1', Option.bind_some]
        simp only [e2.get k0 k1, Option.bind_some]
        rw [show idx l' (rl xs k).Supply = some _ from e2.get h2 (T.s k).2]
        simp only [Option.bind_some, e2.get k0 k1]
        have hwu : wu (max (max t (d k)) (rd (sp xs k)) + (rl xs k).RampUp) = max (max t (d k)) (rd (sp xs k)) + (rl xs k).RampUp := wu_id (by omega) (by omega)
        have e5 : (rl xs k).Supply = sp xs k := rfl
        simp only [e5]
        rw [set_self, hwu]
        have hR2 := e2.putd k0 k1 (max (max t (d k)) (rd (sp xs k)) + (rl xs k).RampUp)
        rw [set_self] at hR2
        rw [hR2.get k0 k1, Option.bind_some, app_ok (by simp; omega), Option.bind_some]
        simp only [set_self]
        exact ⟨_, rfl, hR2⟩
      · have h2' : ¬ 0 ≤ (rl xs k).Supply := h2
        rw [if_neg h2, if_neg (by simpa using h2')]
        simp only [Option.bind_some, hR1.get k0 k1]
        have hwu : wu (max t (d k) + (rl xs k).RampUp) = max t (d k) + (rl xs k).RampUp := wu_id (by omega) (by omega)
        rw [set_self, hwu]
        have hR2 := hR1.putd k0 k1 (max t (d k) + (rl xs k).RampUp)
        rw [set_self] at hR2
        rw [hR2.get k0 k1, Option.bind_some, app_ok (by simp), Option.bind_some]
        simp only [set_self, List.nil_append]
        exact ⟨_, rfl, hR2⟩

theorem offl_ok {p : rails_Rails} {k : Int} {x7 : rails_rail} {c d : Fn} (h64 : xs.length ≤ 64) (hR : RepL xs (upd p.list k ({ x7 with count := wi (x7.count - 1) } : rails_rail)) c d) (m0 : Int) :
    rails_Rails_off.l0 p k x7 FUEL m0 0 = some (offS xs d k m0 xs.length) := by
  refine loop_c (L := fun fu (s : Int) i => rails_Rails_off.l0 p k x7 fu s i) xs.length (fun i s => s = offS xs d k m0 i) (fun o => o = some (offS xs d k m0 xs.length)) ?_ ?_ FUEL 0 m0 (Nat.zero_le _) (FUEL_pos (by omega)) rfl
  · rintro fu s i hi rfl
    rw [rails_Rails_off.l0, hR.1, if_pos (by simp; omega), hR.get (by omega) (by omega), Option.bind_some, offS]
    refine .inl ⟨_, rfl, ?_⟩
    have e : (rl xs (i : Int)).Supply = sp xs i := rfl
    simp only [e]
    by_cases h : sp xs i = k
    · rw [if_pos (by simpa using h), if_pos h, Option.bind_some, wi_succ (by omega)]
    · rw [if_neg (by simpa using h), if_neg h, Option.bind_some, wi_succ (by omega)]
  · rintro fu s rfl
    rw [rails_Rails_off.l0, hR.1, if_neg (by simp)]

theorem off_ok (T : Tree xs rk) {tm : Int} : ∀ (f kr : Nat) (B : Int) (l : List rails_rail) (c d : Fn) (k : Int), rk k < f → f ≤ kr → 0 ≤ k → k < xs.length → RepL xs l c d →
    (∀ i, 0 ≤ c i + 1000 ∧ c i ≤ 1000) → (∀ i, 0 ≤ d i ∧ d i ≤ B) → 0 ≤ t → t ≤ B → B + 20 * f < 18446744073709551616 → f ≤ 1000 → (∀ i, rk i < f → -500 + (f : Int) ≤ c i) →
    ∃ l', rails_Rails_off.r kr (rails_Rails.mk l tm) k t = some (rails_Rails.mk l' tm, (aoff xs t f c d k).2.2) ∧ RepL xs l' (aoff xs t f c d k).1 (aoff xs t f c d k).2.1
  | 0, kr, B, l, c, d, k, h, _, _, _, _, _, _, _, _, _, _, _ => absurd h (by omega)
  | f + 1, 0, B, l, c, d, k, h, h', _, _, _, _, _, _, _, _, _, _ => absurd h' (by omega)
  | f + 1, kr + 1, B, l, c, d, k, hf, hkr, k0, k1, hR, hc, hd, t0, tB, hB, hf9, hlo => by
    have hck := hc k
    have hdk := hd k
    have hup := T.d k
    have hw : wi (c k - 1) = c k - 1 := wi_id (by omega) (by omega)
    have hR1 := hR.putc k0 k1 (c k - 1)
    rw [rails_Rails_off.r]
    simp only [hR.get k0 k1, Option.bind_some, hw, hR1.get k0 k1, set_self]
    rw [aoff]
    by_cases h1 : 0 < c k - 1
    · rw [if_pos h1, if_pos (by simpa using h1)]
      exact ⟨_, rfl, hR1⟩
    · rw [if_neg h1, if_neg (by simpa using h1)]
      have hl0 := offl_ok (xs := xs) (p := rails_Rails.mk l tm) (k := k) (x7 := rails_rail.mk (rl xs k) (c k) (d k)) (c := set c k (c k - 1)) (d := d) (by have := T.n; omega) (by rw [show ({ (rails_rail.mk (rl xs k) (c k) (d k)) with count := wi ((rails_rail.mk (rl xs k) (c k) (d k)).count - 1) } : rails_rail) = rails_rail.mk (rl xs k) (c k - 1) (d k) by simp only [hw]]; exact hR1) (max t (d k))
      rw [hl0, Option.bind_some]
      have hs1 := (offS_ge (xs := xs) d k (max t (d k)) xs.length).1
      have hs2 := offS_le (xs := xs) d k (max t (d k)) (B := B) (by omega) (fun i => (hd i).2) xs.length
      generalize offS xs d k (max t (d k)) xs.length = s at *
      have hwu : wu (s + (rl xs k).RampDown) = s + (rl xs k).RampDown := wu_id (by omega) (by omega)
      simp only [hwu]
      have hR2 := hR1.putd k0 k1 (s + (rl xs k).RampDown)
      rw [set_self] at hR2
      rw [hR2.get k0 k1, Option.bind_some]
      simp only [set_self]
      by_cases h2 : 0 ≤ sp xs k
      · have h2' : 0 ≤ (rl xs k).Supply := h2
        rw [if_pos h2, if_pos (by simpa using h2')]
        have hrk := T.r k h2
        have hd2 : ∀ i, 0 ≤ set d k (s + (rl xs k).RampDown) i ∧ set d k (s + (rl xs k).RampDown) i ≤ B + 20 := fun i => by have := hd i; unfold set; split <;> omega
        have hbd := aoff_bound T f (B + 20) (set c k (c k - 1)) (set d k (s + (rl xs k).RampDown)) (sp xs k) t0 (by omega) hd2
        obtain ⟨l', e1, e2⟩ := off_ok T (tm := tm) f kr (B + 20) _ (set c k (c k - 1)) (set d k (s + (rl xs k).RampDown)) (sp xs k) (by omega) (by omega) h2 (T.s k).2 hR2
          (fun i => by have := hc i; have := hlo k hf; unfold set; split <;> omega) hd2 t0 (by omega) (by omega) (by omega) (fun i hi => by have := hlo i (by omega); have := hlo k hf; unfold set; split <;> omega)
        have e1' : rails_Rails_off.r kr (rails_Rails.mk (upd (upd l k (rails_rail.mk (rl xs k) (c k - 1) (d k))) k (rails_rail.mk (rl xs k) (c k - 1) (s + (rl xs k).RampDown))) tm) (rl xs k).Supply t = _ := e1
        rw [e1', Option.bind_some, app_ok (by simp; omega), Option.bind_some]
        exact ⟨_, rfl, e2⟩
      · have h2' : ¬ 0 ≤ (rl xs k).Supply := h2
        rw [if_neg h2, if_neg (by simpa using h2')]
        exact ⟨_, rfl, hR2⟩
end
end Go.Proofs.Ytfiodhdldleocaa.Sim
