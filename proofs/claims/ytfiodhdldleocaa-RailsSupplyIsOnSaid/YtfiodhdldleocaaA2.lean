/-
  Plain lemmas: what holds of the rails at all times: counts, completion times, the operations that are issued, the undoing of an acquisition.
-/
import Derived.Test.YtfiodhdldleocaaA1
namespace Go.Proofs.Ytfiodhdldleocaa.Sim
open Go
set_option linter.unusedVariables false

section
variable {xs : List api_Rail} {rk : Int → Nat} {t : Int}

theorem sp_out {i : Int} (h : ¬ (0 ≤ i ∧ i < xs.length)) : sp xs i = -1 := by
  unfold sp rl
  rcases he : idx xs i with _ | x
  · rfl
  · exact absurd ⟨idx_lo he, idx_hi he⟩ h

/-! ### the operations, one after the other -/

def fset (o : Int → Bool) (k : Int) (v : Bool) : Int → Bool := fun i => if i = k then v else o i
def pos (c : Fn) : Int → Bool := fun i => decide (0 < c i)
structure OkOp (xs : List api_Rail) (o : Int → Bool) (d : Fn) (x : api_RailOp) : Prop where
  r0 : 0 ≤ x.Rail
  r1 : x.Rail < xs.length
  alt : o x.Rail = !x.On
  from_ : d x.Rail ≤ x.Start
  s0 : 0 ≤ x.Start
  ramp : x.Done = x.Start + if x.On = true then (rl xs x.Rail).RampUp else (rl xs x.Rail).RampDown
  sup : x.On = true → 0 ≤ sp xs x.Rail → o (sp xs x.Rail) = true ∧ d (sp xs x.Rail) ≤ x.Start
  feeds : x.On = false → ∀ i : Int, 0 ≤ i → i < xs.length → sp xs i = x.Rail → o i = false ∧ d i ≤ x.Start
inductive Rp (xs : List api_Rail) : (Int → Bool) → Fn → List api_RailOp → (Int → Bool) → Fn → Prop where
  | nil (o : Int → Bool) (d : Fn) : Rp xs o d [] o d
  | cons {o : Int → Bool} {d : Fn} {x : api_RailOp} {ys : List api_RailOp} {o' : Int → Bool} {d' : Fn} : OkOp xs o d x → Rp xs (fset o x.Rail x.On) (set d x.Rail x.Done) ys o' d' → Rp xs o d (x :: ys) o' d'
theorem Rp.append {o : Int → Bool} {d : Fn} {ys : List api_RailOp} {o' : Int → Bool} {d' : Fn} (h : Rp xs o d ys o' d') : ∀ {zs : List api_RailOp} {o'' : Int → Bool} {d'' : Fn}, Rp xs o' d' zs o'' d'' → Rp xs o d (ys ++ zs) o'' d'' := by
  induction h with
  | nil => intro _ _ _ h; exact h
  | cons h1 _ ih => intro _ _ _ h; exact .cons h1 (ih h)
theorem Rp.one {o : Int → Bool} {d : Fn} {x : api_RailOp} (h : OkOp xs o d x) {o' : Int → Bool} {d' : Fn} (ho : o' = fset o x.Rail x.On) (hd : d' = set d x.Rail x.Done) : Rp xs o d [x] o' d' := by
  subst ho; subst hd; exact .cons h (.nil _ _)

/-! ### what holds at all times -/

structure Inv (xs : List api_Rail) (c d u : Fn) : Prop where
  c0 : ∀ i, 0 ≤ c i
  d0 : ∀ i, 0 ≤ d i
  u0 : ∀ i, 0 ≤ u i
  bal : ∀ i : Int, 0 ≤ i → i < xs.length → c i = u i + fed xs c i xs.length
  pow : ∀ i : Int, 0 ≤ i → i < xs.length → 0 < c i → 0 ≤ sp xs i → d (sp xs i) ≤ d i
theorem Inv.up {c d u : Fn} (h : Inv xs c d u) (T : Tree xs rk) {i : Int} (h0 : 0 ≤ i) (h1 : i < xs.length) (hc : 0 < c i) (hs : 0 ≤ sp xs i) : 0 < c (sp xs i) := by
  have := h.bal (sp xs i) hs (T.s i).2
  have h2 := fed_pos (xs := xs) (c := c) (k := sp xs i) h0 h1 rfl hc
  have := h.u0 (sp xs i)
  omega

/-- Switching on: one use more at k. -/
theorem on_inv (T : Tree xs rk) (ht : 0 ≤ t) : ∀ (f : Nat) (c d u : Fn) (k : Int), rk k < f → 0 ≤ k → k < xs.length → (∀ i, 0 ≤ c i) → (∀ i, 0 ≤ d i) → (∀ i, 0 ≤ u i) → 1 ≤ u k →
    (∀ i : Int, 0 ≤ i → i < xs.length → c i + (if i = k then 1 else 0) = u i + fed xs c i xs.length) →
    (∀ i : Int, 0 ≤ i → i < xs.length → 0 < c i → 0 ≤ sp xs i → d (sp xs i) ≤ d i) →
    Inv xs (aon xs t f c d k).1 (aon xs t f c d k).2.1 u ∧ Rp xs (pos c) d (aon xs t f c d k).2.2 (pos (aon xs t f c d k).1) (aon xs t f c d k).2.1 ∧ 0 < (aon xs t f c d k).1 k
  | 0, c, d, u, k, h, _, _, _, _, _, _, _, _ => absurd h (by omega)
  | f + 1, c, d, u, k, hf, k0, k1, hc, hd, hu, huk, hb, hp => by
    have hck := hc k
    have hup := T.u k
    rw [aon]
    by_cases h1 : 0 < c k
    · rw [if_pos h1]
      refine ⟨⟨?_, hd, hu, ?_, ?_⟩, ?_, by simp only; rw [set_self]; omega⟩
      · intro i; have := hc i; unfold set; simp only; split <;> omega
      · intro i i0 i1
        have := hb i i0 i1
        simp only
        rw [fed_set _ _ _ _ k0]
        unfold set
        simp only [h1, if_pos (show 0 < c k + 1 by omega), if_true]
        by_cases e : i = k
        · subst e; simp at this ⊢; omega
        · simp [e] at this ⊢; omega
      · intro i i0 i1 h3 h4
        refine hp i i0 i1 ?_ h4
        revert h3; unfold set; simp only; split
        · rename_i e; subst e; intro _; exact h1
        · exact id
      · have : pos (set c k (c k + 1)) = pos c := by
          funext i; unfold pos set
          by_cases e : i = k
          · subst e; simp [h1]; omega
          · simp [e]
        simp only [this]
        exact .nil _ _
    · rw [if_neg h1]
      have hck0 : c k = 0 := by omega
      have hfed : fed xs c k xs.length = 0 := by
        have := hb k k0 k1
        have h2 := fed_nonneg (xs := xs) c k xs.length
        rw [if_pos rfl] at this; omega
      by_cases h2 : 0 ≤ sp xs k
      · rw [if_pos h2]
        have hrk := T.r k h2
        have hne : sp xs k ≠ k := fun e => by rw [e] at hrk; omega
        obtain ⟨⟨a1, a2, a3, a4, a5⟩, a6, a7⟩ := on_inv T ht f c d (fun i => u i + (if i = sp xs k then 1 else 0) - (if i = k then 1 else 0)) (sp xs k) (by omega) h2 (T.s k).2 hc hd
          (fun i => by have := hu i; (try simp only); split <;> split <;> first | omega | (rename_i e; subst e; omega) | (rename_i e _; subst e; omega)) (by have := hu (sp xs k); (try simp only); rw [if_neg hne]; simp; omega)
          (fun i i0 i1 => by have := hb i i0 i1; (try simp only); omega) hp
        obtain ⟨b1, b2⟩ := aon_frame T (t := t) f c d (sp xs k) k hrk
        generalize aon xs t f c d (sp xs k) = r at *
        obtain ⟨rc, rd, ro⟩ := r
        simp only at *
        have hs1 : t ≤ max (max t (d k)) (rd (sp xs k)) := by omega
        refine ⟨⟨?_, ?_, hu, ?_, ?_⟩, ?_, by rw [set_self]; omega⟩
        · intro i; have := a1 i; unfold set; (try simp only); split <;> omega
        · intro i; have := a2 i; unfold set; (try simp only); split <;> omega
        · intro i i0 i1
          have := a4 i i0 i1
          rw [fed_set _ _ _ _ k0, b1, hck0]
          unfold set
          (try simp only)
          by_cases e : i = k
          · subst e
            rw [if_pos rfl, if_neg (fun h => hne h.2)]
            rw [if_neg (fun h => hne h.symm), if_pos rfl, b1] at this
            omega
          · rw [if_neg e]
            rw [if_neg e] at this
            by_cases e2 : sp xs k = i
            · rw [if_pos ⟨k1, e2⟩]; rw [if_pos e2.symm] at this; simp; omega
            · rw [if_neg (fun h => e2 h.2)]; rw [if_neg (fun h => e2 h.symm)] at this; omega
        · intro i i0 i1 h3 h4
          by_cases e : i = k
          · subst e
            rw [set_self, set_ne _ _ hne]; omega
          · rw [set_ne _ _ e] at h3 ⊢
            have hk' : sp xs i ≠ k := fun e2 => by
              have hbk := a4 k k0 k1
              have h6 := fed_pos (xs := xs) (c := rc) (k := k) i0 i1 e2 h3
              rw [b1] at hbk
              have : u k + (if k = sp xs k then 1 else 0) - (if k = k then 1 else 0) ≥ 0 := a3 k
              omega
            rw [set_ne _ _ hk']
            exact a5 i i0 i1 h3 h4
        · refine a6.append (.one ⟨k0, k1, ?_, ?_, ?_, ?_, ?_, ?_⟩ ?_ rfl)
          · simp [pos, b1, hck0]
          · simp only [b2]; omega
          · simp only; omega
          · simp
          · intro _ _; refine ⟨by simp [pos, a7], by simp only; omega⟩
          · intro h; simp at h
          · funext i; unfold pos set fset
            by_cases e : i = k
            · subst e; simp [hck0]
            · simp [e]
      · rw [if_neg h2]
        simp only
        refine ⟨⟨?_, ?_, hu, ?_, ?_⟩, ?_, by rw [set_self]; omega⟩
        · intro i; have := hc i; unfold set; (try simp only); split <;> omega
        · intro i; have := hd i; unfold set; (try simp only); split <;> omega
        · intro i i0 i1
          have := hb i i0 i1
          rw [fed_set _ _ _ _ k0, if_neg (fun h => h2 (by rw [h.2]; exact i0))]
          unfold set
          (try simp only)
          by_cases e : i = k
          · subst e; simp at this ⊢; omega
          · simp [e] at this ⊢; omega
        · intro i i0 i1 h3 h4
          by_cases e : i = k
          · subst e; exact absurd h4 h2
          · rw [set_ne _ _ e] at h3 ⊢
            rw [set_ne _ _ (fun e2 => fed_zero hfed i i0 i1 e2 h3)]
            exact hp i i0 i1 h3 h4
        · refine .one ⟨k0, k1, ?_, ?_, ?_, ?_, ?_, ?_⟩ ?_ rfl
          · simp [pos, hck0]
          · simp only; omega
          · simp only; omega
          · simp
          · intro _ h; exact absurd h h2
          · intro h; simp at h
          · funext i; unfold pos set fset
            by_cases e : i = k
            · subst e; simp [hck0]
            · simp [e]

/-- Switching off: one use less at k. -/
theorem off_inv (T : Tree xs rk) (ht : 0 ≤ t) : ∀ (f : Nat) (c d u : Fn) (k : Int), rk k < f → 0 ≤ k → k < xs.length → (∀ i, 0 ≤ c i) → (∀ i, 0 ≤ d i) → (∀ i, 0 ≤ u i) →
    (∀ i : Int, 0 ≤ i → i < xs.length → c i = u i + fed xs c i xs.length + (if i = k then 1 else 0)) →
    (∀ i : Int, 0 ≤ i → i < xs.length → 0 < c i → 0 ≤ sp xs i → d (sp xs i) ≤ d i) →
    Inv xs (aoff xs t f c d k).1 (aoff xs t f c d k).2.1 u ∧ Rp xs (pos c) d (aoff xs t f c d k).2.2 (pos (aoff xs t f c d k).1) (aoff xs t f c d k).2.1
  | 0, c, d, u, k, h, _, _, _, _, _, _, _ => absurd h (by omega)
  | f + 1, c, d, u, k, hf, k0, k1, hc, hd, hu, hb, hp => by
    have hck := hc k
    have hup := T.d k
    have hbk := hb k k0 k1
    rw [if_pos rfl] at hbk
    have hfn := fed_nonneg (xs := xs) c k xs.length
    have huk := hu k
    rw [aoff]
    by_cases h1 : 0 < c k - 1
    · rw [if_pos h1]
      refine ⟨⟨?_, hd, hu, ?_, ?_⟩, ?_⟩
      · intro i; have := hc i; unfold set; simp only; split <;> omega
      · intro i i0 i1
        have := hb i i0 i1
        simp only
        rw [fed_set _ _ _ _ k0]
        unfold set
        simp only [if_pos h1, if_pos (show 0 < c k by omega)]
        by_cases e : i = k
        · subst e; simp at this ⊢; omega
        · simp [e] at this ⊢; omega
      · intro i i0 i1 h3 h4
        refine hp i i0 i1 ?_ h4
        revert h3; unfold set; simp only; split
        · rename_i e; subst e; intro _; omega
        · exact id
      · have : pos (set c k (c k - 1)) = pos c := by
          funext i; unfold pos set
          by_cases e : i = k
          · subst e; simp; omega
          · simp [e]
        simp only [this]
        exact .nil _ _
    · rw [if_neg h1]
      have hck1 : c k = 1 := by omega
      have hfed : fed xs c k xs.length = 0 := by omega
      have hs := offS_ge (xs := xs) d k (max t (d k)) xs.length
      generalize offS xs d k (max t (d k)) xs.length = s at *
      have hok : OkOp xs (pos c) d (api_RailOp.mk k false s (s + (rl xs k).RampDown)) := by
        refine ⟨k0, k1, by simp [pos, hck1], by simp only; omega, by simp only; omega, by simp, fun h => by simp at h, fun _ i i0 i1 e => ⟨?_, hs.2 i i0 i1 e⟩⟩
        simp only [pos, decide_eq_false_iff_not]; exact fed_zero hfed i i0 i1 e
      have hpos : fset (pos c) k false = pos (set c k (c k - 1)) := by
        funext i; unfold pos set fset
        by_cases e : i = k
        · subst e; simp [hck1]
        · simp [e]
      have g1 : ∀ i, 0 ≤ set c k (c k - 1) i := fun i => by have := hc i; unfold set; split <;> omega
      have g2 : ∀ i, 0 ≤ set d k (s + (rl xs k).RampDown) i := fun i => by have := hd i; unfold set; split <;> omega
      have g3 : ∀ i : Int, 0 ≤ i → i < xs.length → set c k (c k - 1) i = u i + fed xs (set c k (c k - 1)) i xs.length + (if i = sp xs k then 1 else 0) := fun i i0 i1 => by
        have := hb i i0 i1
        rw [fed_set _ _ _ _ k0, hck1]
        have hne : sp xs k ≠ k := fun e => by have := T.r k (by rw [e]; exact k0); rw [e] at this; omega
        unfold set
        by_cases e : i = k
        · subst e
          rw [if_pos rfl, if_neg (fun h => hne h.2), if_neg (fun h => hne h.symm)]
          rw [if_pos rfl] at this; omega
        · rw [if_neg e]
          rw [if_neg e] at this
          by_cases e2 : sp xs k = i
          · rw [if_pos ⟨k1, e2⟩, if_pos e2.symm]; simp; omega
          · rw [if_neg (fun h => e2 h.2), if_neg (fun h => e2 h.symm)]; omega
      have g4 : ∀ i : Int, 0 ≤ i → i < xs.length → 0 < set c k (c k - 1) i → 0 ≤ sp xs i → set d k (s + (rl xs k).RampDown) (sp xs i) ≤ set d k (s + (rl xs k).RampDown) i := fun i i0 i1 h3 h4 => by
        have e : i ≠ k := fun e => by subst e; rw [set_self] at h3; omega
        rw [set_ne _ _ e] at h3 ⊢
        rw [set_ne _ _ (fun e2 => fed_zero hfed i i0 i1 e2 h3)]
        exact hp i i0 i1 h3 h4
      simp only
      by_cases h2 : 0 ≤ sp xs k
      · rw [if_pos h2]
        have hrk := T.r k h2
        obtain ⟨b1, b2⟩ := off_inv T ht f (set c k (c k - 1)) (set d k (s + (rl xs k).RampDown)) u (sp xs k) (by omega) h2 (T.s k).2 g1 g2 hu g3 g4
        refine ⟨b1, .cons hok ?_⟩
        simp only
        rw [hpos]; exact b2
      · rw [if_neg h2]
        refine ⟨⟨g1, g2, hu, fun i i0 i1 => ?_, g4⟩, .one hok hpos.symm rfl⟩
        have := g3 i i0 i1
        rw [if_neg (fun h => h2 (by rw [← h]; exact i0))] at this
        simpa using this

/-- Releasing behind an acquisition. -/
theorem undo (T : Tree xs rk) : ∀ (f : Nat) (c d d' : Fn) (k : Int), rk k < f → (∀ i, 0 ≤ c i) →
    (aoff xs t f (aon xs t f c d k).1 d' k).1 = c ∧ (aoff xs t f (aon xs t f c d k).1 d' k).2.2.map (·.Rail) = ((aon xs t f c d k).2.2.map (·.Rail)).reverse ∧
    (∀ x ∈ (aon xs t f c d k).2.2, x.On = true) ∧ ∀ x ∈ (aoff xs t f (aon xs t f c d k).1 d' k).2.2, x.On = false
  | 0, c, d, d', k, h, _ => absurd h (by omega)
  | f + 1, c, d, d', k, hf, hc => by
    have hck := hc k
    rw [aon]
    by_cases h1 : 0 < c k
    · rw [if_pos h1]
      simp only
      rw [aoff, set_self, if_pos (by omega)]
      refine ⟨by simp only; exact set_set_id c (by omega), rfl, by simp, by simp⟩
    · rw [if_neg h1]
      by_cases h2 : 0 ≤ sp xs k
      · rw [if_pos h2]
        have hrk := T.r k h2
        obtain ⟨b1, b2⟩ := aon_frame T (t := t) f c d (sp xs k) k hrk
        simp only
        rw [aoff, set_self, if_neg (by omega)]
        simp only
        rw [if_pos h2, set_set_id _ (by omega)]
        obtain ⟨i1, i2, i3, i4⟩ := undo T f c d (set d' k (offS xs d' k (max t (d' k)) xs.length + (rl xs k).RampDown)) (sp xs k) (by omega) hc
        refine ⟨i1, ?_, ?_, ?_⟩
        · simp only [List.map_cons, List.map_append, List.map_nil, List.reverse_append, List.reverse_cons, List.reverse_nil, List.nil_append, List.singleton_append, i2]
        · intro x hx
          rcases List.mem_append.1 hx with h | h
          · exact i3 x h
          · simp only [List.mem_singleton] at h; subst h; rfl
        · intro x hx
          rcases List.mem_cons.1 hx with h | h
          · subst h; rfl
          · exact i4 x h
      · rw [if_neg h2]
        simp only
        rw [aoff, set_self, if_neg (by omega)]
        simp only
        rw [if_neg h2]
        refine ⟨set_set_id c (by omega), rfl, by simp, by simp⟩
end
end Go.Proofs.Ytfiodhdldleocaa.Sim
