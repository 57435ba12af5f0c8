/-
  Plain lemmas: the rails as a machine on functions: use counts, completion times, what switching on and off does to them.
-/
import Derived.Test.YtfiodhdldleocaaN1
namespace Go.Proofs.Ytfiodhdldleocaa.Sim
open Go
set_option linter.unusedVariables false

def rl (xs : List api_Rail) (k : Int) : api_Rail := (idx xs k).getD (api_Rail.mk (-1) 0 0)
def sp (xs : List api_Rail) (k : Int) : Int := (rl xs k).Supply
def set (f : Int → Int) (k v : Int) : Int → Int := fun i => if i = k then v else f i
theorem set_self (f : Int → Int) (k v : Int) : set f k v k = v := by simp [set]
theorem set_ne (f : Int → Int) {k i : Int} (v : Int) (h : i ≠ k) : set f k v i = f i := by simp [set, h]
theorem set_comm (f : Int → Int) {j k : Int} (v w : Int) (h : j ≠ k) : set (set f j v) k w = set (set f k w) j v := by
  funext i; unfold set; by_cases h1 : i = k <;> by_cases h2 : i = j <;> simp [h1, h2] <;> omega
theorem set_set (f : Int → Int) (k v w : Int) : set (set f k v) k w = set f k w := by
  funext i; unfold set; by_cases h1 : i = k <;> simp [h1]
theorem set_id (f : Int → Int) {k v : Int} (h : v = f k) : set f k v = f := by
  funext i; unfold set; by_cases h1 : i = k <;> simp [h1, h]
theorem set_set_id (f : Int → Int) {k v w : Int} (h : w = f k) : set (set f k v) k w = f := by rw [set_set, set_id f h]

abbrev Fn := Int → Int

def aon (xs : List api_Rail) (t : Int) : Nat → Fn → Fn → Int → Fn × Fn × List api_RailOp
  | 0, c, d, k => (c, d, [])
  | f + 1, c, d, k =>
    if 0 < c k then (set c k (c k + 1), d, [])
    else if 0 ≤ sp xs k then
      let r := aon xs t f c d (sp xs k)
      let s := max (max t (d k)) (r.2.1 (sp xs k))
      (set r.1 k (c k + 1), set r.2.1 k (s + (rl xs k).RampUp), r.2.2 ++ [api_RailOp.mk k true s (s + (rl xs k).RampUp)])
    else (set c k (c k + 1), set d k (max t (d k) + (rl xs k).RampUp), [api_RailOp.mk k true (max t (d k)) (max t (d k) + (rl xs k).RampUp)])

/-- The last completion time of the rails that k feeds. -/
def offS (xs : List api_Rail) (d : Fn) (k m0 : Int) : Nat → Int
  | 0 => m0
  | i + 1 => if sp xs i = k then max (offS xs d k m0 i) (d i) else offS xs d k m0 i

def aoff (xs : List api_Rail) (t : Int) : Nat → Fn → Fn → Int → Fn × Fn × List api_RailOp
  | 0, c, d, k => (c, d, [])
  | f + 1, c, d, k =>
    if 0 < c k - 1 then (set c k (c k - 1), d, [])
    else
      let s := offS xs d k (max t (d k)) xs.length
      let op := api_RailOp.mk k false s (s + (rl xs k).RampDown)
      if 0 ≤ sp xs k then
        let r := aoff xs t f (set c k (c k - 1)) (set d k (s + (rl xs k).RampDown)) (sp xs k)
        (r.1, r.2.1, op :: r.2.2)
      else (set c k (c k - 1), set d k (s + (rl xs k).RampDown), [op])

/-- The number of rails in use that k feeds. -/
def fed (xs : List api_Rail) (c : Fn) (k : Int) : Nat → Int
  | 0 => 0
  | i + 1 => fed xs c k i + if sp xs i = k ∧ 0 < c i then 1 else 0

structure Tree (xs : List api_Rail) (rk : Int → Nat) : Prop where
  n : xs.length ≤ 8
  s : ∀ i, -1 ≤ sp xs i ∧ sp xs i < xs.length
  r : ∀ i, 0 ≤ sp xs i → rk (sp xs i) < rk i
  b : ∀ i, rk i < 8
  u : ∀ i, 0 ≤ (rl xs i).RampUp ∧ (rl xs i).RampUp ≤ 20
  d : ∀ i, 0 ≤ (rl xs i).RampDown ∧ (rl xs i).RampDown ≤ 20

section
variable {xs : List api_Rail} {rk : Int → Nat} {t : Int}

theorem aon_frame (T : Tree xs rk) : ∀ (f : Nat) (c d : Fn) (k j : Int), rk k < rk j → (aon xs t f c d k).1 j = c j ∧ (aon xs t f c d k).2.1 j = d j
  | 0, c, d, k, j, h => ⟨rfl, rfl⟩
  | f + 1, c, d, k, j, h => by
    have hne : j ≠ k := fun e => by subst e; omega
    rw [aon]
    split
    · exact ⟨set_ne _ _ hne, rfl⟩
    · split
      · rename_i h0
        have := aon_frame T f c d (sp xs k) j (by have := T.r k h0; omega)
        simp only
        rw [set_ne _ _ hne, set_ne _ _ hne]; exact this
      · exact ⟨set_ne _ _ hne, set_ne _ _ hne⟩

theorem aon_set (T : Tree xs rk) : ∀ (f : Nat) (c d : Fn) (k j v : Int), rk k < rk j → aon xs t f (set c j v) d k = (set (aon xs t f c d k).1 j v, (aon xs t f c d k).2.1, (aon xs t f c d k).2.2)
  | 0, c, d, k, j, v, h => rfl
  | f + 1, c, d, k, j, v, h => by
    have hne : k ≠ j := fun e => by subst e; omega
    rw [aon, aon, set_ne c v hne]
    by_cases h1 : 0 < c k
    · rw [if_pos h1, if_pos h1, set_comm _ _ _ (Ne.symm hne)]
    · rw [if_neg h1, if_neg h1]
      by_cases h2 : 0 ≤ sp xs k
      · rw [if_pos h2, if_pos h2, aon_set T f c d (sp xs k) j v (by have := T.r k h2; omega)]
        simp only
        rw [set_comm _ _ _ (Ne.symm hne)]
      · rw [if_neg h2, if_neg h2, set_comm _ _ _ (Ne.symm hne)]

theorem aon_bound (T : Tree xs rk) {B : Int} (ht : 0 ≤ t) (hB : t ≤ B) : ∀ (f : Nat) (c d : Fn) (k : Int), (∀ i, 0 ≤ d i ∧ d i ≤ B) →
    (∀ i, 0 ≤ (aon xs t f c d k).2.1 i ∧ (aon xs t f c d k).2.1 i ≤ B + 20 * f) ∧ (aon xs t f c d k).2.2.length ≤ f
  | 0, c, d, k, h => ⟨fun i => by have := h i; simp only [aon]; omega, by simp [aon]⟩
  | f + 1, c, d, k, h => by
    have hu := T.u k
    have hk := h k
    rw [aon]
    split
    · exact ⟨fun i => by have := h i; simp only; omega, by simp⟩
    · split
      · obtain ⟨h1, h2⟩ := aon_bound T ht hB f c d (sp xs k) h
        simp only
        refine ⟨fun i => ?_, by simp; omega⟩
        have h3 := h1 (sp xs k)
        have h4 := h1 i
        unfold set
        split <;> omega
      · refine ⟨fun i => ?_, by simp⟩
        have h4 := h i
        unfold set
        simp only
        split <;> omega

theorem offS_ge (d : Fn) (k m0 : Int) : ∀ m, m0 ≤ offS xs d k m0 m ∧ ∀ i : Int, 0 ≤ i → i < m → sp xs i = k → d i ≤ offS xs d k m0 m
  | 0 => ⟨Int.le_refl _, fun i h0 h1 => by omega⟩
  | m + 1 => by
    have ih := offS_ge d k m0 m
    rw [offS]
    split
    · rename_i hs
      refine ⟨by omega, fun i h0 h1 h2 => ?_⟩
      by_cases e : i = m
      · subst e; omega
      · have := ih.2 i h0 (by omega) h2; omega
    · rename_i hs
      refine ⟨ih.1, fun i h0 h1 h2 => ?_⟩
      by_cases e : i = m
      · subst e; exact absurd h2 hs
      · exact ih.2 i h0 (by omega) h2
theorem offS_le (d : Fn) (k m0 : Int) {B : Int} (h0 : m0 ≤ B) (h : ∀ i, d i ≤ B) : ∀ m, offS xs d k m0 m ≤ B
  | 0 => h0
  | m + 1 => by
    have ih := offS_le d k m0 h0 h m
    have := h m
    rw [offS]; split <;> omega

theorem aoff_bound (T : Tree xs rk) : ∀ (f : Nat) (B : Int) (c d : Fn) (k : Int), 0 ≤ t → t ≤ B → (∀ i, 0 ≤ d i ∧ d i ≤ B) →
    (∀ i, 0 ≤ (aoff xs t f c d k).2.1 i ∧ (aoff xs t f c d k).2.1 i ≤ B + 20 * f) ∧ (aoff xs t f c d k).2.2.length ≤ f
  | 0, B, c, d, k, ht, hB, h => ⟨fun i => by have := h i; simp only [aoff]; omega, by simp [aoff]⟩
  | f + 1, B, c, d, k, ht, hB, h => by
    have hu := T.d k
    have hk := h k
    rw [aoff]
    split
    · exact ⟨fun i => by have := h i; simp only; omega, by simp⟩
    · have hs1 := (offS_ge (xs := xs) d k (max t (d k)) xs.length).1
      have hs2 := offS_le (xs := xs) d k (max t (d k)) (B := B) (by omega) (fun i => (h i).2) xs.length
      have hd : ∀ i, 0 ≤ set d k (offS xs d k (max t (d k)) xs.length + (rl xs k).RampDown) i ∧ set d k (offS xs d k (max t (d k)) xs.length + (rl xs k).RampDown) i ≤ B + 20 := fun i => by
        have := h i
        unfold set; split <;> omega
      simp only
      split
      · obtain ⟨h1, h2⟩ := aoff_bound T f (B + 20) (set c k (c k - 1)) _ (sp xs k) ht (by omega) hd
        simp only
        refine ⟨fun i => ?_, by simp; omega⟩
        have := h1 i
        omega
      · simp only
        refine ⟨fun i => ?_, by simp⟩
        have := hd i
        omega

theorem fed_nonneg (c : Fn) (k : Int) : ∀ m, 0 ≤ fed xs c k m ∧ fed xs c k m ≤ m
  | 0 => by simp [fed]
  | m + 1 => by
    have := fed_nonneg c k m
    rw [fed]; split <;> omega
theorem fed_zero {c : Fn} {k : Int} : ∀ {m : Nat}, fed xs c k m = 0 → ∀ i : Int, 0 ≤ i → i < m → sp xs i = k → ¬ 0 < c i
  | 0, h, i, h0, h1, _ => by omega
  | m + 1, h, i, h0, h1, h2 => by
    have hn := fed_nonneg (xs := xs) c k m
    rw [fed] at h
    by_cases e : i = m
    · subst e; intro h3; rw [if_pos ⟨h2, h3⟩] at h; omega
    · exact fed_zero (m := m) (by split at h <;> omega) i h0 (by omega) h2
theorem fed_pos {c : Fn} {k : Int} : ∀ {m : Nat} {i : Int}, 0 ≤ i → i < m → sp xs i = k → 0 < c i → 1 ≤ fed xs c k m
  | 0, i, h0, h1, _, _ => by omega
  | m + 1, i, h0, h1, h2, h3 => by
    have hn := fed_nonneg (xs := xs) c k m
    rw [fed]
    by_cases e : i = m
    · subst e; rw [if_pos ⟨h2, h3⟩]; omega
    · have := fed_pos (k := k) h0 (show i < m by omega) h2 h3
      split <;> omega
theorem fed_set (c : Fn) (k v : Int) (j : Int) (h0 : 0 ≤ k) : ∀ m : Nat, fed xs (set c k v) j m = fed xs c j m + if k < m ∧ sp xs k = j then (if 0 < v then 1 else 0) - (if 0 < c k then 1 else 0) else 0
  | 0 => by rw [fed, fed, if_neg (by omega)]; rfl
  | m + 1 => by
    rw [fed, fed, fed_set c k v j h0 m]
    by_cases e : (m : Int) = k
    · subst e
      rw [set_self, if_neg (by omega : ¬ ((m : Int) < m ∧ sp xs m = j))]
      by_cases hs : sp xs m = j
      · rw [if_pos (⟨by omega, hs⟩ : ((m : Int) < ((m + 1 : Nat) : Int) ∧ sp xs m = j))]
        by_cases h1 : 0 < v <;> by_cases h2 : 0 < c m <;> simp [hs, h1, h2] <;> omega
      · rw [if_neg (fun h => hs h.2 : ¬ ((m : Int) < ((m + 1 : Nat) : Int) ∧ sp xs m = j)), if_neg (fun h => hs h.1), if_neg (fun h => hs h.1)]
    · rw [set_ne c v e]
      have : (k < ((m + 1 : Nat) : Int) ∧ sp xs k = j) ↔ (k < (m : Int) ∧ sp xs k = j) := by
        constructor
        · rintro ⟨a, b⟩; exact ⟨by omega, b⟩
        · rintro ⟨a, b⟩; exact ⟨by omega, b⟩
      simp only [this]
      omega
end
end Go.Proofs.Ytfiodhdldleocaa.Sim
