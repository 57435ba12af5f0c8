/-
  Plain lemmas: chains of links, the matrix of the reference, the check of both programs.
-/
import Derived.Test.YtphgandhncmaoaaG3
namespace Go.Proofs.Ytphgandhncmaoaa.Sim
open Go
set_option linter.unusedVariables false

inductive Path (ls : List api_Link) : Int → Int → Prop where
  | one {a b : Int} (h : api_Link.mk a b ∈ ls) : Path ls a b
  | more {a b c : Int} (h : api_Link.mk a b ∈ ls) (h' : Path ls b c) : Path ls a c

theorem Path.trans {ls : List api_Link} {a b c : Int} (h : Path ls a b) (h' : Path ls b c) : Path ls a c := by
  induction h with
  | one h => exact .more h h'
  | more h _ ih => exact .more h (ih h')
theorem Path.first {ls : List api_Link} {a b : Int} (h : Path ls a b) : ∃ c, api_Link.mk a c ∈ ls ∧ (c = b ∨ Path ls c b) := by
  cases h with
  | one h => exact ⟨_, h, .inl rfl⟩
  | more h h' => exact ⟨_, h, .inr h'⟩
theorem Path.range {n : Nat} {ls : List api_Link} (g : GoodG n ls) {a b : Int} (h : Path ls a b) : (0 ≤ a ∧ a < n) ∧ (0 ≤ b ∧ b < n) := by
  induction h with
  | one h => exact ⟨g.c0 _ h, g.s0 _ h⟩
  | more h _ ih => exact ⟨g.c0 _ h, ih.2⟩

theorem Run.closed {n : Nat} {ls : List api_Link} {out : List Int} (hr : Run n ls out) {a b : Int} (h : Path ls a b) (ha : a ∈ out) : b ∈ out := by
  induction h with
  | one h => exact hr.facts.2.2 _ h ha
  | more h _ ih => exact ih (hr.facts.2.2 _ h ha)

theorem Run.acyclic {n : Nat} {ls : List api_Link} {out : List Int} (hr : Run n ls out) : ∀ a ∈ out, ¬ Path ls a a := by
  induction hr with
  | nil => simp
  | @snoc out v h hv ih =>
    intro a ha hp
    rcases List.mem_append.1 ha with ha | ha
    · exact ih a ha hp
    · simp only [List.mem_singleton] at ha
      subst ha
      obtain ⟨_, _, hf, _⟩ := least_some hv
      obtain ⟨h1, h2⟩ := free_iff.1 hf
      obtain ⟨c, hc, h3⟩ := hp.first
      have hco := h2 _ hc rfl
      rcases h3 with rfl | h3
      · exact h1 hco
      · exact h1 (h.closed h3 hco)

/-- A walk that never leaves n numbers comes back. -/
theorem walk_back {n : Nat} (w : Nat → Int) (h : ∀ i, 0 ≤ w i ∧ w i < n) : ∃ i j, i < j ∧ j ≤ n ∧ w i = w j := by
  refine Classical.byContradiction fun hno => ?_
  have hnd : ((List.range (n + 1)).map w).Nodup := by
    rw [List.nodup_iff_pairwise_ne, List.pairwise_map]
    refine List.Pairwise.imp_of_mem ?_ List.pairwise_lt_range
    intro i j hi hj hij e
    exact hno ⟨i, j, hij, by have := List.mem_range.1 hj; omega, e⟩
  have := nodup_le hnd (s := below n) (fun x hx => by
    obtain ⟨i, _, rfl⟩ := List.mem_map.1 hx
    exact mem_below.2 (h i))
  rw [below_length, List.length_map, List.length_range] at this
  omega

theorem ord_short {n : Nat} {ls : List api_Link} (g : GoodG n ls) (h : (ord n ls).length < n) : ∃ u : Int, 0 ≤ u ∧ u < n ∧ u ∉ ord n ls := by
  refine Classical.byContradiction fun hno => ?_
  have := nodup_le (below_nodup n) (s := ord n ls) (fun x hx => Classical.byContradiction fun hx' => hno ⟨x, (mem_below.1 hx).1, (mem_below.1 hx).2, hx'⟩)
  rw [below_length] at this
  omega
theorem ord_full {n : Nat} {ls : List api_Link} (h : ¬ (ord n ls).length < n) {v : Int} (h0 : 0 ≤ v) (h1 : v < n) : v ∈ ord n ls := by
  refine Classical.byContradiction fun hv => ?_
  have hr := (ord_run n ls).1.facts
  have := nodup_le (l := v :: ord n ls) (s := below n) (List.nodup_cons.2 ⟨hv, hr.1⟩) (fun x hx => by
    rcases List.mem_cons.1 hx with rfl | hx
    · exact mem_below.2 ⟨h0, h1⟩
    · exact mem_below.2 (hr.2.1 x hx))
  rw [below_length, List.length_cons] at this
  omega

/-- A node outside the order has a supplier outside the order. -/
theorem ord_stuck {n : Nat} {ls : List api_Link} (g : GoodG n ls) {u : Int} (h0 : 0 ≤ u) (h1 : u < n) (hu : u ∉ ord n ls) : ∃ s, api_Link.mk u s ∈ ls ∧ s ∉ ord n ls := by
  have hn := least_none.1 (ord_run n ls).2 u h0 h1
  refine Classical.byContradiction fun hno => ?_
  have : free ls (ord n ls) u = true := free_iff.2 ⟨hu, fun l hl hc => Classical.byContradiction fun hs => hno ⟨l.Supplier, by subst hc; exact hl, hs⟩⟩
  rw [this] at hn; cases hn

theorem ord_cyclic {n : Nat} {ls : List api_Link} (g : GoodG n ls) (h : (ord n ls).length < n) : ∃ i : Int, 0 ≤ i ∧ i < n ∧ Path ls i i := by
  obtain ⟨u, u0, u1, hu⟩ := ord_short g h
  let R := { v : Int // 0 ≤ v ∧ v < n ∧ v ∉ ord n ls }
  have nx : ∀ v : R, ∃ s : R, api_Link.mk v.1 s.1 ∈ ls := fun v => by
    obtain ⟨s, h1, h2⟩ := ord_stuck g v.2.1 v.2.2.1 v.2.2.2
    have := g.s0 _ h1
    exact ⟨⟨s, this.1, this.2, h2⟩, h1⟩
  let f : R → R := fun v => (nx v).choose
  have hf : ∀ v : R, api_Link.mk v.1 (f v).1 ∈ ls := fun v => (nx v).choose_spec
  let w : Nat → R := fun i => Nat.rec ⟨u, u0, u1, hu⟩ (fun _ v => f v) i
  have hw : ∀ i, api_Link.mk (w i).1 (w (i + 1)).1 ∈ ls := fun i => hf (w i)
  obtain ⟨i, j, hij, _, e⟩ := walk_back (n := n) (fun i => (w i).1) (fun i => ⟨(w i).2.1, (w i).2.2.1⟩)
  have hp : ∀ d, Path ls (w i).1 (w (i + d + 1)).1 := by
    intro d
    induction d with
    | zero => exact .one (hw i)
    | succ d ih => exact ih.trans (.one (hw (i + d + 1)))
  have := hp (j - i - 1)
  rw [show i + (j - i - 1) + 1 = j from by omega] at this
  refine ⟨(w i).1, (w i).2.1, (w i).2.2.1, ?_⟩
  rw [← e] at this
  exact this

/-! ### the matrix -/

structure Mat (n : Nat) (m : List (List Bool)) (R : Int → Int → Bool) : Prop where
  len : m.length = n
  row : ∀ a : Int, 0 ≤ a → a < n → ∃ r, idx m a = some r ∧ r.length = n ∧ ∀ b : Int, 0 ≤ b → b < n → idx r b = some (R a b)

theorem Mat.congr {n : Nat} {m : List (List Bool)} {R R' : Int → Int → Bool} (h : Mat n m R) (he : ∀ a b : Int, 0 ≤ a → a < n → 0 ≤ b → b < n → R a b = R' a b) : Mat n m R' :=
  ⟨h.len, fun a a0 a1 => by
    obtain ⟨r, h1, h2, h3⟩ := h.row a a0 a1
    exact ⟨r, h1, h2, fun b b0 b1 => by rw [h3 b b0 b1, he a b a0 a1 b0 b1]⟩⟩
theorem Mat.set {n : Nat} {m : List (List Bool)} {R : Int → Int → Bool} (h : Mat n m R) {a b : Int} (a0 : 0 ≤ a) (a1 : a < n) (b0 : 0 ≤ b) (b1 : b < n) {r : List Bool} (hr : idx m a = some r) : Mat n (upd m a (upd r b true)) (fun x y => R x y || (decide (x = a) && decide (y = b))) := by
  obtain ⟨r', h1, h2, h3⟩ := h.row a a0 a1
  rw [hr] at h1; injection h1 with h1; subst h1
  refine ⟨by rw [upd_length]; exact h.len, fun x x0 x1 => ?_⟩
  rw [idx_upd (xs := m) a0 x0 (by rw [h.len]; exact x1)]
  by_cases e : a = x
  · subst e
    refine ⟨_, by rw [if_pos rfl], by rw [upd_length]; exact h2, fun y y0 y1 => ?_⟩
    rw [idx_upd (xs := r) b0 y0 (by rw [h2]; exact y1), h3 y y0 y1]
    by_cases e2 : b = y
    · subst e2; simp
    · have e3 : ¬ y = b := fun h => e2 h.symm
      simp [e2, e3]
  · obtain ⟨r2, q1, q2, q3⟩ := h.row x x0 x1
    have e3 : ¬ x = a := fun h => e h.symm
    refine ⟨r2, by rw [if_neg e]; exact q1, q2, fun y y0 y1 => ?_⟩
    rw [q3 y y0 y1]; simp [e3]

theorem matrix_l0 {n : Nat} (hn : n ≤ 128) : ∃ m, ref24_Matrix.l0 (n : Int) FUEL (List.replicate n []) 0 = some m ∧ Mat n m (fun _ _ => false) := by
  refine loop_c (L := fun k (s : List (List Bool)) i => ref24_Matrix.l0 (n : Int) k s i) n (fun i s => s.length = n ∧ ∀ a : Int, 0 ≤ a → a < i → ∃ r, idx s a = some r ∧ r.length = n ∧ ∀ b : Int, 0 ≤ b → b < n → idx r b = some false) (fun o => ∃ m, o = some m ∧ Mat n m (fun _ _ => false)) ?_ ?_ FUEL 0 _ (Nat.zero_le _) (FUEL_pos (by omega)) ⟨by simp, fun a h0 h1 => by omega⟩
  · rintro k s i hi ⟨h1, h2⟩
    rw [ref24_Matrix.l0, if_pos (by simp; omega), mk_ok (by omega), idx_get (by omega)]
    simp only [Option.bind_some]
    refine .inl ⟨upd s (i : Int) (List.replicate n false), ⟨by rw [upd_length]; exact h1, fun a a0 a1 => ?_⟩, by rw [wi_succ (by omega)]⟩
    rw [idx_upd (xs := s) (by omega) a0 (by omega)]
    by_cases e : (i : Int) = a
    · exact ⟨_, by rw [if_pos e], by simp, fun b b0 b1 => idx_replicate b0 b1⟩
    · obtain ⟨r, q1, q2⟩ := h2 a a0 (by omega)
      exact ⟨r, by rw [if_neg e]; exact q1, q2⟩
  · rintro k s ⟨h1, h2⟩
    rw [ref24_Matrix.l0, if_neg (by simp)]
    exact ⟨s, rfl, h1, h2⟩

theorem matrix_l1 {n : Nat} {ls : List api_Link} (g : GoodG n ls) {m0 : List (List Bool)} (h0 : Mat n m0 (fun _ _ => false)) : ∃ m, ref24_Matrix.l1 ls FUEL m0 0 = some m ∧ Mat n m (fun a b => decide (api_Link.mk a b ∈ ls)) := by
  have hl := g.len
  refine loop_c (L := fun k (s : List (List Bool)) i => ref24_Matrix.l1 ls k s i) ls.length (fun i s => Mat n s (fun a b => decide (api_Link.mk a b ∈ ls.take i))) (fun o => ∃ m, o = some m ∧ Mat n m (fun a b => decide (api_Link.mk a b ∈ ls))) ?_ ?_ FUEL 0 m0 (Nat.zero_le _) (FUEL_pos (by omega)) (h0.congr (fun a b _ _ _ _ => by simp))
  · intro k s i hi hm
    have hmem := List.getElem_mem hi
    have hc := g.c0 _ hmem
    have hs := g.s0 _ hmem
    obtain ⟨r, q1, q2, q3⟩ := hm.row _ hc.1 hc.2
    rw [ref24_Matrix.l1, if_pos (by simp; omega), idx_get hi]
    simp only [Option.bind_some]
    rw [q1]
    simp only [Option.bind_some]
    rw [q3 _ hs.1 hs.2]
    simp only [Option.bind_some]
    refine .inl ⟨_, (hm.set hc.1 hc.2 hs.1 hs.2 q1).congr (fun a b _ _ _ _ => ?_), by rw [wi_succ (by omega)]⟩
    rw [Bool.eq_iff_iff]
    simp only [Bool.or_eq_true, Bool.and_eq_true, decide_eq_true_eq, mem_take_succ hi]
    constructor
    · rintro (h | ⟨rfl, rfl⟩)
      · exact .inl h
      · exact .inr rfl
    · rintro (h | h)
      · exact .inl h
      · rw [← h]; exact .inr ⟨rfl, rfl⟩
  · intro k s hm
    rw [ref24_Matrix.l1, if_neg (by simp)]
    rw [List.take_length] at hm
    exact ⟨s, rfl, hm⟩

theorem matrix_l4 {n : Nat} (hn : n ≤ 128) {R : Int → Int → Bool} {k a : Int} (k0 : 0 ≤ k) (k1 : k < n) (a0 : 0 ≤ a) (a1 : a < n) {m0 : List (List Bool)} (h0 : Mat n m0 R) : ∃ m, ref24_Matrix.l4 (n : Int) k a FUEL m0 0 = some m ∧ Mat n m (fun x y => R x y || (decide (x = a) && R k y)) := by
  refine loop_c (L := fun q (s : List (List Bool)) i => ref24_Matrix.l4 (n : Int) k a q s i) n (fun i s => Mat n s (fun x y => R x y || (decide (x = a) && decide (y < (i : Int)) && R k y))) (fun o => ∃ m, o = some m ∧ Mat n m (fun x y => R x y || (decide (x = a) && R k y))) ?_ ?_ FUEL 0 m0 (Nat.zero_le _) (FUEL_pos (by omega)) (h0.congr (fun x y x0 x1 y0 y1 => by
      have : ¬ y < 0 := by omega
      simp [this]))
  · intro q s i hi hm
    obtain ⟨r, r1, r2, r3⟩ := hm.row k k0 k1
    rw [ref24_Matrix.l4, if_pos (by simp; omega), r1]
    simp only [Option.bind_some]
    rw [r3 (i : Int) (by omega) (by omega)]
    simp only [Option.bind_some, Int.lt_irrefl, decide_false, Bool.and_false, Bool.false_and, Bool.or_false]
    by_cases hr : R k (i : Int) = true
    · rw [if_pos hr]
      obtain ⟨ra, t1, t2, t3⟩ := hm.row a a0 a1
      rw [t1]
      simp only [Option.bind_some]
      rw [t3 (i : Int) (by omega) (by omega)]
      simp only [Option.bind_some]
      refine .inl ⟨_, (hm.set a0 a1 (b := (i : Int)) (by omega) (by omega) t1).congr (fun x y x0 x1 y0 y1 => ?_), by rw [wi_succ (by omega)]⟩
      rw [Bool.eq_iff_iff]
      simp only [Bool.or_eq_true, Bool.and_eq_true, decide_eq_true_eq]
      constructor
      · rintro ((h | ⟨⟨h1, h2⟩, h3⟩) | ⟨h1, h2⟩)
        · exact .inl h
        · exact .inr ⟨⟨h1, by omega⟩, h3⟩
        · exact .inr ⟨⟨h1, by omega⟩, by rw [h2]; exact hr⟩
      · rintro (h | ⟨⟨h1, h2⟩, h3⟩)
        · exact .inl (.inl h)
        · by_cases e : y = i
          · exact .inr ⟨h1, e⟩
          · exact .inl (.inr ⟨⟨h1, by omega⟩, h3⟩)
    · rw [if_neg hr]
      refine .inl ⟨s, hm.congr (fun x y x0 x1 y0 y1 => ?_), by rw [wi_succ (by omega)]; rfl⟩
      rw [Bool.eq_iff_iff]
      simp only [Bool.or_eq_true, Bool.and_eq_true, decide_eq_true_eq]
      constructor
      · rintro (h | ⟨⟨h1, h2⟩, h3⟩)
        · exact .inl h
        · exact .inr ⟨⟨h1, by omega⟩, h3⟩
      · rintro (h | ⟨⟨h1, h2⟩, h3⟩)
        · exact .inl h
        · by_cases e : y = i
          · subst e; exact absurd h3 hr
          · exact .inr ⟨⟨h1, by omega⟩, h3⟩
  · intro q s hm
    rw [ref24_Matrix.l4, if_neg (by simp)]
    exact ⟨s, rfl, hm.congr (fun x y x0 x1 y0 y1 => by simp [y1])⟩

theorem matrix_l3 {n : Nat} (hn : n ≤ 128) {R : Int → Int → Bool} {k : Int} (k0 : 0 ≤ k) (k1 : k < n) {m0 : List (List Bool)} (h0 : Mat n m0 R) : ∃ m, ref24_Matrix.l3 (n : Int) k FUEL m0 0 = some m ∧ Mat n m (fun x y => R x y || (R x k && R k y)) := by
  refine loop_c (L := fun q (s : List (List Bool)) i => ref24_Matrix.l3 (n : Int) k q s i) n (fun i s => Mat n s (fun x y => R x y || (decide (x < (i : Int)) && R x k && R k y))) (fun o => ∃ m, o = some m ∧ Mat n m (fun x y => R x y || (R x k && R k y))) ?_ ?_ FUEL 0 m0 (Nat.zero_le _) (FUEL_pos (by omega)) (h0.congr (fun x y x0 x1 y0 y1 => by
      have : ¬ x < 0 := by omega
      simp [this]))
  · intro q s i hi hm
    obtain ⟨r, r1, r2, r3⟩ := hm.row (i : Int) (by omega) (by omega)
    rw [ref24_Matrix.l3, if_pos (by simp; omega), r1]
    simp only [Option.bind_some]
    rw [r3 k k0 k1]
    simp only [Option.bind_some, Int.lt_irrefl, decide_false, Bool.false_and, Bool.or_false]
    by_cases hr : R (i : Int) k = true
    · rw [if_neg (by simp [hr])]
      obtain ⟨m', t1, t2⟩ := matrix_l4 hn k0 k1 (a := (i : Int)) (by omega) (by omega) hm
      rw [t1]
      refine .inl ⟨m', t2.congr (fun x y x0 x1 y0 y1 => ?_), by rw [wi_succ (by omega)]; rfl⟩
      rw [Bool.eq_iff_iff]
      simp only [Bool.or_eq_true, Bool.and_eq_true, decide_eq_true_eq]
      constructor
      · rintro ((h | ⟨⟨h1, h2⟩, h3⟩) | ⟨h1, h2⟩)
        · exact .inl h
        · exact .inr ⟨⟨by omega, h2⟩, h3⟩
        · refine .inr ⟨⟨by omega, by rw [h1]; exact hr⟩, ?_⟩
          rcases h2 with h2 | ⟨_, h2⟩ <;> exact h2
      · rintro (h | ⟨⟨h1, h2⟩, h3⟩)
        · exact .inl (.inl h)
        · by_cases e : x = i
          · exact .inr ⟨e, .inl h3⟩
          · exact .inl (.inr ⟨⟨by omega, h2⟩, h3⟩)
    · rw [if_pos (by simp [hr])]
      refine .inl ⟨s, hm.congr (fun x y x0 x1 y0 y1 => ?_), by rw [wi_succ (by omega)]; rfl⟩
      rw [Bool.eq_iff_iff]
      simp only [Bool.or_eq_true, Bool.and_eq_true, decide_eq_true_eq]
      constructor
      · rintro (h | ⟨⟨h1, h2⟩, h3⟩)
        · exact .inl h
        · exact .inr ⟨⟨by omega, h2⟩, h3⟩
      · rintro (h | ⟨⟨h1, h2⟩, h3⟩)
        · exact .inl h
        · by_cases e : x = i
          · subst e; exact absurd h2 hr
          · exact .inr ⟨⟨by omega, h2⟩, h3⟩
  · intro q s hm
    rw [ref24_Matrix.l3, if_neg (by simp)]
    exact ⟨s, rfl, hm.congr (fun x y x0 x1 y0 y1 => by simp [x1])⟩

theorem matrix_ok {n : Nat} {ls : List api_Link} (g : GoodG n ls) : ∃ m R, ref24_Matrix.f (n : Int) ls = some m ∧ Mat n m R ∧ ∀ a b : Int, R a b = true ↔ Path ls a b := by
  have hn := g.n128
  unfold ref24_Matrix.f
  rw [mk_ok (by omega)]
  simp only [Option.bind_some]
  obtain ⟨m1, e1, h1⟩ := matrix_l0 (n := n) hn
  rw [e1]
  simp only [Option.bind_some]
  obtain ⟨m2, e2, h2⟩ := matrix_l1 g h1
  rw [e2]
  simp only [Option.bind_some]
  have key : ∃ m, ref24_Matrix.l2 (n : Int) FUEL m2 0 = some m ∧ ∃ R, Mat n m R ∧ ∀ a b : Int, R a b = true ↔ Path ls a b := by
    refine loop_c (L := fun q (s : List (List Bool)) i => ref24_Matrix.l2 (n : Int) q s i) n
      (fun i s => ∃ R, Mat n s R ∧ (∀ a b : Int, R a b = true → Path ls a b) ∧ (∀ a b, api_Link.mk a b ∈ ls → R a b = true) ∧ ∀ j : Int, 0 ≤ j → j < i → ∀ a b : Int, R a j = true → R j b = true → R a b = true)
      (fun o => ∃ m, o = some m ∧ ∃ R, Mat n m R ∧ ∀ a b : Int, R a b = true ↔ Path ls a b) ?_ ?_ FUEL 0 m2 (Nat.zero_le _) (FUEL_pos (by omega)) ⟨_, h2, fun a b h => .one (by simpa using h), fun a b h => by simpa using h, fun j h0 h1 => by omega⟩
    · rintro q s i hi ⟨R, hm, s1, s2, s3⟩
      rw [ref24_Matrix.l2, if_pos (by simp; omega)]
      obtain ⟨m', t1, t2⟩ := matrix_l3 hn (k := (i : Int)) (by omega) (by omega) hm
      rw [t1]
      refine .inl ⟨m', ⟨_, t2, ?_, ?_, ?_⟩, by rw [wi_succ (by omega)]; rfl⟩
      all_goals simp only [Bool.or_eq_true, Bool.and_eq_true]
      · rintro a b (h | ⟨h1, h2⟩)
        · exact s1 a b h
        · exact (s1 _ _ h1).trans (s1 _ _ h2)
      · intro a b h; exact .inl (s2 a b h)
      · intro j j0 j1 a b ha hb
        by_cases e : j = i
        · subst e
          have ha' : R a (i : Int) = true := by rcases ha with h | ⟨h, _⟩ <;> exact h
          have hb' : R (i : Int) b = true := by rcases hb with h | ⟨_, h⟩ <;> exact h
          exact .inr ⟨ha', hb'⟩
        · have c := s3 j j0 (by omega)
          rcases ha with h | ⟨h1, h2⟩
          · rcases hb with h' | ⟨h3, h4⟩
            · exact .inl (c a b h h')
            · exact .inr ⟨c a i h h3, h4⟩
          · rcases hb with h' | ⟨h3, h4⟩
            · exact .inr ⟨h1, c i b h2 h'⟩
            · exact .inr ⟨h1, h4⟩
    · rintro q s ⟨R, hm, s1, s2, s3⟩
      rw [ref24_Matrix.l2, if_neg (by simp)]
      refine ⟨s, rfl, R, hm, fun a b => ⟨s1 a b, fun h => ?_⟩⟩
      induction h with
      | one h => exact s2 _ _ h
      | more h _ ih =>
        have := g.s0 _ h
        exact s3 _ this.1 this.2 _ _ (s2 _ _ h) ih
  obtain ⟨m, e3, R, h3, h4⟩ := key
  rw [e3]
  exact ⟨m, R, rfl, h3, h4⟩

/-! ### Check, Order -/

def ccode (p : Int) (ls : List api_Link) : Int := if vcode p ls = 0 then (if (ord p.toNat ls).length < p.toNat then 18 else 0) else vcode p ls

theorem ccode_good {n : Nat} {ls : List api_Link} (g : GoodG n ls) : ccode (n : Int) ls = if (ord n ls).length < n then 18 else 0 := by
  unfold ccode; rw [if_pos (good_vcode g)]; rfl

theorem refcheck_good {n : Nat} {ls : List api_Link} (g : GoodG n ls) : (ref24_Matrix.f (n : Int) ls).bind (fun r16 => (ref24_Check.l0 (n : Int) r16 FUEL 0 : Option (Fl (Int) (Unit))).bind fun o26 => o26.go fun _ => some 0) = some (if (ord n ls).length < n then 18 else 0) := by
  have hn := g.n128
  obtain ⟨m, R, e1, hm, hR⟩ := matrix_ok g
  rw [e1]
  simp only [Option.bind_some]
  have key : ref24_Check.l0 (n : Int) m FUEL 0 = some (if (ord n ls).length < n then .out 18 else .nxt ()) := by
    refine loop_c (L := fun q (_ : Unit) i => ref24_Check.l0 (n : Int) m q i) n (fun i _ => ∀ a : Int, 0 ≤ a → a < i → ¬ Path ls a a) (fun o => o = some (if (ord n ls).length < n then .out 18 else .nxt ())) ?_ ?_ FUEL 0 () (Nat.zero_le _) (FUEL_pos (by omega)) (fun a h0 h1 => by omega)
    · intro q _ i hi hI
      obtain ⟨r, r1, r2, r3⟩ := hm.row (i : Int) (by omega) (by omega)
      rw [ref24_Check.l0, if_pos (by simp; omega), r1]
      simp only [Option.bind_some]
      rw [r3 (i : Int) (by omega) (by omega)]
      simp only [Option.bind_some]
      by_cases hc : R (i : Int) (i : Int) = true
      · rw [if_pos hc]
        refine .inr ?_
        rw [if_pos]
        refine Classical.byContradiction fun hno => ?_
        exact (ord_run n ls).1.acyclic (i : Int) (ord_full hno (by omega) (by omega)) ((hR _ _).1 hc)
      · rw [if_neg hc]
        refine .inl ⟨(), fun a a0 a1 => ?_, by rw [wi_succ (by omega)]⟩
        by_cases e : a = i
        · subst e; exact fun h => hc ((hR _ _).2 h)
        · exact hI a a0 (by omega)
    · intro q _ hI
      rw [ref24_Check.l0, if_neg (by simp)]
      rw [if_neg]
      intro h
      obtain ⟨i, i0, i1, hp⟩ := ord_cyclic g h
      exact hI i i0 i1 hp
  rw [key]
  split <;> rfl

theorem refcheck_ok (p : Int) (ls : List api_Link) (h : ls.length ≤ maxLen) : ref24_Check.f p ls = some (ccode p ls) := by
  unfold ref24_Check.f
  rw [basic_ok p ls h]
  simp only [Option.bind_some]
  by_cases hv : vcode p ls = 0
  · obtain ⟨n, rfl, g⟩ := vcode_good hv
    rw [if_neg (by simp [hv]), ccode_good g]
    exact refcheck_good g
  · rw [if_pos (by simpa using hv)]
    unfold ccode; rw [if_neg hv]

theorem check_ok (p : Int) (ls : List api_Link) (h : ls.length ≤ maxLen) : depgraph_Check.f p ls = some (ccode p ls) := by
  unfold depgraph_Check.f
  rw [validate_ok p ls h]
  simp only [Option.bind_some]
  by_cases hv : vcode p ls = 0
  · obtain ⟨n, rfl, g⟩ := vcode_good hv
    rw [if_neg (by simp [hv]), ccode_good g, sort_ok g]
    simp only [Option.bind_some]
    by_cases hc : (ord n ls).length < n
    · rw [if_pos (by simp; omega), if_pos hc]
    · rw [if_neg (by simp; omega), if_neg hc]
  · rw [if_pos (by simpa using hv)]
    unfold ccode; rw [if_neg hv]

def ores (p : Int) (ls : List api_Link) : List Int × Int := if ccode p ls = 0 then (ord p.toNat ls, 0) else ([], ccode p ls)

theorem order_ok (p : Int) (ls : List api_Link) (h : ls.length ≤ maxLen) : depgraph_Order.f p ls = some (ores p ls) := by
  unfold depgraph_Order.f
  rw [validate_ok p ls h]
  simp only [Option.bind_some]
  by_cases hv : vcode p ls = 0
  · obtain ⟨n, rfl, g⟩ := vcode_good hv
    unfold ores
    rw [if_neg (by simp [hv]), ccode_good g, sort_ok g]
    simp only [Option.bind_some]
    by_cases hc : (ord n ls).length < n
    · rw [if_pos (by simp; omega), if_pos hc, if_neg (by decide)]
    · rw [if_neg (by simp; omega), if_neg hc, if_pos rfl]; rfl
  · rw [if_pos (by simpa using hv)]
    unfold ores ccode; rw [if_neg hv, if_neg hv]

theorem reforder_ok (p : Int) (ls : List api_Link) (h : ls.length ≤ maxLen) : ref24_Order.f p ls = some (ores p ls) := by
  unfold ref24_Order.f
  rw [refcheck_ok p ls h]
  simp only [Option.bind_some]
  unfold ores
  by_cases hv : ccode p ls = 0
  · have hv2 : vcode p ls = 0 := by
      unfold ccode at hv
      split at hv
      · assumption
      · exact hv
    obtain ⟨n, rfl, g⟩ := vcode_good hv2
    rw [if_neg (by simp [hv]), if_pos hv]
    obtain ⟨gone, e, _⟩ := remove_ok g
    rw [e]; rfl
  · rw [if_pos (by simpa using hv), if_neg hv]

theorem ores_len (p : Int) (ls : List api_Link) : (ores p ls).1.length ≤ maxLen := by
  unfold ores
  split
  · rename_i hv
    have hv2 : vcode p ls = 0 := by
      unfold ccode at hv
      split at hv
      · assumption
      · exact hv
    obtain ⟨n, rfl, g⟩ := vcode_good hv2
    have := ord_le n ls
    have := g.n128
    rw [maxLen_eq]; simp only [Int.toNat_natCast]; omega
  · simp

theorem awake_ok : law24_awake.f = some true := by kernel_rfl

end Go.Proofs.Ytphgandhncmaoaa.Sim
