/-
  Plain lemmas: chains of links, the matrix of the reference, the check of both programs.
-/
import Derived.Test.YtfiodhdldleocaaG3
namespace Go.Proofs.Ytfiodhdldleocaa.Sim
open Go
set_option linter.unusedVariables false

inductive Path (ls : List api_Link) : Int → Int → Prop where
  | one {a b : Int} (h : api_Link.mk a b ∈ ls) : Path ls a b
  | more {a b c : Int} (h : api_Link.mk a b ∈ ls) (h' : Path ls b c) : Path ls a c

theorem Path.trans {ls : List api_Link} {a b c : Int} (h : Path ls a b) (h' : Path ls b c) : Path ls a c := by
  induction h with
  | one h => exact .more h h'
  | more h _ ih => exact .more h (ih h')
theorem Path.first {ls : List api_Link} {a b : Int} (h : Path ls a b) : ∃ c, api_Link.mk a c ∈ ls ∧ (c = b ∨ Path ls c b) := by
  cases h with
  | one h => exact ⟨_, h, .inl rfl⟩
  | more h h' => exact ⟨_, h, .inr h'⟩
theorem Path.range {n : Nat} {ls : List api_Link} (g : GoodG n ls) {a b : Int} (h : Path ls a b) : (0 ≤ a ∧ a < n) ∧ (0 ≤ b ∧ b < n) := by
  induction h with
  | one h => exact ⟨g.c0 _ h, g.s0 _ h⟩
  | more h _ ih => exact ⟨g.c0 _ h, ih.2⟩

theorem Run.closed {n : Nat} {ls : List api_Link} {out : List Int} (hr : Run n ls out) {a b : Int} (h : Path ls a b) (ha : a ∈ out) : b ∈ out := by
  induction h with
  | one h => exact hr.facts.2.2 _ h ha
  | more h _ ih => exact ih (hr.facts.2.2 _ h ha)

theorem Run.acyclic {n : Nat} {ls : List api_Link} {out : List Int} (hr : Run n ls out) : ∀ a ∈ out, ¬ Path ls a a := by
  induction hr with
  | nil => simp
  | @snoc out v h hv ih =>
    intro a ha hp
    rcases List.mem_append.1 ha with ha | ha
    · exact ih a ha hp
    · simp only [List.mem_singleton] at ha
      subst ha
      obtain ⟨_, _, hf, _⟩ := least_some hv
      obtain ⟨h1, h2⟩ := free_iff.1 hf
      obtain ⟨c, hc, h3⟩ := hp.first
      have hco := h2 _ hc rfl
      rcases h3 with rfl | h3
      · exact h1 hco
      · exact h1 (h.closed h3 hco)

/-- A walk that never leaves n numbers comes back. -/
theorem walk_back {n : Nat} (w : Nat → Int) (h : ∀ i, 0 ≤ w i ∧ w i < n) : ∃ i j, i < j ∧ j ≤ n ∧ w i = w j := by
  refine Classical.byContradiction fun hno => ?_
  have hnd : ((List.range (n + 1)).map w).Nodup := by
    rw [List.nodup_iff_pairwise_ne, List.pairwise_map]
    refine List.Pairwise.imp_of_mem ?_ List.pairwise_lt_range
    intro i j hi hj hij e
    exact hno ⟨i, j, hij, by have := List.mem_range.1 hj; omega, e⟩
  have := nodup_le hnd (s := below n) (fun x hx => by
    obtain ⟨i, _, rfl⟩ := List.mem_map.1 hx
    exact mem_below.2 (h i))
  rw [below_length, List.length_map, List.length_range] at this
  omega

theorem ord_short {n : Nat} {ls : List api_Link} (g : GoodG n ls) (h : (ord n ls).length < n) : ∃ u : Int, 0 ≤ u ∧ u < n ∧ u ∉ ord n ls := by
  refine Classical.byContradiction fun hno => ?_
  have := nodup_le (below_nodup n) (s := ord n ls) (fun x hx => Classical.byContradiction fun hx' => hno ⟨x, (mem_below.1 hx).1, (mem_below.1 hx).2, hx'⟩)
  rw [below_length] at this
  omega
theorem ord_full {n : Nat} {ls : List api_Link} (h : ¬ (ord n ls).length < n) {v : Int} (h0 : 0 ≤ v) (h1 : v < n) : v ∈ ord n ls := by
  refine Classical.byContradiction fun hv => ?_
  have hr := (ord_run n ls).1.facts
  have := nodup_le (l := v :: ord n ls) (s := below n) (List.nodup_cons.2 ⟨hv, hr.1⟩) (fun x hx => by
    rcases List.mem_cons.1 hx with rfl | hx
    · exact mem_below.2 ⟨h0, h1⟩
    · exact mem_below.2 (hr.2.1 x hx))
  rw [below_length, List.length_cons] at this
  omega

/-- A node outside the order has a supplier outside the order. -/
theorem ord_stuck {n : Nat} {ls : List api_Link} (g : GoodG n ls) {u : Int} (h0 : 0 ≤ u) (h1 : u < n) (hu : u ∉ ord n ls) : ∃ s, api_Link.mk u s ∈ ls ∧ s ∉ ord n ls := by
  have hn := least_none.1 (ord_run n ls).2 u h0 h1
  refine Classical.byContradiction fun hno => ?_
  have : free ls (ord n ls) u = true := free_iff.2 ⟨hu, fun l hl hc => Classical.byContradiction fun hs => hno ⟨l.Supplier, by subst hc; exact hl, hs⟩⟩
  rw [this] at hn; cases hn

theorem ord_cyclic {n : Nat} {ls : List api_Link} (g : GoodG n ls) (h : (ord n ls).length < n) : ∃ i : Int, 0 ≤ i ∧ i < n ∧ Path ls i i := by
  obtain ⟨u, u0, u1, hu⟩ := ord_short g h
  let R := { v : Int // 0 ≤ v ∧ v < n ∧ v ∉ ord n ls }
  have nx : ∀ v : R, ∃ s : R, api_Link.mk v.1 s.1 ∈ ls := fun v => by
    obtain ⟨s, h1, h2⟩ := ord_stuck g v.2.1 v.2.2.1 v.2.2.2
    have := g.s0 _ h1
    exact ⟨⟨s, this.1, this.2, h2⟩, h1⟩
  let f : R → R := fun v => (nx v).choose
  have hf : ∀ v : R, api_Link.mk v.1 (f v).1 ∈ ls := fun v => (nx v).choose_spec
  let w : Nat → R := fun i => Nat.rec ⟨u, u0, u1, hu⟩ (fun _ v => f v) i
  have hw : ∀ i, api_Link.mk (w i).1 (w (i + 1)).1 ∈ ls := fun i => hf (w i)
  obtain ⟨i, j, hij, _, e⟩ := walk_back (n := n) (fun i => (w i).1) (fun i => ⟨(w i).2.1, (w i).2.2.1⟩)
  have hp : ∀ d, Path ls (w i).1 (w (i + d + 1)).1 := by
    intro d
    induction d with
    | zero => exact .one (hw i)
    | succ d ih => exact ih.trans (.one (hw (i + d + 1)))
  have := hp (j - i - 1)
  rw [show i + (j - i - 1) + 1 = j from by omega] at this
  refine ⟨(w i).1, (w i).2.1, (w i).2.2.1, ?_⟩
  rw [← e] at this
  exact this

/-! ### Check, Order -/

def ccode (p : Int) (ls : List api_Link) : Int := if vcode p ls = 0 then (if (ord p.toNat ls).length < p.toNat then 18 else 0) else vcode p ls

theorem ccode_good {n : Nat} {ls : List api_Link} (g : GoodG n ls) : ccode (n : Int) ls = if (ord n ls).length < n then 18 else 0 := by
  unfold ccode; rw [if_pos (good_vcode g)]; rfl

theorem check_ok (p : Int) (ls : List api_Link) (h : ls.length ≤ maxLen) : depgraph_Check.f p ls = some (ccode p ls) := by
  unfold depgraph_Check.f
  rw [validate_ok p ls h]
  simp only [Option.bind_some]
  by_cases hv : vcode p ls = 0
  · obtain ⟨n, rfl, g⟩ := vcode_good hv
    rw [if_neg (by simp [hv]), ccode_good g, sort_ok g]
    simp only [Option.bind_some]
    by_cases hc : (ord n ls).length < n
    · rw [if_pos (by simp; omega), if_pos hc]
    · rw [if_neg (by simp; omega), if_neg hc]
  · rw [if_pos (by simpa using hv)]
    unfold ccode; rw [if_neg hv]

end Go.Proofs.Ytfiodhdldleocaa.Sim
