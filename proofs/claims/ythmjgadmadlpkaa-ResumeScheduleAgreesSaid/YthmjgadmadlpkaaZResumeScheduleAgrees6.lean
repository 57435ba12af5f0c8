/-
  Texts of this session, part 6 of 6: the words of the walk, plain functions with the same answers as the Go functions and the proofs of it, plain lemmas. No condition.
  They are, one behind the other: G3 G4 S1 S2 S3 S4 S5 S6 S7 S8 GR RS RC PuSchedule.
-/
import Derived.Test.YthmjgadmadlpkaaZResumeScheduleAgrees5

namespace Go.Proofs.Ythmjgadmadlpkaa.Sim
open Go
set_option linter.unusedVariables false

/-! ### consumers and counts -/

def consOf (ls : List api_Link) (s : Int) : List Int := (ls.filter (fun l => l.Supplier == s)).map (·.Consumer)
def rem (ls : List api_Link) (out : List Int) (c : Int) : Nat := ls.countP (fun l => (l.Consumer == c) && decide (l.Supplier ∉ out))

theorem mem_consOf {ls : List api_Link} {s c : Int} : c ∈ consOf ls s ↔ api_Link.mk c s ∈ ls := by
  unfold consOf
  simp only [List.mem_map, List.mem_filter, beq_iff_eq]
  constructor
  · rintro ⟨l, ⟨h1, h2⟩, rfl⟩; subst h2; exact h1
  · intro h; exact ⟨_, ⟨h, rfl⟩, rfl⟩

theorem rem_split {out : List Int} {x : Int} (hx : x ∉ out) : ∀ (ls : List api_Link) (c : Int), rem ls out c = rem ls (out ++ [x]) c + (consOf ls x).count c
  | [], c => by simp [rem, consOf]
  | l :: t, c => by
    have ih := rem_split hx t c
    unfold rem consOf at ih ⊢
    simp only [List.countP_cons, List.filter_cons]
    by_cases h1 : l.Consumer = c <;> by_cases h2 : l.Supplier = x <;> by_cases h4 : l.Supplier ∈ out <;> grind

theorem consOf_snoc (ls : List api_Link) (l : api_Link) (s : Int) : consOf (ls ++ [l]) s = if l.Supplier = s then consOf ls s ++ [l.Consumer] else consOf ls s := by
  unfold consOf
  by_cases h : l.Supplier = s <;> simp [List.filter_append, h]
theorem rem_snoc (ls : List api_Link) (l : api_Link) (c : Int) : rem (ls ++ [l]) [] c = rem ls [] c + if l.Consumer = c then 1 else 0 := by
  unfold rem
  by_cases h : l.Consumer = c <;> simp [List.countP_append, h]
theorem rem_le (ls : List api_Link) (out : List Int) (c : Int) : rem ls out c ≤ ls.length := List.countP_le_length
theorem consOf_le (ls : List api_Link) (s : Int) : (consOf ls s).length ≤ ls.length := by
  unfold consOf; rw [List.length_map]; exact List.length_filter_le _ _

theorem adjacent_ok {n : Nat} {ls : List api_Link} (g : GoodG n ls) : ∃ adj cnt, depgraph_adjacent.f (n : Int) ls = some (adj, cnt) ∧ adj.length = n ∧ cnt.length = n ∧ ∀ v, 0 ≤ v → v < (n : Int) → idx adj v = some (consOf ls v) ∧ idx cnt v = some (rem ls [] v : Int) := by
  have hn := g.n128
  have hl := g.len
  unfold depgraph_adjacent.f
  rw [mk_ok (by omega), mk_ok (by omega)]
  simp only [Option.bind_some]
  have key : ∃ adj cnt, depgraph_adjacent.l0 ls FUEL (List.replicate n []) (List.replicate n 0) 0 = some (adj, cnt) ∧ adj.length = n ∧ cnt.length = n ∧ ∀ v, 0 ≤ v → v < (n : Int) → idx adj v = some (consOf ls v) ∧ idx cnt v = some (rem ls [] v : Int) := by
    refine loop_c (L := fun k (s : List (List Int) × List Int) i => depgraph_adjacent.l0 ls k s.1 s.2 i) ls.length (fun i s => s.1.length = n ∧ s.2.length = n ∧ ∀ v, 0 ≤ v → v < (n : Int) → idx s.1 v = some (consOf (ls.take i) v) ∧ idx s.2 v = some (rem (ls.take i) [] v : Int))
      (fun o => ∃ adj cnt, o = some (adj, cnt) ∧ adj.length = n ∧ cnt.length = n ∧ ∀ v, 0 ≤ v → v < (n : Int) → idx adj v = some (consOf ls v) ∧ idx cnt v = some (rem ls [] v : Int)) ?_ ?_ FUEL 0 (_, _) (Nat.zero_le _) (FUEL_pos (by omega)) ?_
    · rintro k ⟨adj, cnt⟩ i hi ⟨h1, h2, h3⟩
      simp only at h1 h2 h3 ⊢
      have hm := List.getElem_mem hi
      have hc := g.c0 _ hm
      have hs := g.s0 _ hm
      rw [depgraph_adjacent.l0, if_pos (by simp; omega), idx_get hi]
      simp only [Option.bind_some]
      have hcl := consOf_le (ls.take i) ls[i].Supplier
      rw [List.length_take] at hcl
      have hrl := rem_le (ls.take i) [] ls[i].Consumer
      rw [List.length_take] at hrl
      rw [(h3 _ hs.1 hs.2).1]
      simp only [Option.bind_some]
      rw [app_ok (by simp only [List.length_singleton]; omega)]
      simp only [Option.bind_some]
      rw [(h3 _ hc.1 hc.2).2]
      simp only [Option.bind_some]
      refine .inl ⟨(upd adj ls[i].Supplier (consOf (ls.take i) ls[i].Supplier ++ [ls[i].Consumer]), upd cnt ls[i].Consumer ((rem (ls.take i) [] ls[i].Consumer + 1 : Nat) : Int)), ?_, by rw [wi_succ (by omega), wi_succ (by omega)]⟩
      refine ⟨by rw [upd_length]; exact h1, by rw [upd_length]; exact h2, fun v v0 v1 => ?_⟩
      rw [idx_upd (xs := adj) hs.1 v0 (by omega), idx_upd (xs := cnt) hc.1 v0 (by omega), List.take_succ_eq_append_getElem hi, consOf_snoc, rem_snoc]
      obtain ⟨q1, q2⟩ := h3 v v0 v1
      constructor
      · by_cases e : ls[i].Supplier = v
        · subst e; rw [if_pos rfl, if_pos rfl]
        · rw [if_neg e, if_neg e]; exact q1
      · by_cases e : ls[i].Consumer = v
        · subst e; rw [if_pos rfl, if_pos rfl]
        · rw [if_neg e, if_neg e]; exact q2
    · rintro k ⟨adj, cnt⟩ ⟨h1, h2, h3⟩
      simp only at h1 h2 h3 ⊢
      rw [depgraph_adjacent.l0, if_neg (by simp)]
      rw [List.take_length] at h3
      exact ⟨adj, cnt, rfl, h1, h2, h3⟩
    · refine ⟨by simp, by simp, fun v v0 v1 => ?_⟩
      simp only
      rw [idx_replicate v0 v1, idx_replicate v0 v1]
      simp [consOf, rem]
  obtain ⟨adj, cnt, h1, h2⟩ := key
  rw [h1]
  exact ⟨adj, cnt, rfl, h2⟩

/-! ### the order -/

def free (ls : List api_Link) (out : List Int) (v : Int) : Bool := decide (v ∉ out) && ls.all (fun l => !(l.Consumer == v) || decide (l.Supplier ∈ out))
def least (n : Nat) (ls : List api_Link) (out : List Int) : Option Int := (below n).find? (free ls out)

theorem free_iff {ls : List api_Link} {out : List Int} {v : Int} : free ls out v = true ↔ v ∉ out ∧ ∀ l ∈ ls, l.Consumer = v → l.Supplier ∈ out := by
  unfold free
  simp only [Bool.and_eq_true, decide_eq_true_eq, List.all_eq_true, Bool.or_eq_true, Bool.not_eq_true', beq_eq_false_iff_ne, ne_eq]
  constructor
  · rintro ⟨h1, h2⟩; exact ⟨h1, fun l hl e => (h2 l hl).resolve_left (fun h => h e)⟩
  · rintro ⟨h1, h2⟩; exact ⟨h1, fun l hl => by by_cases e : l.Consumer = v <;> simp [e, h2 l hl]⟩

theorem free_rem {ls : List api_Link} {out : List Int} {v : Int} : free ls out v = true ↔ v ∉ out ∧ rem ls out v = 0 := by
  rw [free_iff]
  unfold rem
  rw [List.countP_eq_zero]
  simp only [Bool.and_eq_true, beq_iff_eq, decide_eq_true_eq, not_and, Decidable.not_not]

theorem find_below (P : Int → Bool) : ∀ (n : Nat), ((∀ u : Int, 0 ≤ u → u < n → P u = false) ∧ (below n).find? P = none) ∨ ∃ v : Int, 0 ≤ v ∧ v < n ∧ P v = true ∧ (∀ u : Int, 0 ≤ u → u < v → P u = false) ∧ (below n).find? P = some v
  | 0 => .inl ⟨fun u h0 h1 => by omega, by simp [below]⟩
  | n + 1 => by
    rw [below_succ, List.find?_append]
    rcases find_below P n with ⟨h1, h2⟩ | ⟨v, h1, h2, h3, h4, h5⟩
    · rw [h2]
      by_cases hp : P (n : Int) = true
      · exact .inr ⟨n, by omega, by omega, hp, h1, by simp [hp]⟩
      · refine .inl ⟨fun u h0 h3 => ?_, by simp [hp]⟩
        by_cases e : u = n
        · subst e; simpa using hp
        · exact h1 u h0 (by omega)
    · exact .inr ⟨v, h1, by omega, h3, h4, by rw [h5]; rfl⟩

theorem least_of {n : Nat} {ls : List api_Link} {out : List Int} {v : Int} (h0 : 0 ≤ v) (h1 : v < n) (h2 : free ls out v = true) (h3 : ∀ u, 0 ≤ u → u < v → free ls out u = false) : least n ls out = some v := by
  rcases find_below (free ls out) n with ⟨h4, h5⟩ | ⟨u, h4, h5, h6, h7, h8⟩
  · rw [h4 v h0 h1] at h2; cases h2
  · have : u = v := by
      rcases Int.lt_trichotomy u v with h | h | h
      · rw [h3 u h4 h] at h6; cases h6
      · exact h
      · rw [h7 v h0 h] at h2; cases h2
    subst this; exact h8
theorem least_some {n : Nat} {ls : List api_Link} {out : List Int} {v : Int} (h : least n ls out = some v) : 0 ≤ v ∧ v < n ∧ free ls out v = true ∧ ∀ u, 0 ≤ u → u < v → free ls out u = false := by
  rcases find_below (free ls out) n with ⟨h4, h5⟩ | ⟨u, h4, h5, h6, h7, h8⟩
  · unfold least at h; rw [h5] at h; cases h
  · unfold least at h; rw [h8] at h; injection h with h; subst h; exact ⟨h4, h5, h6, h7⟩
theorem least_none {n : Nat} {ls : List api_Link} {out : List Int} : least n ls out = none ↔ ∀ u : Int, 0 ≤ u → u < n → free ls out u = false := by
  rcases find_below (free ls out) n with ⟨h4, h5⟩ | ⟨u, h4, h5, h6, h7, h8⟩
  · exact ⟨fun _ => h4, fun _ => h5⟩
  · refine ⟨fun h => ?_, fun h => ?_⟩
    · unfold least at h; rw [h8] at h; cases h
    · rw [h u h4 h5] at h6; cases h6

inductive Run (n : Nat) (ls : List api_Link) : List Int → Prop where
  | nil : Run n ls []
  | snoc {out : List Int} {v : Int} (h : Run n ls out) (hv : least n ls out = some v) : Run n ls (out ++ [v])

theorem Run.facts {n : Nat} {ls : List api_Link} {out : List Int} (h : Run n ls out) : out.Nodup ∧ (∀ v ∈ out, 0 ≤ v ∧ v < n) ∧ ∀ l ∈ ls, l.Consumer ∈ out → l.Supplier ∈ out := by
  induction h with
  | nil => simp
  | @snoc out v h hv ih =>
    obtain ⟨h1, h2, h3⟩ := ih
    obtain ⟨h4, h5, h6, h7⟩ := least_some hv
    obtain ⟨h8, h9⟩ := free_iff.1 h6
    refine ⟨?_, fun u hu => ?_, fun l hl hc => ?_⟩
    · rw [List.nodup_append]
      refine ⟨h1, by simp, fun a ha b hb => ?_⟩
      simp only [List.mem_singleton] at hb
      subst hb
      exact fun e => h8 (e ▸ ha)
    · rcases List.mem_append.1 hu with hu | hu
      · exact h2 u hu
      · simp only [List.mem_singleton] at hu; subst hu; exact ⟨h4, h5⟩
    · rcases List.mem_append.1 hc with hc | hc
      · exact List.mem_append.2 (.inl (h3 l hl hc))
      · simp only [List.mem_singleton] at hc
        exact List.mem_append.2 (.inl (h9 l hl hc))
theorem Run.length_le {n : Nat} {ls : List api_Link} {out : List Int} (h : Run n ls out) : out.length ≤ n := by
  have := nodup_le h.facts.1 (fun x hx => mem_below.2 (h.facts.2.1 x hx))
  rwa [below_length] at this

def greedy (n : Nat) (ls : List api_Link) : Nat → List Int → List Int
  | 0, out => out
  | k + 1, out => match least n ls out with
    | none => out
    | some v => greedy n ls k (out ++ [v])
def ord (n : Nat) (ls : List api_Link) : List Int := greedy n ls (n + 1) []

theorem Run.greedy {n : Nat} {ls : List api_Link} {out : List Int} (h : Run n ls out) (k : Nat) : Sim.greedy n ls (k + out.length) [] = Sim.greedy n ls k out := by
  induction h generalizing k with
  | nil => rfl
  | @snoc out v h hv ih =>
    have := ih (k + 1)
    rw [show k + 1 + out.length = k + (out ++ [v]).length from by simp; omega] at this
    rw [this, Sim.greedy, hv]
theorem Run.ord {n : Nat} {ls : List api_Link} {out : List Int} (h : Run n ls out) (hn : least n ls out = none) : out = Sim.ord n ls := by
  have h1 := h.length_le
  have h2 := h.greedy (n + 1 - out.length)
  rw [show n + 1 - out.length + out.length = n + 1 from by omega] at h2
  unfold Sim.ord
  rw [h2, show n + 1 - out.length = (n - out.length) + 1 from by omega, Sim.greedy, hn]
theorem greedy_run {n : Nat} {ls : List api_Link} : ∀ (k : Nat) (out : List Int), Run n ls out → n < k + out.length → Run n ls (greedy n ls k out) ∧ least n ls (greedy n ls k out) = none
  | 0, out, h, hk => by have := h.length_le; omega
  | k + 1, out, h, hk => by
    rw [greedy]
    split
    · rename_i hn; exact ⟨h, hn⟩
    · rename_i v hv; exact greedy_run k _ (h.snoc hv) (by simp; omega)
theorem ord_run (n : Nat) (ls : List api_Link) : Run n ls (ord n ls) ∧ least n ls (ord n ls) = none := greedy_run _ _ .nil (by simp)
theorem ord_le (n : Nat) (ls : List api_Link) : (ord n ls).length ≤ n := (ord_run n ls).1.length_le

/-! ### the program's way -/

structure Que (n : Nat) (q : List Int) (P : Int → Prop) : Prop where
  heap : Heap q q.length
  nodup : q.Nodup
  mem : ∀ v, v ∈ q ↔ 0 ≤ v ∧ v < (n : Int) ∧ P v

theorem Que.len {n : Nat} {q : List Int} {P : Int → Prop} (h : Que n q P) : q.length ≤ n := by
  have := nodup_le h.nodup (fun x hx => mem_below.2 ⟨((h.mem x).1 hx).1, ((h.mem x).1 hx).2.1⟩)
  rwa [below_length] at this
theorem Que.congr {n : Nat} {q : List Int} {P Q : Int → Prop} (h : Que n q P) (hpq : ∀ v, 0 ≤ v → v < (n : Int) → (P v ↔ Q v)) : Que n q Q :=
  ⟨h.heap, h.nodup, fun v => by rw [h.mem]; constructor <;> rintro ⟨a, b, c⟩; exact ⟨a, b, (hpq v a b).1 c⟩; exact ⟨a, b, (hpq v a b).2 c⟩⟩
theorem Que.push {n : Nat} {q : List Int} {P : Int → Prop} (h : Que n q P) (hn : n ≤ 128) {x : Int} (h0 : 0 ≤ x) (h1 : x < n) (hx : ¬ P x) : ∃ q', heap_Push.f ⟨q⟩ x = some ⟨q'⟩ ∧ Que n q' (fun v => v = x ∨ P v) := by
  have hl := h.len
  obtain ⟨q', e, hp, hh⟩ := push_ok q x (by omega) h.heap
  refine ⟨q', e, hh, ?_, fun v => ?_⟩
  · rw [hp.nodup_iff, List.nodup_cons]
    exact ⟨fun hm => hx ((h.mem x).1 hm).2.2, h.nodup⟩
  · rw [hp.mem_iff, List.mem_cons, h.mem]
    constructor
    · rintro (rfl | ⟨a, b, c⟩)
      · exact ⟨h0, h1, .inl rfl⟩
      · exact ⟨a, b, .inr c⟩
    · rintro ⟨a, b, rfl | c⟩
      · exact .inl rfl
      · exact .inr ⟨a, b, c⟩

theorem sort_l0 {n : Nat} (hn : n ≤ 128) {adj : List (List Int)} {cnt : List Int} (hc : cnt.length = n) : ∃ q, depgraph_sort.l0 (adj, cnt) FUEL [] 0 = some q ∧ Que n q (fun v => idx cnt v = some 0) := by
  refine loop_c (L := fun k (s : List Int) i => depgraph_sort.l0 (adj, cnt) k s i) n (fun i s => Que n s (fun v => v < (i : Int) ∧ idx cnt v = some 0)) (fun o => ∃ q, o = some q ∧ Que n q (fun v => idx cnt v = some 0)) ?_ ?_ FUEL 0 [] (Nat.zero_le _) (FUEL_pos (by omega)) ⟨fun k h0 h1 => by simp at h1, by simp, fun v => by simp; omega⟩
  · rintro k s i hi hq
    rw [depgraph_sort.l0, if_pos (by show decide ((i : Int) < (cnt.length : Int)) = true; simp; omega), idx_get (xs := cnt) (by omega)]
    simp only [Option.bind_some]
    by_cases e : cnt[i] = 0
    · rw [if_pos (by simp [e])]
      obtain ⟨q', h1, h2⟩ := hq.push hn (x := (i : Int)) (by omega) (by omega) (fun h => by omega)
      rw [h1]
      refine .inl ⟨q', h2.congr (fun v v0 v1 => ?_), by rw [wi_succ (by omega)]; rfl⟩
      constructor
      · rintro (rfl | ⟨h3, h4⟩)
        · exact ⟨by omega, by rw [idx_get (by omega), e]⟩
        · exact ⟨by omega, h4⟩
      · rintro ⟨h3, h4⟩
        by_cases e2 : v = i
        · exact .inl e2
        · exact .inr ⟨by omega, h4⟩
    · rw [if_neg (by simp [e])]
      refine .inl ⟨s, hq.congr (fun v v0 v1 => ?_), by rw [wi_succ (by omega)]; rfl⟩
      constructor
      · rintro ⟨h3, h4⟩; exact ⟨by omega, h4⟩
      · rintro ⟨h3, h4⟩
        by_cases e2 : v = i
        · subst e2; rw [idx_get (by omega)] at h4; injection h4 with h4; exact absurd h4 e
        · exact ⟨by omega, h4⟩
  · rintro k s hq
    rw [depgraph_sort.l0, if_neg (by simp only [decide_eq_true_eq]; omega)]
    exact ⟨s, rfl, hq.congr (fun v v0 v1 => ⟨fun h => h.2, fun h => ⟨v1, h⟩⟩)⟩

theorem sort_l2 {n : Nat} {ls : List api_Link} (g : GoodG n ls) {out : List Int} (hr : Run n ls out) {x : Int} (hx : least n ls out = some x) {cnt q : List Int} (hc : cnt.length = n) (hcv : ∀ v : Int, 0 ≤ v → v < n → idx cnt v = some (rem ls out v : Int)) (hq : Que n q (fun v => v ∉ out ++ [x] ∧ idx cnt v = some 0)) :
    ∃ cnt' q', depgraph_sort.l2 (out ++ [x]) (consOf ls x) FUEL cnt q 0 = some (.nxt (cnt', q', out ++ [x])) ∧ cnt'.length = n ∧ (∀ v : Int, 0 ≤ v → v < n → idx cnt' v = some (rem ls (out ++ [x]) v : Int)) ∧ Que n q' (fun v => v ∉ out ++ [x] ∧ idx cnt' v = some 0) := by
  have hn := g.n128
  have hl := g.len
  have hcl := consOf_le ls x
  obtain ⟨x0, x1, hfree, _⟩ := least_some hx
  obtain ⟨hxo, hxs⟩ := free_iff.1 hfree
  have hmem : ∀ c ∈ consOf ls x, (0 ≤ c ∧ c < n) ∧ c ∉ out ++ [x] := by
    intro c hc
    have hm := mem_consOf.1 hc
    refine ⟨g.c0 _ hm, fun h => ?_⟩
    rcases List.mem_append.1 h with h | h
    · exact hxo (hr.facts.2.2 _ hm h)
    · simp only [List.mem_singleton] at h
      exact hxo (hxs _ hm h)
  refine loop_c (L := fun k (s : List Int × List Int) i => depgraph_sort.l2 (out ++ [x]) (consOf ls x) k s.1 s.2 i) (consOf ls x).length
    (fun i s => s.1.length = n ∧ (∀ v : Int, 0 ≤ v → v < n → idx s.1 v = some ((rem ls (out ++ [x]) v + ((consOf ls x).drop i).count v : Nat) : Int)) ∧ Que n s.2 (fun v => v ∉ out ++ [x] ∧ idx s.1 v = some 0))
    (fun o => ∃ cnt' q', o = some (.nxt (cnt', q', out ++ [x])) ∧ cnt'.length = n ∧ (∀ v : Int, 0 ≤ v → v < n → idx cnt' v = some (rem ls (out ++ [x]) v : Int)) ∧ Que n q' (fun v => v ∉ out ++ [x] ∧ idx cnt' v = some 0)) ?_ ?_ FUEL 0 (cnt, q) (Nat.zero_le _) (FUEL_pos (by omega)) ⟨hc, fun v v0 v1 => by rw [hcv v v0 v1, rem_split hxo]; rfl, hq⟩
  · rintro k ⟨cn, qq⟩ i hi ⟨i1, i2, i3⟩
    simp only at i1 i2 i3 ⊢
    obtain ⟨⟨c0, c1⟩, co⟩ := hmem _ (List.getElem_mem hi)
    rw [depgraph_sort.l2, if_pos (by simp; omega), idx_get hi]
    simp only [Option.bind_some]
    generalize hcc : (consOf ls x)[i] = c at *
    have hdrop : (consOf ls x).drop i = c :: (consOf ls x).drop (i + 1) := by rw [List.drop_eq_getElem_cons hi, hcc]
    have hcur := i2 c c0 c1
    have hrle := rem_le ls (out ++ [x]) c
    have hcle : ((consOf ls x).drop (i + 1)).count c ≤ (consOf ls x).length := Nat.le_trans List.count_le_length (by simp)
    rw [hdrop, List.count_cons_self] at hcur
    rw [hcur]
    simp only [Option.bind_some]
    have e1 : wi (((rem ls (out ++ [x]) c + (((consOf ls x).drop (i + 1)).count c + 1) : Nat) : Int) - 1) = ((rem ls (out ++ [x]) c + ((consOf ls x).drop (i + 1)).count c : Nat) : Int) := by
      rw [wi_id (by omega) (by omega)]; omega
    rw [e1]
    have hnew : ∀ v : Int, 0 ≤ v → v < n → idx (upd cn c ((rem ls (out ++ [x]) c + ((consOf ls x).drop (i + 1)).count c : Nat) : Int)) v = some ((rem ls (out ++ [x]) v + ((consOf ls x).drop (i + 1)).count v : Nat) : Int) := by
      intro v v0 v1
      rw [idx_upd (xs := cn) c0 v0 (by omega)]
      by_cases e : c = v
      · subst e; rw [if_pos rfl]
      · rw [if_neg e, i2 v v0 v1, hdrop, List.count_cons_of_ne e]
    rw [hnew c c0 c1]
    simp only [Option.bind_some]
    have hne : ∀ v, v ≠ c → 0 ≤ v → v < (n : Int) → (idx (upd cn c ((rem ls (out ++ [x]) c + ((consOf ls x).drop (i + 1)).count c : Nat) : Int)) v = some 0 ↔ idx cn v = some 0) := by
      intro v hv v0 v1
      rw [idx_upd (xs := cn) c0 v0 (by omega), if_neg (fun e => hv e.symm)]
    have hpos : idx cn c ≠ some 0 := by
      rw [hcur]; intro h; injection h with h; omega
    by_cases hz : (rem ls (out ++ [x]) c + ((consOf ls x).drop (i + 1)).count c) = 0
    · rw [if_pos (by rw [hz]; rfl)]
      obtain ⟨q', p1, p2⟩ := i3.push hn c0 c1 (fun h => hpos h.2)
      rw [p1]
      refine .inl ⟨(upd cn c ((rem ls (out ++ [x]) c + ((consOf ls x).drop (i + 1)).count c : Nat) : Int), q'), ⟨by rw [upd_length]; exact i1, hnew, p2.congr (fun v v0 v1 => ?_)⟩, by rw [wi_succ (by omega)]; rfl⟩
      by_cases e : v = c
      · subst e
        refine ⟨fun _ => ⟨co, by rw [hnew v c0 c1, hz]; rfl⟩, fun _ => .inl rfl⟩
      · constructor
        · rintro (h | ⟨h1, h2⟩)
          · exact absurd h e
          · exact ⟨h1, (hne v e v0 v1).2 h2⟩
        · rintro ⟨h1, h2⟩; exact .inr ⟨h1, (hne v e v0 v1).1 h2⟩
    · rw [if_neg (by simp only [beq_iff_eq]; omega)]
      refine .inl ⟨(upd cn c ((rem ls (out ++ [x]) c + ((consOf ls x).drop (i + 1)).count c : Nat) : Int), qq), ⟨by rw [upd_length]; exact i1, hnew, i3.congr (fun v v0 v1 => ?_)⟩, by rw [wi_succ (by omega)]; rfl⟩
      by_cases e : v = c
      · subst e
        refine ⟨fun h => absurd h.2 hpos, fun h => ?_⟩
        have h2 := h.2
        rw [hnew v c0 c1] at h2
        injection h2 with h2; omega
      · exact ⟨fun h => ⟨h.1, (hne v e v0 v1).2 h.2⟩, fun h => ⟨h.1, (hne v e v0 v1).1 h.2⟩⟩
  · rintro k ⟨cn, qq⟩ ⟨i1, i2, i3⟩
    simp only at i1 i2 i3 ⊢
    rw [depgraph_sort.l2, if_neg (by simp)]
    refine ⟨cn, qq, rfl, i1, fun v v0 v1 => ?_, i3⟩
    rw [i2 v v0 v1, List.drop_length]; rfl

theorem sort_ok {n : Nat} {ls : List api_Link} (g : GoodG n ls) : depgraph_sort.f (n : Int) ls = some (ord n ls) := by
  have hn := g.n128
  unfold depgraph_sort.f
  obtain ⟨adj, cnt, ha, hal, hcl, hac⟩ := adjacent_ok g
  rw [ha]
  simp only [Option.bind_some]
  obtain ⟨q, h1, h2⟩ := sort_l0 (n := n) hn (adj := adj) (cnt := cnt) hcl
  rw [h1]
  simp only [Option.bind_some]
  have key : depgraph_sort.l1 (adj, cnt) FUEL cnt q [] = some (ord n ls) := by
    refine loop_m (L := fun k (s : List Int × List Int × List Int) => depgraph_sort.l1 (adj, cnt) k s.1 s.2.1 s.2.2) (fun s => Run n ls s.2.2 ∧ s.1.length = n ∧ (∀ v : Int, 0 ≤ v → v < n → idx s.1 v = some (rem ls s.2.2 v : Int)) ∧ Que n s.2.1 (fun v => v ∉ s.2.2 ∧ idx s.1 v = some 0))
      (fun s => n - s.2.2.length) (fun o => o = some (ord n ls)) ?_ FUEL (cnt, q, []) ⟨.nil, hcl, fun v v0 v1 => (hac v v0 v1).2, h2.congr (fun v _ _ => by simp)⟩ (FUEL_pos (by show n - 0 ≤ _; omega))
    rintro k ⟨cn, qq, out⟩ ⟨i1, i2, i3, i4⟩
    simp only at i1 i2 i3 i4 ⊢
    have hlen := i1.length_le
    have hql := i4.len
    have hiff : ∀ v : Int, 0 ≤ v → v < n → ((v ∉ out ∧ idx cn v = some 0) ↔ free ls out v = true) := by
      intro v v0 v1
      rw [free_rem, i3 v v0 v1]
      constructor
      · rintro ⟨h1, h2⟩; injection h2 with h2; exact ⟨h1, by omega⟩
      · rintro ⟨h1, h2⟩; exact ⟨h1, by rw [h2]; rfl⟩
    rw [depgraph_sort.l1]
    by_cases h0 : 0 < qq.length
    · rw [if_pos (by simp; omega)]
      obtain ⟨q', x, p1, p2, p3, p4⟩ := pop_ok qq (by omega) h0 i4.heap
      rw [p1]
      simp only [Option.bind_some, Bool.not_true, Bool.false_eq_true, if_false]
      have hxq : x ∈ qq := p2.mem_iff.1 (List.mem_cons_self ..)
      obtain ⟨x0, x1, hxf⟩ := (i4.mem x).1 hxq
      have hx : least n ls out = some x := least_of x0 x1 ((hiff x x0 x1).1 hxf) (fun u u0 ux => by
        rw [Bool.eq_false_iff]
        intro hf
        have := p4 u ((i4.mem u).2 ⟨u0, by omega, (hiff u u0 (by omega)).2 hf⟩)
        omega)
      rw [app_ok (by simp; omega)]
      simp only [Option.bind_some]
      rw [(hac x x0 x1).1]
      simp only [Option.bind_some]
      have hnd : (x :: q').Nodup := p2.nodup_iff.2 i4.nodup
      rw [List.nodup_cons] at hnd
      obtain ⟨cnt', q2, r1, r2, r3, r4⟩ := sort_l2 g i1 hx i2 i3 (q := q') ⟨p3, hnd.2, fun v => by
        have hv := i4.mem v
        rw [← p2.mem_iff, List.mem_cons] at hv
        constructor
        · intro hm
          obtain ⟨v0, v1, v2, v3⟩ := hv.1 (.inr hm)
          refine ⟨v0, v1, fun h => ?_, v3⟩
          rcases List.mem_append.1 h with h | h
          · exact v2 h
          · simp only [List.mem_singleton] at h; subst h; exact hnd.1 hm
        · rintro ⟨v0, v1, v2, v3⟩
          rw [List.mem_append, List.mem_singleton, not_or] at v2
          exact (hv.2 ⟨v0, v1, v2.1, v3⟩).resolve_left v2.2⟩
      rw [r1]
      have hr' := i1.snoc hx
      have := hr'.length_le
      simp only [List.length_append, List.length_singleton] at this
      exact .inl ⟨(cnt', q2, out ++ [x]), ⟨hr', r2, r3, r4⟩, by simp; omega, rfl⟩
    · rw [if_neg (by simp only [decide_eq_true_eq]; omega)]
      have hq0 : qq = [] := List.eq_nil_of_length_eq_zero (by omega)
      subst hq0
      refine .inr ?_
      have := i1.ord (least_none.2 (fun u u0 u1 => by
        rw [Bool.eq_false_iff]
        intro hf
        have := (i4.mem u).2 ⟨u0, u1, (hiff u u0 u1).2 hf⟩
        simp at this))
      rw [← this]
  rw [key]
  rfl

end Go.Proofs.Ythmjgadmadlpkaa.Sim

namespace Go.Proofs.Ythmjgadmadlpkaa.Sim
open Go
set_option linter.unusedVariables false

inductive Path (ls : List api_Link) : Int → Int → Prop where
  | one {a b : Int} (h : api_Link.mk a b ∈ ls) : Path ls a b
  | more {a b c : Int} (h : api_Link.mk a b ∈ ls) (h' : Path ls b c) : Path ls a c

theorem Path.trans {ls : List api_Link} {a b c : Int} (h : Path ls a b) (h' : Path ls b c) : Path ls a c := by
  induction h with
  | one h => exact .more h h'
  | more h _ ih => exact .more h (ih h')
theorem Path.first {ls : List api_Link} {a b : Int} (h : Path ls a b) : ∃ c, api_Link.mk a c ∈ ls ∧ (c = b ∨ Path ls c b) := by
  cases h with
  | one h => exact ⟨_, h, .inl rfl⟩
  | more h h' => exact ⟨_, h, .inr h'⟩
theorem Path.range {n : Nat} {ls : List api_Link} (g : GoodG n ls) {a b : Int} (h : Path ls a b) : (0 ≤ a ∧ a < n) ∧ (0 ≤ b ∧ b < n) := by
  induction h with
  | one h => exact ⟨g.c0 _ h, g.s0 _ h⟩
  | more h _ ih => exact ⟨g.c0 _ h, ih.2⟩

theorem Run.closed {n : Nat} {ls : List api_Link} {out : List Int} (hr : Run n ls out) {a b : Int} (h : Path ls a b) (ha : a ∈ out) : b ∈ out := by
  induction h with
  | one h => exact hr.facts.2.2 _ h ha
  | more h _ ih => exact ih (hr.facts.2.2 _ h ha)

theorem Run.acyclic {n : Nat} {ls : List api_Link} {out : List Int} (hr : Run n ls out) : ∀ a ∈ out, ¬ Path ls a a := by
  induction hr with
  | nil => simp
  | @snoc out v h hv ih =>
    intro a ha hp
    rcases List.mem_append.1 ha with ha | ha
    · exact ih a ha hp
    · simp only [List.mem_singleton] at ha
      subst ha
      obtain ⟨_, _, hf, _⟩ := least_some hv
      obtain ⟨h1, h2⟩ := free_iff.1 hf
      obtain ⟨c, hc, h3⟩ := hp.first
      have hco := h2 _ hc rfl
      rcases h3 with rfl | h3
      · exact h1 hco
      · exact h1 (h.closed h3 hco)

/-- A walk that never leaves n numbers comes back. -/
theorem walk_back {n : Nat} (w : Nat → Int) (h : ∀ i, 0 ≤ w i ∧ w i < n) : ∃ i j, i < j ∧ j ≤ n ∧ w i = w j := by
  refine Classical.byContradiction fun hno => ?_
  have hnd : ((List.range (n + 1)).map w).Nodup := by
    rw [List.nodup_iff_pairwise_ne, List.pairwise_map]
    refine List.Pairwise.imp_of_mem ?_ List.pairwise_lt_range
    intro i j hi hj hij e
    exact hno ⟨i, j, hij, by have := List.mem_range.1 hj; omega, e⟩
  have := nodup_le hnd (s := below n) (fun x hx => by
    obtain ⟨i, _, rfl⟩ := List.mem_map.1 hx
    exact mem_below.2 (h i))
  rw [below_length, List.length_map, List.length_range] at this
  omega

theorem ord_short {n : Nat} {ls : List api_Link} (g : GoodG n ls) (h : (ord n ls).length < n) : ∃ u : Int, 0 ≤ u ∧ u < n ∧ u ∉ ord n ls := by
  refine Classical.byContradiction fun hno => ?_
  have := nodup_le (below_nodup n) (s := ord n ls) (fun x hx => Classical.byContradiction fun hx' => hno ⟨x, (mem_below.1 hx).1, (mem_below.1 hx).2, hx'⟩)
  rw [below_length] at this
  omega
theorem ord_full {n : Nat} {ls : List api_Link} (h : ¬ (ord n ls).length < n) {v : Int} (h0 : 0 ≤ v) (h1 : v < n) : v ∈ ord n ls := by
  refine Classical.byContradiction fun hv => ?_
  have hr := (ord_run n ls).1.facts
  have := nodup_le (l := v :: ord n ls) (s := below n) (List.nodup_cons.2 ⟨hv, hr.1⟩) (fun x hx => by
    rcases List.mem_cons.1 hx with rfl | hx
    · exact mem_below.2 ⟨h0, h1⟩
    · exact mem_below.2 (hr.2.1 x hx))
  rw [below_length, List.length_cons] at this
  omega

/-- A node outside the order has a supplier outside the order. -/
theorem ord_stuck {n : Nat} {ls : List api_Link} (g : GoodG n ls) {u : Int} (h0 : 0 ≤ u) (h1 : u < n) (hu : u ∉ ord n ls) : ∃ s, api_Link.mk u s ∈ ls ∧ s ∉ ord n ls := by
  have hn := least_none.1 (ord_run n ls).2 u h0 h1
  refine Classical.byContradiction fun hno => ?_
  have : free ls (ord n ls) u = true := free_iff.2 ⟨hu, fun l hl hc => Classical.byContradiction fun hs => hno ⟨l.Supplier, by subst hc; exact hl, hs⟩⟩
  rw [this] at hn; cases hn

theorem ord_cyclic {n : Nat} {ls : List api_Link} (g : GoodG n ls) (h : (ord n ls).length < n) : ∃ i : Int, 0 ≤ i ∧ i < n ∧ Path ls i i := by
  obtain ⟨u, u0, u1, hu⟩ := ord_short g h
  let R := { v : Int // 0 ≤ v ∧ v < n ∧ v ∉ ord n ls }
  have nx : ∀ v : R, ∃ s : R, api_Link.mk v.1 s.1 ∈ ls := fun v => by
    obtain ⟨s, h1, h2⟩ := ord_stuck g v.2.1 v.2.2.1 v.2.2.2
    have := g.s0 _ h1
    exact ⟨⟨s, this.1, this.2, h2⟩, h1⟩
  let f : R → R := fun v => (nx v).choose
  have hf : ∀ v : R, api_Link.mk v.1 (f v).1 ∈ ls := fun v => (nx v).choose_spec
  let w : Nat → R := fun i => Nat.rec ⟨u, u0, u1, hu⟩ (fun _ v => f v) i
  have hw : ∀ i, api_Link.mk (w i).1 (w (i + 1)).1 ∈ ls := fun i => hf (w i)
  obtain ⟨i, j, hij, _, e⟩ := walk_back (n := n) (fun i => (w i).1) (fun i => ⟨(w i).2.1, (w i).2.2.1⟩)
  have hp : ∀ d, Path ls (w i).1 (w (i + d + 1)).1 := by
    intro d
    induction d with
    | zero => exact .one (hw i)
    | succ d ih => exact ih.trans (.one (hw (i + d + 1)))
  have := hp (j - i - 1)
  rw [show i + (j - i - 1) + 1 = j from by omega] at this
  refine ⟨(w i).1, (w i).2.1, (w i).2.2.1, ?_⟩
  rw [← e] at this
  exact this

/-! ### Check, Order -/

def ccode (p : Int) (ls : List api_Link) : Int := if vcode p ls = 0 then (if (ord p.toNat ls).length < p.toNat then 18 else 0) else vcode p ls

theorem ccode_good {n : Nat} {ls : List api_Link} (g : GoodG n ls) : ccode (n : Int) ls = if (ord n ls).length < n then 18 else 0 := by
  unfold ccode; rw [if_pos (good_vcode g)]; rfl

theorem check_ok (p : Int) (ls : List api_Link) (h : ls.length ≤ maxLen) : depgraph_Check.f p ls = some (ccode p ls) := by
  unfold depgraph_Check.f
  rw [validate_ok p ls h]
  simp only [Option.bind_some]
  by_cases hv : vcode p ls = 0
  · obtain ⟨n, rfl, g⟩ := vcode_good hv
    rw [if_neg (by simp [hv]), ccode_good g, sort_ok g]
    simp only [Option.bind_some]
    by_cases hc : (ord n ls).length < n
    · rw [if_pos (by simp; omega), if_pos hc]
    · rw [if_neg (by simp; omega), if_neg hc]
  · rw [if_pos (by simpa using hv)]
    unfold ccode; rw [if_neg hv]

def ores (p : Int) (ls : List api_Link) : List Int × Int := if ccode p ls = 0 then (ord p.toNat ls, 0) else ([], ccode p ls)

theorem order_ok (p : Int) (ls : List api_Link) (h : ls.length ≤ maxLen) : depgraph_Order.f p ls = some (ores p ls) := by
  unfold depgraph_Order.f
  rw [validate_ok p ls h]
  simp only [Option.bind_some]
  by_cases hv : vcode p ls = 0
  · obtain ⟨n, rfl, g⟩ := vcode_good hv
    unfold ores
    rw [if_neg (by simp [hv]), ccode_good g, sort_ok g]
    simp only [Option.bind_some]
    by_cases hc : (ord n ls).length < n
    · rw [if_pos (by simp; omega), if_pos hc, if_neg (by decide)]
    · rw [if_neg (by simp; omega), if_neg hc, if_pos rfl]; rfl
  · rw [if_pos (by simpa using hv)]
    unfold ores ccode; rw [if_neg hv, if_neg hv]

theorem ores_len (p : Int) (ls : List api_Link) : (ores p ls).1.length ≤ maxLen := by
  unfold ores
  split
  · rename_i hv
    have hv2 : vcode p ls = 0 := by
      unfold ccode at hv
      split at hv
      · assumption
      · exact hv
    obtain ⟨n, rfl, g⟩ := vcode_good hv2
    have := ord_le n ls
    have := g.n128
    rw [maxLen_eq]; simp only [Int.toNat_natCast]; omega
  · simp

end Go.Proofs.Ythmjgadmadlpkaa.Sim

namespace Go.Proofs.Ythmjgadmadlpkaa.Sim
open Go
set_option linter.unusedVariables false
set_option maxRecDepth 100000

/-- The first number below n with P, or -1. -/
def fst (n : Nat) (P : Int → Bool) : Int := ((below n).find? P).getD (-1)
theorem fst_none {n : Nat} {P : Int → Bool} (h : ∀ u : Int, 0 ≤ u → u < n → P u = false) : fst n P = -1 := by
  unfold fst
  have : (below n).find? P = none := List.find?_eq_none.2 fun x hx => by have := mem_below.1 hx; simp [h x this.1 this.2]
  rw [this]; rfl
theorem fst_some {n : Nat} {P : Int → Bool} {v : Int} (h0 : 0 ≤ v) (h1 : v < n) (h2 : P v = true) (h3 : ∀ u, 0 ≤ u → u < v → P u = false) : fst n P = v := by
  unfold fst
  rcases find_below P n with ⟨h, _⟩ | ⟨u, a, b, c, d, e⟩
  · rw [h v h0 h1] at h2; cases h2
  · rw [e]
    rcases Int.lt_trichotomy u v with x | x | x
    · rw [h3 u a x] at c; cases c
    · rw [x]; rfl
    · rw [d v h0 x] at h2; cases h2
theorem fst_spec {n : Nat} {P : Int → Bool} : (fst n P = -1 ∧ ∀ u : Int, 0 ≤ u → u < n → P u = false) ∨ (0 ≤ fst n P ∧ fst n P < n ∧ P (fst n P) = true ∧ ∀ u : Int, 0 ≤ u → u < fst n P → P u = false) := by
  unfold fst
  rcases find_below P n with ⟨h, e⟩ | ⟨u, a, b, c, d, e⟩
  · left; rw [e]; exact ⟨rfl, h⟩
  · right; rw [e]; exact ⟨a, b, c, d⟩
theorem fst_congr {n : Nat} {P Q : Int → Bool} (h : ∀ u : Int, 0 ≤ u → u < n → P u = Q u) : fst n P = fst n Q := by
  rcases fst_spec (n := n) (P := P) with ⟨e, a⟩ | ⟨a, b, c, d⟩
  · rw [e, fst_none fun u u0 u1 => by rw [← h u u0 u1]; exact a u u0 u1]
  · exact (fst_some a b (by rw [← h _ a b]; exact c) fun u u0 u1 => by rw [← h u u0 (by omega)]; exact d u u0 u1).symm

/-- A loop that looks for the first index with P. -/
theorem find_ok {ρ : Type} {L : Nat → Int → Option (Fl ρ Unit)} (n : Nat) (P : Int → Bool) (v : Int → ρ) (hn : n ≤ 9223372036854775807)
    (hL : ∀ k (i : Nat), i < n → L (k + 1) (i : Int) = if P i = true then some (.out (v i)) else L k ((i + 1 : Nat) : Int)) (hE : ∀ k, L (k + 1) (n : Int) = some (.nxt ())) :
    L FUEL 0 = some (if 0 ≤ fst n P then .out (v (fst n P)) else .nxt ()) := by
  refine loop_c (L := fun k (_ : Unit) i => L k i) n (fun i _ => ∀ u : Int, 0 ≤ u → u < i → P u = false) (fun o => o = some (if 0 ≤ fst n P then .out (v (fst n P)) else .nxt ())) ?_ ?_ FUEL 0 () (Nat.zero_le _) (FUEL_pos (by omega)) (fun u h0 h1 => by omega)
  · intro k s i hi hI
    rw [hL k i hi]
    by_cases hp : P i = true
    · rw [if_pos hp]
      refine .inr ?_
      rw [fst_some (by omega) (by omega) hp hI, if_pos (by omega)]
    · rw [if_neg hp]
      refine .inl ⟨(), fun u h0 h1 => ?_, rfl⟩
      by_cases e : u = i
      · subst e; simpa using hp
      · exact hI u h0 (by omega)
  · intro k s hI
    rw [hE, fst_none hI]; rfl

theorem index_ok' {xs : List Bool} {f : Int → Bool} (hl : xs.length ≤ 1000000) (h : ∀ i : Int, 0 ≤ i → i < xs.length → idx xs i = some (f i)) : slices_Index_bool_bool.f xs false = some (fst xs.length (fun i => !f i)) := by
  unfold slices_Index_bool_bool.f
  rw [find_ok (L := slices_Index_bool_bool.l0 xs false) xs.length (fun i => !f i) (fun i => i) (by omega) (fun k i hi => by
    rw [slices_Index_bool_bool.l0, if_pos (by simp; omega), h i (by omega) (by omega), Option.bind_some, wi_succ (by omega)]
    cases f i <;> rfl) (fun k => by rw [slices_Index_bool_bool.l0, if_neg (by simp)]), Option.bind_some]
  rcases fst_spec (n := xs.length) (P := fun i => !f i) with ⟨e, _⟩ | ⟨a, _⟩
  · rw [e]; rfl
  · rw [if_pos a]; rfl

theorem worker_ok {s : resume_scheduler} {f : Int → Int} (hl : s.free.length ≤ 1000000) (h : ∀ i : Int, 0 ≤ i → i < s.free.length → idx s.free i = some (f i)) : resume_scheduler_worker.f s = some (fst s.free.length (fun i => decide (f i ≤ s.now))) := by
  unfold resume_scheduler_worker.f slices_IndexFunc_uint64_uint64_worker_1.f
  rw [find_ok (L := slices_IndexFunc_uint64_uint64_worker_1.l0 s.free s) s.free.length (fun i => decide (f i ≤ s.now)) (fun i => i) (by omega) (fun k i hi => by
    rw [slices_IndexFunc_uint64_uint64_worker_1.l0, if_pos (by simp; omega), h i (by omega) (by omega), Option.bind_some, wi_succ (by omega)]
    unfold resume_scheduler_worker_1.f; rw [Option.bind_some]) (fun k => by rw [slices_IndexFunc_uint64_uint64_worker_1.l0, if_neg (by simp)]), Option.bind_some]
  rcases fst_spec (n := s.free.length) (P := fun i => decide (f i ≤ s.now)) with ⟨e, _⟩ | ⟨a, _⟩
  · rw [e]; rfl
  · rw [if_pos a]; rfl

theorem min_ok {xs : List Int} (hl : xs.length ≤ 1000000) (h0 : xs ≠ []) : ∃ m, slices_Min_uint64_uint64.f xs = some m ∧ m ∈ xs ∧ ∀ x ∈ xs, m ≤ x := by
  have hp : 0 < xs.length := List.length_pos_iff.2 h0
  unfold slices_Min_uint64_uint64.f
  rw [if_neg (by simp; omega), show (0 : Int) = ((0 : Nat) : Int) from rfl, idx_get hp, Option.bind_some]
  have key : ∃ m, slices_Min_uint64_uint64.l0 xs FUEL xs[0] ((1 : Nat) : Int) = some m ∧ m ∈ xs ∧ ∀ x ∈ xs, m ≤ x := by
    refine loop_c (L := fun k (s : Int) i => slices_Min_uint64_uint64.l0 xs k s i) xs.length (fun i s => s ∈ xs ∧ ∀ x ∈ xs.take i, s ≤ x) (fun o => ∃ m, o = some m ∧ m ∈ xs ∧ ∀ x ∈ xs, m ≤ x) ?_ ?_ FUEL 1 xs[0] (by omega) (FUEL_pos (by omega)) ⟨List.getElem_mem hp, fun x hx => ?_⟩
    · intro k s i hi hI
      obtain ⟨h1, h2⟩ := hI
      rw [slices_Min_uint64_uint64.l0, if_pos (by simp; omega), idx_get hi, Option.bind_some]
      refine .inl ⟨min s xs[i], ⟨?_, fun x hx => ?_⟩, by rw [wi_succ (by omega)]⟩
      · rcases Int.le_total s xs[i] with h | h
        · rw [Int.min_eq_left h]; exact h1
        · rw [Int.min_eq_right h]; exact List.getElem_mem hi
      · rw [List.take_succ_eq_append_getElem hi] at hx
        rcases List.mem_append.1 hx with h | h
        · have := h2 x h; omega
        · simp only [List.mem_singleton] at h; subst h; omega
    · intro k s hI
      rw [slices_Min_uint64_uint64.l0, if_neg (by simp)]
      rw [List.take_length] at hI
      exact ⟨s, rfl, hI.1, hI.2⟩
    · have : xs.take 1 = [xs[0]] := by rw [List.take_succ_eq_append_getElem hp]; simp
      rw [this] at hx
      simp only [List.mem_singleton] at hx; subst hx; exact Int.le_refl _
  obtain ⟨m, e1, e2⟩ := key
  exact ⟨m, by rw [show (1 : Int) = ((1 : Nat) : Int) from rfl, e1]; rfl, e2⟩

end Go.Proofs.Ythmjgadmadlpkaa.Sim

namespace Go.Proofs.Ythmjgadmadlpkaa.Sim
open Go
set_option linter.unusedVariables false
set_option maxRecDepth 100000

def RepV {α : Type} (n : Nat) (l : List α) (c : Int → α) : Prop := l.length = n ∧ ∀ i : Int, 0 ≤ i → i < n → idx l i = some (c i)
def fset {α : Type} (f : Int → α) (k : Int) (v : α) : Int → α := fun i => if i = k then v else f i
theorem fset_self {α : Type} (f : Int → α) (k : Int) (v : α) : fset f k v k = v := by simp [fset]
theorem fset_ne {α : Type} (f : Int → α) {k i : Int} (v : α) (h : i ≠ k) : fset f k v i = f i := by simp [fset, h]
theorem RepV.set {α : Type} {n : Nat} {l : List α} {c : Int → α} (h : RepV n l c) {k : Int} (h0 : 0 ≤ k) (v : α) : RepV n (upd l k v) (fset c k v) := by
  refine ⟨by rw [upd_length]; exact h.1, fun i i0 i1 => ?_⟩
  rw [idx_upd_some h0 (h.2 i i0 i1)]
  unfold fset
  by_cases e : k = i
  · subst e; simp
  · simp [e, Ne.symm e]
theorem RepV.rep {α : Type} (n : Nat) (x : α) : RepV n (List.replicate n x) (fun _ => x) := ⟨by simp, fun i h0 h1 => idx_replicate h0 h1⟩
theorem RepV.congr {α : Type} {n : Nat} {l : List α} {c d : Int → α} (h : RepV n l c) (e : ∀ i : Int, 0 ≤ i → i < n → c i = d i) : RepV n l d := ⟨h.1, fun i i0 i1 => by rw [h.2 i i0 i1, e i i0 i1]⟩

/-- What has begun, the slots, when each worker is free, the time. -/
structure Ms where
  b : Int → Bool
  s : Int → api_Slot
  f : Int → Int
  t : Int
def over (m : Ms) (k : Int) : Bool := m.b k && decide ((m.s k).End ≤ m.t)
def rdy (ls : List api_Link) (m : Ms) (d : Int) : Bool := !m.b d && ls.all (fun l => !(l.Consumer == d) || over m l.Supplier)
def nextD (n : Nat) (ls : List api_Link) (m : Ms) : Int := fst n (rdy ls m)
def nextW (w : Nat) (m : Ms) : Int := fst w (fun i => decide (m.f i ≤ m.t))
structure RI (n w : Nat) (ls : List api_Link) (a : resume_scheduler) (m : Ms) : Prop where
  l : a.links = ls
  b : RepV n a.begun m.b
  s : RepV n a.slot m.s
  f : RepV w a.free m.f
  t : a.now = m.t

section
variable {n w : Nat} {ls : List api_Link} {a : resume_scheduler} {m : Ms}

theorem ready_ok (g : GoodG n ls) (h : RI n w ls a m) : resume_scheduler_ready.f a = some (nextD n ls m) := by
  have hn := g.n128
  have hll := g.len
  unfold resume_scheduler_ready.f slices_Clone_bool_bool.f
  rw [app_ok (by simp; have := h.b.1; omega), Option.bind_some, Option.bind_some, List.nil_append]
  have key : ∃ bl, resume_scheduler_ready.l0 a FUEL a.begun 0 = some bl ∧ RepV n bl (fun d => m.b d || ls.any (fun l => (l.Consumer == d) && !over m l.Supplier)) := by
    refine loop_c (L := fun k (s : List Bool) i => resume_scheduler_ready.l0 a k s i) ls.length (fun i s => RepV n s (fun d => m.b d || (ls.take i).any (fun l => (l.Consumer == d) && !over m l.Supplier)))
      (fun o => ∃ bl, o = some bl ∧ RepV n bl (fun d => m.b d || ls.any (fun l => (l.Consumer == d) && !over m l.Supplier))) ?_ ?_ FUEL 0 a.begun (Nat.zero_le _) (FUEL_pos (by omega)) (h.b.congr fun i _ _ => by simp)
    · intro k s i hi hI
      have hc := g.c0 _ (List.getElem_mem hi)
      have hs := g.s0 _ (List.getElem_mem hi)
      rw [resume_scheduler_ready.l0, h.l, if_pos (by simp; omega), idx_get hi, Option.bind_some, h.b.2 _ hs.1 hs.2, Option.bind_some]
      have e1 : (if (!m.b ls[i].Supplier) = true then some true else (idx a.slot ls[i].Supplier).bind fun x64 => some (decide (a.now < x64.End))) = some (!over m ls[i].Supplier) := by
        rw [h.s.2 _ hs.1 hs.2, h.t]
        unfold over
        cases m.b ls[i].Supplier
        · rfl
        · simp
          by_cases q : m.t < (m.s ls[i].Supplier).End <;> simp [q] <;> omega
      rw [e1, Option.bind_some]
      have hstep : ∀ d, (m.b d || (ls.take (i + 1)).any (fun l => (l.Consumer == d) && !over m l.Supplier)) = ((m.b d || (ls.take i).any (fun l => (l.Consumer == d) && !over m l.Supplier)) || ((ls[i].Consumer == d) && !over m ls[i].Supplier)) := fun d => by
        rw [List.take_succ_eq_append_getElem hi, List.any_append]; simp [Bool.or_assoc]
      by_cases q : (!over m ls[i].Supplier) = true
      · rw [if_pos q, hI.2 _ hc.1 hc.2, Option.bind_some, Option.bind_some]
        refine .inl ⟨upd s ls[i].Consumer true, ?_, by rw [wi_succ (by omega)]⟩
        refine (hI.set hc.1 true).congr fun d d0 d1 => ?_
        rw [hstep d, q]
        unfold fset
        by_cases e : d = ls[i].Consumer
        · simp [e]
        · simp [e, Ne.symm e]
      · rw [if_neg q, Option.bind_some]
        refine .inl ⟨s, hI.congr fun d d0 d1 => ?_, by rw [wi_succ (by omega)]⟩
        rw [hstep d]
        simp only [Bool.not_eq_true] at q
        rw [q]; simp
    · intro k s hI
      rw [resume_scheduler_ready.l0, h.l, if_neg (by simp)]
      rw [List.take_length] at hI
      exact ⟨s, rfl, hI⟩
  obtain ⟨bl, e1, e2⟩ := key
  have hb := e2.1
  rw [e1, Option.bind_some, index_ok' (by omega) (fun i i0 i1 => e2.2 i i0 (by omega)), Option.bind_some, hb]
  unfold nextD
  congr 1
  refine fst_congr fun d d0 d1 => ?_
  unfold rdy
  rw [Bool.not_or, List.not_any_eq_all_not]
  congr 1
  congr 1
  funext l
  cases (l.Consumer == d) <;> cases over m l.Supplier <;> rfl

theorem delete_ok {xs : List Int} {s : resume_scheduler} (hl : xs.length ≤ 1000000) : slices_DeleteFunc_uint64_uint64_advance_1.f xs s = some (xs.filter (fun x => !decide (x ≤ s.now))) := by
  unfold slices_DeleteFunc_uint64_uint64_advance_1.f slices_IndexFunc_uint64_uint64_advance_1.f
  have hf : ∀ i : Int, 0 ≤ i → i < xs.length → idx xs i = some (xs.getD i.toNat 0) := fun i i0 i1 => by
    obtain ⟨k, rfl⟩ := Int.eq_ofNat_of_zero_le i0
    have : k < xs.length := by omega
    rw [idx_get this]; simp [this]
  rw [find_ok (L := slices_IndexFunc_uint64_uint64_advance_1.l0 xs s) xs.length (fun i => decide (xs.getD i.toNat 0 ≤ s.now)) (fun i => i) (by omega) (fun k i hi => by
    rw [slices_IndexFunc_uint64_uint64_advance_1.l0, if_pos (by simp; omega), hf i (by omega) (by omega), Option.bind_some, wi_succ (by omega)]
    unfold resume_scheduler_advance_1.f; rw [Option.bind_some]) (fun k => by rw [slices_IndexFunc_uint64_uint64_advance_1.l0, if_neg (by simp)]), Option.bind_some]
  rcases fst_spec (n := xs.length) (P := fun i => decide (xs.getD i.toNat 0 ≤ s.now)) with ⟨e, hno⟩ | ⟨i0, i1, hat, hlo⟩
  · rw [e]
    have : xs.filter (fun x => !decide (x ≤ s.now)) = xs := List.filter_eq_self.2 fun x hx => by
      obtain ⟨k, hk, rfl⟩ := List.getElem_of_mem hx
      have := hno k (by omega) (by omega)
      simp [hk] at this
      simp; omega
    rw [this]; rfl
  · generalize fst xs.length (fun i => decide (xs.getD i.toNat 0 ≤ s.now)) = i at *
    obtain ⟨i, rfl⟩ := Int.eq_ofNat_of_zero_le i0
    rw [if_pos (by omega)]
    simp only [Fl.go, Option.bind_some]
    have hpre : ∀ k, k ≤ i → (xs.take k).filter (fun x => !decide (x ≤ s.now)) = xs.take k := fun k hk => List.filter_eq_self.2 fun x hx => by
      obtain ⟨q, hq, rfl⟩ := List.getElem_of_mem hx
      simp only [List.length_take] at hq
      have := hlo q (by omega) (by omega)
      have hq2 : q < xs.length := by omega
      simp [hq2] at this
      simp <;> omega
    rw [if_neg (by simp)]
    have key : ∃ zs k, slices_DeleteFunc_uint64_uint64_advance_1.l0 s FUEL xs (i : Int) ((i + 1 : Nat) : Int) = some (zs, ((k : Nat) : Int)) ∧ zs.length = xs.length ∧ k ≤ xs.length ∧ zs.take k = xs.filter (fun x => !decide (x ≤ s.now)) := by
      refine loop_c (L := fun fu (z : List Int × Nat) j => slices_DeleteFunc_uint64_uint64_advance_1.l0 s fu z.1 (z.2 : Int) j) xs.length
        (fun j z => z.1.length = xs.length ∧ z.2 < j ∧ z.1.take z.2 = (xs.take j).filter (fun x => !decide (x ≤ s.now)) ∧ z.1.drop j = xs.drop j)
        (fun o => ∃ zs k, o = some (zs, ((k : Nat) : Int)) ∧ zs.length = xs.length ∧ k ≤ xs.length ∧ zs.take k = xs.filter (fun x => !decide (x ≤ s.now))) ?_ ?_ FUEL (i + 1) (xs, i) (by omega) (FUEL_pos (by omega)) ⟨rfl, Nat.lt_succ_self _, ?_, rfl⟩
      · rintro fu ⟨z, q⟩ j hj ⟨h1, h2, h3, h4⟩
        simp only at h1 h2 h3 h4 ⊢
        have hz : z[j]'(by omega) = xs[j] := by
          have := congrArg (fun l => l[0]?) h4
          simp [List.getElem?_drop, hj, h1] at this
          exact this
        have hd : z.drop (j + 1) = xs.drop (j + 1) := by
          have := congrArg (fun l => l.drop 1) h4
          simpa [List.drop_drop] using this
        rw [slices_DeleteFunc_uint64_uint64_advance_1.l0, if_pos (by simp; omega), idx_get (by omega : j < z.length), Option.bind_some]
        unfold resume_scheduler_advance_1.f
        rw [Option.bind_some, hz]
        by_cases c : xs[j] ≤ s.now
        · rw [if_neg (by simp [c]), Option.bind_some]
          refine .inl ⟨(z, q), ⟨h1, by omega, ?_, hd⟩, by rw [wi_succ (by omega)]⟩
          rw [List.take_succ_eq_append_getElem hj, List.filter_append, h3]; simp [c]
        · rw [if_pos (by simp [c]), idx_get (by omega : q < z.length), Option.bind_some, Option.bind_some]
          refine .inl ⟨(upd z (q : Int) xs[j], q + 1), ⟨by rw [upd_length]; exact h1, by omega, ?_, ?_⟩, by simp only; rw [wi_succ (by omega), wi_succ (by omega)]⟩
          · rw [List.take_succ_eq_append_getElem hj, List.filter_append, ← h3]
            have hq : q < z.length := by omega
            simp only [upd, Int.toNat_natCast]
            rw [List.take_succ_eq_append_getElem (by simp; omega), List.getElem_set_self, List.take_set_of_le (Nat.le_refl _)]
            simp [c]
          · simp only [upd, Int.toNat_natCast]
            rw [List.drop_set_of_lt (by omega)]; exact hd
      · rintro fu ⟨z, q⟩ ⟨h1, h2, h3, h4⟩
        simp only at h1 h2 h3 h4 ⊢
        rw [slices_DeleteFunc_uint64_uint64_advance_1.l0, h1, if_neg (by simp)]
        rw [List.take_length] at h3
        exact ⟨z, q, rfl, h1, by omega, h3⟩
      · have hii : i < xs.length := by omega
        have hat' : xs[i] ≤ s.now := by simpa [hii] using hat
        simp only
        rw [List.take_succ_eq_append_getElem hii, List.filter_append, hpre i (Nat.le_refl _)]
        simp [hat']
    rw [wi_succ (by omega)]
    obtain ⟨zs, k, e1, e2, e3, e4⟩ := key
    rw [e1, Option.bind_some]
    simp only
    rw [slc_back (by omega), Option.bind_some]
    have hcl : (clr zs (k : Int) 0).length = zs.length := clr_length (by omega)
    rw [slc_front (by omega), Option.bind_some]
    congr 1
    rw [← e4]
    unfold clr
    rw [List.take_append_of_le_length (by simp; omega)]
    simp only [Int.toNat_natCast]
    rw [List.take_take, Nat.min_self]
end
end Go.Proofs.Ythmjgadmadlpkaa.Sim

namespace Go.Proofs.Ythmjgadmadlpkaa.Sim
open Go
set_option linter.unusedVariables false
set_option maxRecDepth 100000

def lowest (l : List Int) : Option Int := l.find? (fun m => l.all (fun x => decide (m ≤ x)))
theorem lowest_of {l : List Int} {m : Int} (h : m ∈ l) (h2 : ∀ x ∈ l, m ≤ x) : lowest l = some m := by
  unfold lowest
  rcases hf : l.find? (fun m => l.all (fun x => decide (m ≤ x))) with _ | y
  · have := List.find?_eq_none.1 hf m h
    simp at this
    obtain ⟨x, hx, hlt⟩ := this
    have := h2 x hx; omega
  · have h3 := List.find?_some hf
    have h4 := List.mem_of_find?_eq_some hf
    simp only [List.all_eq_true, decide_eq_true_eq] at h3
    have a := h3 m h
    have b := h2 y h4
    rw [show y = m by omega]
theorem RepV.eq {α : Type} {n : Nat} {l : List α} {c : Int → α} (h : RepV n l c) : l = (below n).map c := by
  apply List.ext_getElem
  · simp [below_length, h.1]
  · intro i h1 h2
    have := h.2 i (by omega) (by have := h.1; omega)
    rw [idx_get h1] at this
    have e : (below n)[i]'(by rw [below_length]; have := h.1; omega) = (i : Int) := by simp [below]
    rw [List.getElem_map, e]
    exact Option.some.inj this

def running (w : Nat) (m : Ms) : List Int := ((below w).map m.f).filter (fun x => !decide (x ≤ m.t))
def place (du : Int → Int) (m : Ms) (d k : Int) : Ms := ⟨fset m.b d true, fset m.s d (api_Slot.mk d k m.t (m.t + du d)), fset m.f k (m.t + du d), m.t⟩
def nxt (n w : Nat) (ls : List api_Link) (du : Int → Int) (z : Ms × List api_Slot) : Option (Ms × List api_Slot) :=
  if 0 ≤ nextD n ls z.1 ∧ 0 ≤ nextW w z.1 then some (place du z.1 (nextD n ls z.1) (nextW w z.1), z.2 ++ [api_Slot.mk (nextD n ls z.1) (nextW w z.1) z.1.t (z.1.t + du (nextD n ls z.1))])
  else match lowest (running w z.1) with
    | none => none
    | some t => some (⟨z.1.b, z.1.s, z.1.f, t⟩, z.2)
def it (n w : Nat) (ls : List api_Link) (du : Int → Int) : Nat → Ms × List api_Slot → Ms × List api_Slot
  | 0, z => z
  | k + 1, z => match nxt n w ls du z with
    | none => z
    | some z' => it n w ls du k z'
theorem it_same {n w : Nat} {ls : List api_Link} {du : Int → Int} : ∀ (j k : Nat) (z : Ms × List api_Slot), nxt n w ls du (it n w ls du j z) = none → nxt n w ls du (it n w ls du k z) = none → it n w ls du j z = it n w ls du k z
  | 0, 0, z, _, _ => rfl
  | 0, k + 1, z, h, _ => by simp only [it] at h ⊢; rw [h]
  | j + 1, 0, z, _, h => by simp only [it] at h ⊢; rw [h]
  | j + 1, k + 1, z, h1, h2 => by
    rw [it] at h1 ⊢
    rw [it] at h2 ⊢
    cases hz : nxt n w ls du z with
    | none => rfl
    | some z' =>
      rw [hz] at h1 h2
      exact it_same j k z' h1 h2

theorem advance_ok {n w : Nat} {ls : List api_Link} {a : resume_scheduler} {m : Ms} (h : RI n w ls a m) (hw : w ≤ 1000) :
    resume_scheduler_advance.f a = some (match lowest (running w m) with | none => (a, false) | some t => (resume_scheduler.mk a.links a.slot a.begun a.free t, true)) := by
  have hl := h.f.1
  have he := h.f.eq
  unfold resume_scheduler_advance.f slices_Clone_uint64_uint64.f
  rw [app_ok (by simp; omega), Option.bind_some, Option.bind_some, List.nil_append, delete_ok (by omega), Option.bind_some]
  have hr : a.free.filter (fun x => !decide (x ≤ a.now)) = running w m := by rw [he, h.t]; rfl
  rw [hr]
  by_cases h0 : running w m = []
  · rw [h0]; rfl
  · rw [if_neg (by simp; exact h0)]
    have hrl : (running w m).length ≤ 1000000 := by rw [← hr]; exact Nat.le_trans (List.length_filter_le _ _) (by omega)
    obtain ⟨t, e1, e2, e3⟩ := min_ok hrl h0
    rw [e1, lowest_of e2 e3]; rfl
end Go.Proofs.Ythmjgadmadlpkaa.Sim

namespace Go.Proofs.Ythmjgadmadlpkaa.Sim
open Go
set_option linter.unusedVariables false
set_option maxRecDepth 100000

theorem it_succ {n w : Nat} {ls : List api_Link} {du : Int → Int} : ∀ (k : Nat) (z z' : Ms × List api_Slot), nxt n w ls du (it n w ls du k z) = some z' → it n w ls du (k + 1) z = z'
  | 0, z, z', h => by simp only [it] at h; rw [it, h]; rfl
  | k + 1, z, z', h => by
    rw [it] at h ⊢
    cases hz : nxt n w ls du z with
    | none => rw [hz] at h; simp only at h; rw [hz] at h; cases h
    | some y => rw [hz] at h; exact it_succ k y z' h

theorem count_upd {l : List Bool} {k : Int} (h : idx l k = some false) : (upd l k true).count false + 1 = l.count false := by
  obtain ⟨i, rfl⟩ := Int.eq_ofNat_of_zero_le (idx_lo h)
  have hi : i < l.length := by have := idx_hi h; omega
  rw [idx_get hi] at h
  have hv : l[i] = false := Option.some.inj h
  unfold upd
  simp only [Int.toNat_natCast]
  rw [List.count_set hi, hv]
  have : 0 < l.count false := List.count_pos_iff.2 (hv ▸ List.getElem_mem hi)
  simp; omega

/-- What the program's state tells of the machine's after some steps. -/
structure Go1 (n w : Nat) (ls : List api_Link) (du : Int → Int) (z0 : Ms × List api_Slot) (s : resume_scheduler × List api_Slot) (m : Ms) (j : Nat) : Prop where
  r : RI n w ls s.1 m
  it : it n w ls du j z0 = (m, s.2)
  c : s.2.length + s.1.begun.count false = n
  t : 0 ≤ m.t ∧ m.t ≤ s.2.length * 9007199254740992
  f : ∀ i, 0 ≤ m.f i ∧ m.f i ≤ s.2.length * 9007199254740992

theorem filter_set_le {α : Type} (p : α → Bool) (x : α) (l : List α) : ∀ (i : Nat), ((l.set i x).filter p).length ≤ (l.filter p).length + 1 := by
  induction l with
  | nil => intro i; simp
  | cons a t ih =>
    intro i
    cases i with
    | zero =>
      rw [List.set_cons_zero, List.filter_cons, List.filter_cons]
      by_cases h1 : p x = true <;> by_cases h2 : p a = true <;> simp [h1, h2] <;> omega
    | succ i =>
      have := ih i
      rw [List.set_cons_succ, List.filter_cons, List.filter_cons]
      by_cases h2 : p a = true <;> simp [h2] <;> omega
theorem lowest_spec {l : List Int} {m : Int} (h : lowest l = some m) : m ∈ l ∧ ∀ x ∈ l, m ≤ x := by
  unfold lowest at h
  refine ⟨List.mem_of_find?_eq_some h, ?_⟩
  have := List.find?_some h
  simpa using this
theorem worker_ok' {n w : Nat} {ls : List api_Link} {a : resume_scheduler} {m : Ms} (h : RI n w ls a m) (hw : w ≤ 1000) : resume_scheduler_worker.f a = some (nextW w m) := by
  have hl := h.f.1
  rw [worker_ok (s := a) (f := m.f) (by omega) (fun i i0 i1 => h.f.2 i i0 (by omega)), hl, h.t]; rfl

theorem sched_ok {n w : Nat} {ls : List api_Link} (g : GoodG n ls) {dl : List Int} {du : Int → Int} (hd : RepV n dl du) (hdu : ∀ i, 0 ≤ du i ∧ du i ≤ 9007199254740992) (hw : w ≤ 16) {z0 : Ms × List api_Slot} {a0 : resume_scheduler} {m0 : Ms}
    (h0 : Go1 n w ls du z0 (a0, []) m0 0) : ∃ j s m, resume_Schedule.l0 dl FUEL a0 [] = some (s.2, 0) ∧ Go1 n w ls du z0 s m j ∧ nxt n w ls du (m, s.2) = none := by
  have hn := g.n128
  refine loop_m (L := fun k (s : resume_scheduler × List api_Slot) => resume_Schedule.l0 dl k s.1 s.2) (fun s => ∃ m j, Go1 n w ls du z0 s m j) (fun s => 2 * s.1.begun.count false + (s.1.free.filter (fun x => !decide (x ≤ s.1.now))).length)
    (fun o => ∃ j s m, o = some (s.2, 0) ∧ Go1 n w ls du z0 s m j ∧ nxt n w ls du (m, s.2) = none) ?_ FUEL (a0, []) ⟨m0, 0, h0⟩ ?_
  · rintro k ⟨a, out⟩ ⟨m, j, G⟩
    have hR := G.r
    have hc := G.c
    have ht := G.t
    simp only at hR hc ht ⊢
    rw [resume_Schedule.l0, ready_ok g hR, Option.bind_some, worker_ok' hR (by omega), Option.bind_some]
    by_cases hp : 0 ≤ nextD n ls m ∧ 0 ≤ nextW w m
    · have hd0 : nextD n ls m < n ∧ m.b (nextD n ls m) = false := by
        rcases fst_spec (n := n) (P := rdy ls m) with ⟨e, _⟩ | ⟨_, b, c, _⟩
        · unfold nextD at hp; omega
        · refine ⟨b, ?_⟩
          unfold rdy at c
          simp only [Bool.and_eq_true, Bool.not_eq_true'] at c
          exact c.1
      have hw0 : nextW w m < w := by
        rcases fst_spec (n := w) (P := fun i => decide (m.f i ≤ m.t)) with ⟨e, _⟩ | ⟨_, b, c, _⟩
        · unfold nextW at hp; omega
        · exact b
      have hnx : nxt n w ls du (m, out) = some (place du m (nextD n ls m) (nextW w m), out ++ [api_Slot.mk (nextD n ls m) (nextW w m) m.t (m.t + du (nextD n ls m))]) := by unfold nxt; rw [if_pos hp]
      obtain ⟨p1, p2⟩ := hp
      obtain ⟨q1, q2⟩ := hd0
      have hdd := hdu (nextD n ls m)
      have hG := G.f
      simp only at hG
      generalize nextD n ls m = d at *
      generalize nextW w m = v at *
      have hcu := count_upd (l := a.begun) (k := d) (by rw [hR.b.2 _ p1 q1, q2])
      have hwu : wu (m.t + du d) = m.t + du d := wu_id (by omega) (by omega)
      have hs' := hR.s.set p1 (api_Slot.mk d v m.t (m.t + du d))
      rw [if_pos (by simp [p1, p2]), hR.b.2 _ p1 q1, Option.bind_some, hd.2 _ p1 q1, Option.bind_some, hR.s.2 _ p1 q1, Option.bind_some, hR.t, hwu, hs'.2 _ p1 q1, Option.bind_some, hR.f.2 _ p2 hw0, Option.bind_some, fset_self, app_ok (by simp; omega), Option.bind_some]
      have hlen : ((out ++ [api_Slot.mk d v m.t (m.t + du d)]).length : Int) = out.length + 1 := by simp
      refine .inl ⟨(resume_scheduler.mk a.links (upd a.slot d (api_Slot.mk d v m.t (m.t + du d))) (upd a.begun d true) (upd a.free v (m.t + du d)) m.t, out ++ [api_Slot.mk d v m.t (m.t + du d)]), ⟨place du m d v, j + 1, ⟨⟨hR.l, hR.b.set p1 true, hs', hR.f.set p2 _, rfl⟩, it_succ _ _ _ (by rw [G.it]; exact hnx), ?_, ?_, ?_⟩⟩, ?_, rfl⟩
      · simp only [List.length_append, List.length_singleton]; omega
      · simp only; rw [hlen]; unfold place; simp only; omega
      · intro i; simp only; rw [hlen]; unfold place fset; have := hG i; simp only; split <;> omega
      · simp only
        have hle : ((upd a.free v (m.t + du d)).filter (fun x => !decide (x ≤ m.t))).length ≤ (a.free.filter (fun x => !decide (x ≤ m.t))).length + 1 := by
          exact filter_set_le _ _ _ _
        omega
    · rw [if_neg (by simpa using hp), advance_ok hR (by omega)]
      have hnx : nxt n w ls du (m, out) = match lowest (running w m) with | none => none | some t => some (⟨m.b, m.s, m.f, t⟩, out) := by unfold nxt; rw [if_neg hp] <;> rfl
      cases hlow : lowest (running w m) with
      | none =>
        rw [hlow] at hnx
        exact .inr ⟨j, (a, out), m, rfl, G, hnx⟩
      | some t =>
        rw [hlow] at hnx
        obtain ⟨hm1, hm2⟩ := lowest_spec hlow
        have he := hR.f.eq
        have hmem : t ∈ a.free.filter (fun x => !decide (x ≤ a.now)) := by rw [he, hR.t]; exact hm1
        obtain ⟨hf1, hf2⟩ := List.mem_filter.1 hmem
        have htn : a.now < t := by simpa using hf2
        have htb : 0 ≤ t ∧ t ≤ (out.length : Int) * 9007199254740992 := by
          rw [he] at hf1
          obtain ⟨i, _, rfl⟩ := List.mem_map.1 hf1
          exact G.f i
        refine .inl ⟨(resume_scheduler.mk a.links a.slot a.begun a.free t, out), ⟨⟨m.b, m.s, m.f, t⟩, j + 1, ⟨⟨hR.l, hR.b, hR.s, hR.f, rfl⟩, it_succ _ _ _ (by rw [G.it]; exact hnx), hc, htb, G.f⟩⟩, ?_, rfl⟩
        simp only
        have hlt : (a.free.filter (fun x => !decide (x ≤ t))).length < (a.free.filter (fun x => !decide (x ≤ a.now))).length := by
          have e : a.free.filter (fun x => !decide (x ≤ t)) = (a.free.filter (fun x => !decide (x ≤ a.now))).filter (fun x => !decide (x ≤ t)) := by
            rw [List.filter_filter]
            apply List.filter_congr
            intro x _
            by_cases q : x ≤ t
            · simp [q]
            · simp [q]; omega
          rw [e]
          exact List.length_filter_lt_length_iff_exists.2 ⟨t, hmem, by simp⟩
        omega
  · have h1 := h0.c
    have h2 := h0.r.f.1
    have h3 : (a0.free.filter (fun x => !decide (x ≤ a0.now))).length ≤ a0.free.length := List.length_filter_le _ _
    simp only [List.length_nil] at h1 ⊢
    simp only at h2
    exact FUEL_pos (by omega)
end Go.Proofs.Ythmjgadmadlpkaa.Sim

namespace Go.Proofs.Ythmjgadmadlpkaa.Sim
open Go
set_option linter.unusedVariables false
set_option maxRecDepth 100000

theorem fst_lt {n : Nat} {P : Int → Bool} (h : 0 ≤ fst n P) : fst n P < n ∧ P (fst n P) = true ∧ ∀ u : Int, 0 ≤ u → u < fst n P → P u = false := by
  rcases fst_spec (n := n) (P := P) with ⟨e, _⟩ | ⟨_, b, c, d⟩
  · omega
  · exact ⟨b, c, d⟩
theorem fst_neg {n : Nat} {P : Int → Bool} (h : ¬ 0 ≤ fst n P) : ∀ u : Int, 0 ≤ u → u < n → P u = false := by
  rcases fst_spec (n := n) (P := P) with ⟨_, a⟩ | ⟨a, _⟩
  · exact a
  · exact absurd a h
theorem over_iff {m : Ms} {k : Int} : over m k = true ↔ m.b k = true ∧ (m.s k).End ≤ m.t := by unfold over; simp
theorem rdy_iff {ls : List api_Link} {m : Ms} {d : Int} : rdy ls m d = true ↔ m.b d = false ∧ ∀ l ∈ ls, l.Consumer = d → m.b l.Supplier = true ∧ (m.s l.Supplier).End ≤ m.t := by
  unfold rdy
  simp only [Bool.and_eq_true, Bool.not_eq_true', List.all_eq_true, Bool.or_eq_true, beq_eq_false_iff_ne, over_iff]
  constructor
  · rintro ⟨h1, h2⟩
    exact ⟨h1, fun l hl hc => (h2 l hl).resolve_left (fun hn => hn hc)⟩
  · rintro ⟨h1, h2⟩
    refine ⟨h1, fun l hl => ?_⟩
    by_cases hc : l.Consumer = d
    · exact .inr (h2 l hl hc)
    · exact .inl hc
theorem rdy_not {ls : List api_Link} {m : Ms} {d : Int} (h : rdy ls m d = false) (hb : m.b d = false) : ∃ l ∈ ls, l.Consumer = d ∧ (m.b l.Supplier = true → m.t < (m.s l.Supplier).End) := by
  refine Classical.byContradiction fun hno => ?_
  have : rdy ls m d = true := rdy_iff.2 ⟨hb, fun l hl hc => by
    refine Classical.byContradiction fun hn => hno ⟨l, hl, hc, fun hbs => ?_⟩
    refine Classical.byContradiction fun hlt => hn ⟨hbs, by omega⟩⟩
  rw [this] at h; cases h
theorem mem_running {w : Nat} {m : Ms} {x : Int} : x ∈ running w m ↔ ∃ k : Int, 0 ≤ k ∧ k < w ∧ m.f k = x ∧ m.t < x := by
  unfold running
  simp only [List.mem_filter, List.mem_map, mem_below]
  constructor
  · rintro ⟨⟨k, ⟨h0, h1⟩, rfl⟩, h⟩; exact ⟨k, h0, h1, rfl, by simpa using h⟩
  · rintro ⟨k, h0, h1, rfl, h⟩; exact ⟨⟨k, ⟨h0, h1⟩, rfl⟩, by simpa using h⟩
theorem lowest_none {l : List Int} (h : lowest l = none) : l = [] := by
  cases l with
  | nil => rfl
  | cons a t =>
    exfalso
    have key : ∀ (l : List Int), l ≠ [] → ∃ m ∈ l, ∀ x ∈ l, m ≤ x := by
      intro l
      induction l with
      | nil => intro h; exact absurd rfl h
      | cons a t ih =>
        intro _
        by_cases ht : t = []
        · subst ht; exact ⟨a, by simp, by simp⟩
        · obtain ⟨m, h1, h2⟩ := ih ht
          by_cases ha : a ≤ m
          · refine ⟨a, by simp, fun x hx => ?_⟩
            rcases List.mem_cons.1 hx with e | e
            · omega
            · have := h2 x e; omega
          · refine ⟨m, List.mem_cons_of_mem _ h1, fun x hx => ?_⟩
            rcases List.mem_cons.1 hx with e | e
            · omega
            · exact h2 x e
    obtain ⟨m, h1, h2⟩ := key (a :: t) (by simp)
    rw [lowest_of h1 h2] at h; cases h

/-- One step: a device begins, or time moves. -/
theorem nxt_cases {n w : Nat} {ls : List api_Link} {du : Int → Int} {m : Ms} {out : List api_Slot} {z' : Ms × List api_Slot} (h : nxt n w ls du (m, out) = some z') :
    (∃ d k : Int, d = nextD n ls m ∧ k = nextW w m ∧ (0 ≤ d ∧ d < n) ∧ (0 ≤ k ∧ k < w) ∧ rdy ls m d = true ∧ m.f k ≤ m.t ∧ z' = (place du m d k, out ++ [api_Slot.mk d k m.t (m.t + du d)])) ∨
    (∃ t, ¬ (0 ≤ nextD n ls m ∧ 0 ≤ nextW w m) ∧ t ∈ running w m ∧ (∀ x ∈ running w m, t ≤ x) ∧ m.t < t ∧ z' = (⟨m.b, m.s, m.f, t⟩, out)) := by
  unfold nxt at h
  split at h
  · rename_i hp
    obtain ⟨h1, h2⟩ := hp
    simp only at h1 h2 h
    obtain ⟨a1, a2, a3⟩ := fst_lt h1
    obtain ⟨b1, b2, b3⟩ := fst_lt h2
    exact .inl ⟨_, _, rfl, rfl, ⟨h1, a1⟩, ⟨h2, b1⟩, a2, of_decide_eq_true b2, (Option.some.inj h).symm⟩
  · rename_i hp
    simp only at h hp
    cases hl : lowest (running w m) with
    | none => rw [hl] at h; cases h
    | some t =>
      rw [hl] at h
      obtain ⟨a, b⟩ := lowest_spec hl
      obtain ⟨k, _, _, _, ht⟩ := mem_running.1 a
      exact .inr ⟨t, hp, a, b, ht, (Option.some.inj h).symm⟩
theorem nxt_none {n w : Nat} {ls : List api_Link} {du : Int → Int} {m : Ms} {out : List api_Slot} (h : nxt n w ls du (m, out) = none) : ¬ (0 ≤ nextD n ls m ∧ 0 ≤ nextW w m) ∧ running w m = [] := by
  unfold nxt at h
  split at h
  · cases h
  · rename_i hp
    refine ⟨hp, ?_⟩
    simp only at h
    cases hl : lowest (running w m) with
    | none => exact lowest_none hl
    | some t => rw [hl] at h; cases h

def z00 : Ms × List api_Slot := (⟨fun _ => false, fun _ => api_Slot.mk 0 0 0 0, fun _ => 0, 0⟩, [])

structure Inv (n w : Nat) (ls : List api_Link) (du : Int → Int) (m : Ms) (out : List api_Slot) : Prop where
  t0 : 0 ≤ m.t
  f0 : ∀ k, 0 ≤ m.f k
  dev : ∀ x ∈ out, 0 ≤ x.Device ∧ x.Device < n
  wrk : ∀ x ∈ out, 0 ≤ x.Worker ∧ x.Worker < w
  len : ∀ x ∈ out, x.End = x.Start + du x.Device
  st : ∀ x ∈ out, 0 ≤ x.Start ∧ x.Start ≤ m.t
  sl : ∀ x ∈ out, m.b x.Device = true ∧ m.s x.Device = x
  bs : ∀ d, m.b d = true → m.s d ∈ out ∧ (m.s d).Device = d
  nd : (out.map api_Slot.Device).Nodup
  fle : ∀ x ∈ out, x.End ≤ m.f x.Worker
  fex : ∀ k, m.f k = 0 ∨ ∃ x ∈ out, x.Worker = k ∧ x.End = m.f k
  ord : out.Pairwise (fun x y => x.Start ≤ y.Start ∧ (x.Worker = y.Worker → x.End ≤ y.Start))
  lnk : ∀ l ∈ ls, m.b l.Consumer = true → m.b l.Supplier = true ∧ (m.s l.Supplier).End ≤ (m.s l.Consumer).Start
  org : ∀ x ∈ out, x.Start = 0 ∨ ∃ y ∈ out, y.End = x.Start
  torg : m.t = 0 ∨ ∃ y ∈ out, y.End = m.t

section
variable {n w : Nat} {ls : List api_Link} {du : Int → Int}

theorem Inv.start : Inv n w ls du z00.1 z00.2 := by
  unfold z00
  refine ⟨Int.le_refl _, fun _ => Int.le_refl _, ?_, ?_, ?_, ?_, ?_, ?_, List.nodup_nil, ?_, fun _ => .inl rfl, List.Pairwise.nil, ?_, ?_, .inl rfl⟩ <;> simp

theorem Inv.step (hdu : ∀ i, 0 ≤ du i) {m : Ms} {out : List api_Slot} (I : Inv n w ls du m out) {z' : Ms × List api_Slot} (h : nxt n w ls du (m, out) = some z') : Inv n w ls du z'.1 z'.2 := by
  rcases nxt_cases h with ⟨d, k, _, _, hd, hk, hr, hf, rfl⟩ | ⟨t, _, ht, hlo, hlt, rfl⟩
  · obtain ⟨hb, hsup⟩ := rdy_iff.1 hr
    have hd0 := hdu d
    have hnew : ∀ x ∈ out, x.Device ≠ d := fun x hx e => by
      have := (I.sl x hx).1
      rw [e, hb] at this; cases this
    have ht0 := I.t0
    have hmem : ∀ {P : api_Slot → Prop}, (∀ x ∈ out, P x) → P (api_Slot.mk d k m.t (m.t + du d)) → ∀ x ∈ out ++ [api_Slot.mk d k m.t (m.t + du d)], P x := fun h1 h2 x hx => by
      rcases List.mem_append.1 hx with h | h
      · exact h1 x h
      · simp only [List.mem_singleton] at h; subst h; exact h2
    have hin : ∀ {x : api_Slot}, x ∈ out → x ∈ out ++ [api_Slot.mk d k m.t (m.t + du d)] := fun h => List.mem_append.2 (.inl h)
    have hlast : api_Slot.mk d k m.t (m.t + du d) ∈ out ++ [api_Slot.mk d k m.t (m.t + du d)] := List.mem_append.2 (.inr (by simp))
    unfold place
    constructor
    · exact ht0
    · intro j; simp only [fset]; split
      · omega
      · exact I.f0 j
    · exact hmem I.dev hd
    · exact hmem I.wrk hk
    · exact hmem I.len rfl
    · exact hmem I.st ⟨ht0, Int.le_refl _⟩
    · refine hmem (fun x hx => ?_) ?_
      · have := I.sl x hx
        simp only [fset, if_neg (hnew x hx)]; exact this
      · simp [fset]
    · intro j hj
      simp only [fset] at hj ⊢
      by_cases e : j = d
      · subst e; simp
      · rw [if_neg e] at hj ⊢
        have := I.bs j hj
        exact ⟨hin this.1, this.2⟩
    · simp only [List.map_append, List.map_cons, List.map_nil]
      rw [List.nodup_append]
      refine ⟨I.nd, by simp, fun a ha b hb' => ?_⟩
      simp only [List.mem_singleton] at hb'
      obtain ⟨x, hx, rfl⟩ := List.mem_map.1 ha
      rw [hb']; exact hnew x hx
    · refine hmem (fun x hx => ?_) (by simp [fset])
      simp only [fset]
      split
      · rename_i e
        have := I.fle x hx
        rw [e] at this; omega
      · exact I.fle x hx
    · intro j
      simp only [fset]
      by_cases e : j = k
      · rw [if_pos e]; exact .inr ⟨_, hlast, e.symm, rfl⟩
      · rw [if_neg e]
        rcases I.fex j with h | ⟨x, hx, h1, h2⟩
        · exact .inl h
        · exact .inr ⟨x, hin hx, h1, h2⟩
    · rw [List.pairwise_append]
      refine ⟨I.ord, List.pairwise_singleton _ _, fun x hx y hy => ?_⟩
      simp only [List.mem_singleton] at hy
      subst hy
      refine ⟨(I.st x hx).2, fun e => ?_⟩
      have := I.fle x hx
      simp only at e ⊢
      rw [e] at this; omega
    · intro l hl hc
      simp only [fset] at hc ⊢
      by_cases e : l.Consumer = d
      · obtain ⟨h1, h2⟩ := hsup l hl e
        have hne : l.Supplier ≠ d := fun e' => by rw [e', hb] at h1; cases h1
        rw [if_neg hne, if_neg hne, if_pos e]
        exact ⟨h1, h2⟩
      · rw [if_neg e] at hc ⊢
        obtain ⟨h1, h2⟩ := I.lnk l hl hc
        have hne : l.Supplier ≠ d := fun e' => by rw [e', hb] at h1; cases h1
        rw [if_neg hne, if_neg hne]
        exact ⟨h1, h2⟩
    · refine hmem (fun x hx => ?_) ?_
      · rcases I.org x hx with h | ⟨y, hy, h⟩
        · exact .inl h
        · exact .inr ⟨y, hin hy, h⟩
      · rcases I.torg with h | ⟨y, hy, h⟩
        · exact .inl h
        · exact .inr ⟨y, hin hy, h⟩
    · rcases I.torg with h | ⟨y, hy, h⟩
      · exact .inl h
      · exact .inr ⟨y, hin hy, h⟩
  · obtain ⟨k, _, _, hfk, _⟩ := mem_running.1 ht
    have ht0 := I.t0
    refine ⟨by simp only; omega, I.f0, I.dev, I.wrk, I.len, fun x hx => ⟨(I.st x hx).1, by have := (I.st x hx).2; simp only; omega⟩, I.sl, I.bs, I.nd, I.fle, I.fex, I.ord, I.lnk, I.org, ?_⟩
    rcases I.fex k with h | ⟨x, hx, _, h2⟩
    · omega
    · exact .inr ⟨x, hx, by rw [h2, hfk]⟩

theorem it_ind {P : Ms → List api_Slot → Prop} (hs : ∀ m out z', P m out → nxt n w ls du (m, out) = some z' → P z'.1 z'.2) : ∀ (k : Nat) (z : Ms × List api_Slot), P z.1 z.2 → P (it n w ls du k z).1 (it n w ls du k z).2
  | 0, z, h => h
  | k + 1, z, h => by
    rw [it]
    cases hz : nxt n w ls du z with
    | none => exact h
    | some z' => exact it_ind hs k z' (hs z.1 z.2 z' h hz)
theorem Inv.it (hdu : ∀ i, 0 ≤ du i) (k : Nat) : Inv n w ls du (it n w ls du k z00).1 (it n w ls du k z00).2 := it_ind (fun m out z' I h => I.step hdu h) k z00 Inv.start

/-- Slots as what has begun. -/
theorem Inv.begun_of {m : Ms} {out : List api_Slot} (I : Inv n w ls du m out) {d : Int} (h : m.b d = true) : (m.s d) ∈ out ∧ (m.s d).Device = d ∧ 0 ≤ d ∧ d < n := by
  obtain ⟨h1, h2⟩ := I.bs d h
  have := I.dev _ h1
  rw [h2] at this
  exact ⟨h1, h2, this⟩
theorem Inv.over_run {m : Ms} {out : List api_Slot} (I : Inv n w ls du m out) {x : api_Slot} (hx : x ∈ out) (ht : m.t < x.End) : x.End ∈ running w m := by
  refine mem_running.2 ⟨x.Worker, (I.wrk x hx).1, (I.wrk x hx).2, ?_, ht⟩
  rcases I.fex x.Worker with h | ⟨y, hy, h1, h2⟩
  · have := I.fle x hx; have := I.t0; omega
  · rw [← h2]
    refine Classical.byContradiction fun hne => ?_
    have hle := I.fle x hx
    have hne' : x ≠ y := fun e => hne (by rw [e])
    have := I.ord
    rcases List.getElem_of_mem hx with ⟨i, hi, ei⟩
    rcases List.getElem_of_mem hy with ⟨j, hj, ej⟩
    have hp := List.pairwise_iff_getElem.1 this
    rcases Nat.lt_trichotomy i j with h | h | h
    · have := (hp i j hi hj h).2 (by rw [ei, ej, h1])
      rw [ei, ej] at this
      have := (I.st y hy).2
      omega
    · subst h; rw [ei] at ej; exact hne' ej
    · have h3 := (hp j i hj hi h).2 (by rw [ei, ej, h1])
      rw [ei, ej] at h3
      have := (I.st x hx).2
      have := (I.st y hy).1
      rw [h2] at h3
      have hf0 := I.fle x hx
      have : du x.Device ≥ 0 ∨ du x.Device < 0 := by omega
      have := I.len x hx
      omega
theorem Inv.out_le {m : Ms} {out : List api_Slot} (I : Inv n w ls du m out) : out.length ≤ n := by
  have := nodup_le I.nd (s := below n) (fun x hx => by
    obtain ⟨y, hy, rfl⟩ := List.mem_map.1 hx
    exact mem_below.2 (I.dev y hy))
  rw [below_length] at this
  simpa using this
end

/-- The end: everything has begun and ended. -/
structure Done (n w : Nat) (ls : List api_Link) (du : Int → Int) (m : Ms) (out : List api_Slot) : Prop where
  inv : Inv n w ls du m out
  all : ∀ d : Int, 0 ≤ d → d < n → m.b d = true
  ends : ∀ x ∈ out, x.End ≤ m.t
  len : out.length = n

theorem not_full_link {n : Nat} {ls : List api_Link} (hfull : ¬ (ord n ls).length < n) {B : Int → Bool} (h : ∀ d : Int, 0 ≤ d → d < n → B d = false → ∃ l ∈ ls, l.Consumer = d ∧ B l.Supplier = false) : ∀ d : Int, 0 ≤ d → d < n → B d = true := by
  have hr := (ord_run n ls).1
  have key : ∀ out, Run n ls out → ∀ v ∈ out, B v = true := by
    intro out ho
    induction ho with
    | nil => simp
    | @snoc out v ho hv ih =>
      intro u hu
      rcases List.mem_append.1 hu with hu | hu
      · exact ih u hu
      · simp only [List.mem_singleton] at hu; subst hu
        obtain ⟨h0, h1, h2, _⟩ := least_some hv
        obtain ⟨_, h3⟩ := free_iff.1 h2
        cases hB : B u with
        | true => rfl
        | false =>
          obtain ⟨l, hl, hc, hs⟩ := h u h0 h1 hB
          have := ih _ (h3 l hl hc)
          rw [hs] at this; cases this
  exact fun d h0 h1 => key _ hr d (ord_full hfull h0 h1)

theorem done_of {n w : Nat} {ls : List api_Link} {du : Int → Int} (hw : 0 < w) (hfull : ¬ (ord n ls).length < n) (g : GoodG n ls) {m : Ms} {out : List api_Slot} (I : Inv n w ls du m out) (h : nxt n w ls du (m, out) = none) : Done n w ls du m out := by
  obtain ⟨h1, h2⟩ := nxt_none h
  have hends : ∀ x ∈ out, x.End ≤ m.t := fun x hx => by
    refine Classical.byContradiction fun hn => ?_
    have := I.over_run hx (by omega)
    rw [h2] at this; cases this
  have hwk : 0 ≤ nextW w m := by
    refine Classical.byContradiction fun hn => ?_
    have := fst_neg hn 0 (by omega) (by omega)
    simp only [decide_eq_false_iff_not] at this
    have : m.f 0 ∈ running w m := mem_running.2 ⟨0, by omega, by omega, rfl, by omega⟩
    rw [h2] at this; cases this
  have hnr := fst_neg (fun hd => h1 ⟨hd, hwk⟩)
  have hall : ∀ d : Int, 0 ≤ d → d < n → m.b d = true := not_full_link hfull fun d d0 d1 hb => by
    obtain ⟨l, hl, hc, hs⟩ := rdy_not (hnr d d0 d1) hb
    refine ⟨l, hl, hc, ?_⟩
    cases hB : m.b l.Supplier with
    | false => rfl
    | true =>
      have := hs hB
      have := hends _ (I.bs _ hB).1
      omega
  refine ⟨I, hall, hends, Nat.le_antisymm I.out_le ?_⟩
  have := nodup_le (below_nodup n) (s := out.map api_Slot.Device) (fun x hx => by
    obtain ⟨x0, x1⟩ := mem_below.1 hx
    obtain ⟨a, b⟩ := I.bs x (hall x x0 x1)
    exact List.mem_map.2 ⟨_, a, b⟩)
  rw [below_length] at this
  simpa using this
end Go.Proofs.Ythmjgadmadlpkaa.Sim

namespace Go.Proofs.Ythmjgadmadlpkaa.Sim
open Go
set_option linter.unusedVariables false
set_option maxRecDepth 100000

def big (x : Int) : Bool := decide (9007199254740992 < x)
def scode (p : Int) (ls : List api_Link) (dl : List Int) (w : Int) : Int :=
  if ccode p ls ≠ 0 then ccode p ls else if (dl.length : Int) = p ∧ dl.any big = false ∧ 1 ≤ w ∧ w ≤ 16 then 0 else 1

theorem check31_ok (p : Int) (ls : List api_Link) (dl : List Int) (w : Int) (h : ls.length ≤ maxLen) (hd : dl.length ≤ maxLen) : resume_check.f p ls dl w = some (scode p ls dl w) := by
  unfold resume_check.f
  rw [check_ok p ls h, Option.bind_some]
  by_cases h1 : ccode p ls = 0
  · have e : scode p ls dl w = if (dl.length : Int) = p ∧ dl.any big = false ∧ 1 ≤ w ∧ w ≤ 16 then 0 else 1 := by unfold scode; rw [if_neg (by simp [h1])]
    rw [e, if_neg (by simp [h1])]
    by_cases h2 : (dl.length : Int) = p
    · rw [if_neg (by simp [h2]), search_ok (L := resume_check.l0 dl) dl big 1 hd (fun k i => by rw [resume_check.l0]; rfl)]
      cases h3 : dl.any big
      · simp only [Bool.false_eq_true, if_false, Option.bind_some, Fl.go]
        by_cases h4 : 1 ≤ w ∧ w ≤ 16
        · rw [if_neg (by simp; omega), if_pos ⟨h2, trivial, h4⟩]
        · rw [if_pos (by simp; omega), if_neg (fun c => h4 c.2.2)]
      · simp only [if_true, Option.bind_some, Fl.go]
        rw [if_neg (fun c => by cases c.2.1)]
    · rw [if_pos (by simpa using h2), if_neg (fun c => h2 c.1)]
  · have e : scode p ls dl w = ccode p ls := by unfold scode; rw [if_pos h1]
    rw [e, if_pos (by simpa using h1)]

/-- What the checks of a schedule let pass. -/
structure GoodS (n w : Nat) (ls : List api_Link) (dl : List Int) : Prop where
  g : GoodG n ls
  full : ¬ (ord n ls).length < n
  dn : dl.length = n
  d0 : ∀ x ∈ dl, 0 ≤ x ∧ x ≤ 9007199254740992
  w0 : 0 < w
  w1 : w ≤ 16
theorem scode_good {p : Int} {ls : List api_Link} {dl : List Int} {w : Int} (h : scode p ls dl w = 0) (hd : ∀ x ∈ dl, 0 ≤ x) : ∃ n v : Nat, p = n ∧ w = v ∧ GoodS n v ls dl := by
  unfold scode at h
  by_cases h1 : ccode p ls = 0
  · rw [if_neg (by simp [h1])] at h
    by_cases h2 : (dl.length : Int) = p ∧ dl.any big = false ∧ 1 ≤ w ∧ w ≤ 16
    · obtain ⟨a, b, c, d⟩ := h2
      have hv : vcode p ls = 0 := by
        unfold ccode at h1
        split at h1
        · assumption
        · exact h1
      obtain ⟨n, rfl, g⟩ := vcode_good hv
      rw [ccode_good g] at h1
      refine ⟨n, w.toNat, rfl, by omega, g, ?_, by omega, fun x hx => ⟨hd x hx, ?_⟩, by omega, by omega⟩
      · intro hlt; rw [if_pos hlt] at h1; cases h1
      · have := List.any_eq_false.1 b x hx
        simpa [big] using this
    · rw [if_neg h2] at h; cases h
  · rw [if_pos h1] at h; exact absurd h h1
theorem good_scode {n w : Nat} {ls : List api_Link} {dl : List Int} (S : GoodS n w ls dl) : scode n ls dl w = 0 := by
  have h1 : ccode (n : Int) ls = 0 := by rw [ccode_good S.g, if_neg S.full]
  unfold scode
  rw [if_neg (by simp [h1]), if_pos]
  refine ⟨by rw [S.dn], ?_, by have := S.w0; omega, by have := S.w1; omega⟩
  rw [List.any_eq_false]
  intro x hx
  simp [big]
  exact (S.d0 x hx).2

def duf (dl : List Int) (i : Int) : Int := (idx dl i).getD 0
theorem duf_rep {dl : List Int} {n : Nat} (h : dl.length = n) : RepV n dl (duf dl) := ⟨h, fun i h0 h1 => by
  obtain ⟨x, hx, _⟩ := idx_of (xs := dl) h0 (by omega)
  unfold duf; rw [hx]; rfl⟩
theorem duf_range {dl : List Int} (h : ∀ x ∈ dl, 0 ≤ x ∧ x ≤ 9007199254740992) (i : Int) : 0 ≤ duf dl i ∧ duf dl i ≤ 9007199254740992 := by
  unfold duf
  by_cases hi : 0 ≤ i ∧ i < dl.length
  · obtain ⟨x, hx, hm⟩ := idx_of (xs := dl) hi.1 hi.2
    rw [hx]; exact h x hm
  · have : idx dl i = none := by
      cases hx : idx dl i with
      | none => rfl
      | some x => exact absurd ⟨idx_lo hx, idx_hi hx⟩ hi
    rw [this]; simp

theorem Go1.zero {n w : Nat} {ls : List api_Link} {du : Int → Int} : Go1 n w ls du z00 (resume_scheduler.mk ls (List.replicate n (api_Slot.mk 0 0 0 0)) (List.replicate n false) (List.replicate w 0) 0, []) z00.1 0 := by
  refine ⟨⟨rfl, RepV.rep n false, RepV.rep n _, RepV.rep w 0, rfl⟩, rfl, ?_, ?_, ?_⟩
  · simp
  · simp [z00]
  · intro i; simp [z00]

/-- The schedule: where the machine's steps end. -/
structure Sched (n w : Nat) (ls : List api_Link) (du : Int → Int) (m : Ms) (out : List api_Slot) : Prop where
  st : ∃ j, it n w ls du j z00 = (m, out)
  no : nxt n w ls du (m, out) = none
  dn : Done n w ls du m out
theorem Sched.same {n w : Nat} {ls : List api_Link} {du : Int → Int} {m m' : Ms} {out out' : List api_Slot} (a : Sched n w ls du m out) (b : Sched n w ls du m' out') : m = m' ∧ out = out' := by
  obtain ⟨j, hj⟩ := a.st
  obtain ⟨k, hk⟩ := b.st
  have := it_same (n := n) (w := w) (ls := ls) (du := du) j k z00 (by rw [hj]; exact a.no) (by rw [hk]; exact b.no)
  rw [hj, hk] at this
  injection this with h1 h2
  exact ⟨h1, h2⟩
theorem Sched.mk' {n w : Nat} {ls : List api_Link} {dl : List Int} (S : GoodS n w ls dl) {m : Ms} {out : List api_Slot} {j : Nat} (h : it n w ls (duf dl) j z00 = (m, out)) (hn : nxt n w ls (duf dl) (m, out) = none) : Sched n w ls (duf dl) m out := by
  have I := Inv.it (n := n) (w := w) (ls := ls) (du := duf dl) (fun i => (duf_range S.d0 i).1) j
  rw [h] at I
  exact ⟨⟨j, h⟩, hn, done_of S.w0 S.full S.g I hn⟩
theorem Sched.bound {n w : Nat} {ls : List api_Link} {dl : List Int} (S : GoodS n w ls dl) {m : Ms} {out : List api_Slot} (D : Done n w ls (duf dl) m out) : ∀ x ∈ out, 0 ≤ x.Start ∧ x.Start ≤ x.End := fun x hx => by
  have h1 := D.inv.st x hx
  have h2 := D.inv.len x hx
  have h3 := (duf_range S.d0 x.Device).1
  omega

theorem sched_good {n w : Nat} {ls : List api_Link} {dl : List Int} (S : GoodS n w ls dl) : ∃ m out, resume_Schedule.f n ls dl w = some (out, 0) ∧ Sched n w ls (duf dl) m out ∧ m.t ≤ 128 * 9007199254740992 := by
  have hn := S.g.n128
  have hw := S.w1
  unfold resume_Schedule.f
  rw [check31_ok _ _ _ _ (by have := S.g.len; rw [maxLen_eq]; omega) (by rw [S.dn, maxLen_eq]; omega), good_scode S, Option.bind_some, if_neg (by simp), mk_ok (by omega), Option.bind_some, mk_ok (by omega), Option.bind_some, mk_ok (by omega), Option.bind_some]
  obtain ⟨j, s, m, e, G, hno⟩ := sched_ok S.g (duf_rep S.dn) (duf_range S.d0) (by omega) (Go1.zero (n := n) (w := w) (ls := ls) (du := duf dl))
  rw [e]
  refine ⟨m, s.2, rfl, Sched.mk' S G.it hno, ?_⟩
  have h1 := G.t.2
  have h2 := G.c
  have h3 : (s.2.length : Int) * 9007199254740992 ≤ 128 * 9007199254740992 := Int.mul_le_mul_of_nonneg_right (by omega) (by omega)
  omega
theorem sched_bad {p : Int} {ls : List api_Link} {dl : List Int} {w : Int} (h : ls.length ≤ maxLen) (hd : dl.length ≤ maxLen) (hs : scode p ls dl w ≠ 0) : resume_Schedule.f p ls dl w = some ([], scode p ls dl w) := by
  unfold resume_Schedule.f
  rw [check31_ok _ _ _ _ h hd, Option.bind_some, if_pos (by simpa using hs)]

theorem u64_range {x : Int} (h : (Lit.int .u64 x).wf = true) : 0 ≤ x ∧ x < 18446744073709551616 := by
  simp [Lit.wf, IntKind.min, IntKind.max, IntKind.signed, IntKind.bits] at h; omega

/-! ### the durations of the statements -/

theorem durations_ok (n : Nat) (hn : n ≤ 128) (p1 : List Int) (h : ∀ x ∈ p1, 0 ≤ x) (hl : p1.length ≤ maxLen) : ∃ dl, law31_durations.f n p1 = some dl ∧ dl.length = n ∧ ∀ x ∈ dl, 0 ≤ x ∧ x ≤ 11 := by
  rw [maxLen_eq] at hl
  unfold law31_durations.f
  rw [mk_ok (by omega), Option.bind_some]
  have key : ∃ dl, law31_durations.l0 n p1 FUEL (List.replicate n 0) 0 = some dl ∧ dl.length = n ∧ ∀ x ∈ dl, 0 ≤ x ∧ x ≤ 11 := by
    refine loop_c (L := fun k (s : List Int) i => law31_durations.l0 n p1 k s i) n (fun i s => s.length = n ∧ ∀ x ∈ s, 0 ≤ x ∧ x ≤ 11) (fun o => ∃ dl, o = some dl ∧ dl.length = n ∧ ∀ x ∈ dl, 0 ≤ x ∧ x ≤ 11) ?_ ?_ FUEL 0 _ (Nat.zero_le _) (FUEL_pos (by omega)) ⟨by simp, fun x hx => by rw [(List.mem_replicate.1 hx).2]; omega⟩
    · rintro k s i hi ⟨h1, h2⟩
      have hset : ∀ (l : List Int) (v : Int), (∀ x ∈ l, 0 ≤ x ∧ x ≤ 11) → (0 ≤ v ∧ v ≤ 11) → ∀ x ∈ upd l (i : Int) v, 0 ≤ x ∧ x ≤ 11 := fun l v h hv x hx => by
        unfold upd at hx
        rcases List.mem_or_eq_of_mem_set hx with h' | h'
        · exact h x h'
        · rw [h']; exact hv
      have h3 : wu (Int.tmod (i : Int) 3) = (i : Int) % 3 := by rw [Int.tmod_eq_emod_of_nonneg (by omega), wu_id (by omega) (by omega)]
      have hA := hset s ((i : Int) % 3) h2 (by omega)
      have hAl : (upd s (i : Int) ((i : Int) % 3)).length = n := by rw [upd_length]; exact h1
      rw [law31_durations.l0, if_pos (by simp; omega), idx_get (by omega), Option.bind_some, h3]
      by_cases hp : i < p1.length
      · rw [if_pos (by simp; omega), idx_get hp, Option.bind_some, idx_get (by omega), Option.bind_some, Option.bind_some]
        refine .inl ⟨upd (upd s (i : Int) ((i : Int) % 3)) (i : Int) (Int.tmod p1[i] 12), ⟨by rw [upd_length]; exact hAl, ?_⟩, by rw [wi_succ (by omega)]⟩
        have := h _ (List.getElem_mem hp)
        refine hset _ _ hA ?_
        rw [Int.tmod_eq_emod_of_nonneg this]; omega
      · rw [if_neg (by simp; omega), Option.bind_some]
        exact .inl ⟨_, ⟨hAl, hA⟩, by rw [wi_succ (by omega)]⟩
    · rintro k s ⟨h1, h2⟩
      rw [law31_durations.l0, if_neg (by simp)]
      exact ⟨s, rfl, h1, h2⟩
  obtain ⟨dl, e, h1⟩ := key
  rw [e]
  exact ⟨dl, rfl, h1⟩

/-- The graphs and durations of the statements. -/
theorem acyc_full {n : Nat} {ls : List api_Link} (g : Gr n ls true) : ¬ (ord n ls).length < n := fun hlt => by
  obtain ⟨r, hr⟩ := g.down rfl
  obtain ⟨i, _, _, hp⟩ := ord_cyclic g.good hlt
  have : ∀ {a b : Int}, Path ls a b → r b < r a := fun h => by
    induction h with
    | one h => exact hr _ h
    | more h _ ih => have := hr _ h; simp only at this; omega
  have := this hp
  omega
theorem goodS_of {n : Nat} {ls : List api_Link} (g : Gr n ls true) {dl : List Int} (h1 : dl.length = n) (h2 : ∀ x ∈ dl, 0 ≤ x ∧ x ≤ 11) {w : Nat} (w0 : 0 < w) (w1 : w ≤ 16) : GoodS n w ls dl :=
  ⟨g.good, acyc_full g, h1, fun x hx => by have := h2 x hx; omega, w0, w1⟩
theorem mod1_ok (x : Int) (k : Nat) (h0 : 0 < k) (h1 : k ≤ 15) : ∃ w : Nat, help_Mod.f x k = some ((w : Int) - 1) ∧ wi (1 + ((w : Int) - 1)) = w ∧ 0 < w ∧ w ≤ k := by
  obtain ⟨r, hr, a, b⟩ := mod_ok (x := x) (n := k) (by omega) (by omega)
  refine ⟨(r + 1).toNat, ?_, ?_, by omega, by omega⟩
  · rw [hr]; congr 1; omega
  · rw [wi_id (by omega) (by omega)]; omega
end Go.Proofs.Ythmjgadmadlpkaa.Sim

namespace Go.Proofs.Ythmjgadmadlpkaa.Sim
open Go
set_option linter.unusedVariables false
set_option maxRecDepth 100000

/-! ### sums -/

def sumB {α : Type} (f : α → Int) : List α → Int
  | [] => 0
  | a :: t => f a + sumB f t
theorem sumB_append {α : Type} (f : α → Int) : ∀ (a b : List α), sumB f (a ++ b) = sumB f a + sumB f b
  | [], b => by simp [sumB]
  | x :: a, b => by simp only [List.cons_append, sumB, sumB_append f a b]; omega
theorem sumB_perm {α : Type} (f : α → Int) {a b : List α} (h : a.Perm b) : sumB f a = sumB f b := by
  induction h with
  | nil => rfl
  | cons x _ ih => simp only [sumB, ih]
  | swap x y l => simp only [sumB]; omega
  | trans _ _ i j => rw [i, j]
theorem sumB_congr {α : Type} {f g : α → Int} : ∀ {a : List α}, (∀ x ∈ a, f x = g x) → sumB f a = sumB g a
  | [], _ => rfl
  | x :: a, h => by simp only [sumB]; rw [h x (by simp), sumB_congr (a := a) (fun y hy => h y (by simp [hy]))]
theorem sumB_map {α β : Type} (f : β → Int) (q : α → β) : ∀ (a : List α), sumB f (a.map q) = sumB (fun x => f (q x)) a
  | [] => rfl
  | x :: a => by simp only [List.map_cons, sumB, sumB_map f q a]

/-- The latest end of slots. -/
structure Mks (out : List api_Slot) (T : Int) : Prop where
  t0 : 0 ≤ T
  le : ∀ x ∈ out, x.End ≤ T
  ex : T = 0 ∨ ∃ x ∈ out, x.End = T
theorem Mks.uniq {out : List api_Slot} {T U : Int} (a : Mks out T) (b : Mks out U) : T = U := by
  have h1 := a.t0
  have h2 := b.t0
  have h3 : T ≤ U := by
    rcases a.ex with h | ⟨x, hx, h⟩
    · omega
    · have := b.le x hx; omega
  have h4 : U ≤ T := by
    rcases b.ex with h | ⟨x, hx, h⟩
    · omega
    · have := a.le x hx; omega
  omega
theorem Mks.nil : Mks [] 0 := ⟨Int.le_refl _, by simp, .inl rfl⟩
theorem Mks.snoc {out : List api_Slot} {T U : Int} (a : Mks out T) {x : api_Slot} (h : U = max T x.End) : Mks (out ++ [x]) U := by
  have := a.t0
  refine ⟨by omega, fun y hy => ?_, ?_⟩
  · rcases List.mem_append.1 hy with h' | h'
    · have := a.le y h'; omega
    · simp only [List.mem_singleton] at h'; subst h'; omega
  · by_cases c : T ≤ x.End
    · exact .inr ⟨x, by simp, by omega⟩
    · rcases a.ex with h' | ⟨y, hy, h'⟩
      · exact .inl (by omega)
      · exact .inr ⟨y, by simp [hy], by omega⟩
theorem makespan_ok (out : List api_Slot) (hl : out.length ≤ 4294967296) : ∃ T, resume_Makespan.f out = some T ∧ Mks out T := by
  unfold resume_Makespan.f
  have key : ∃ T, resume_Makespan.l0 out FUEL 0 0 = some T ∧ Mks out T := by
    refine loop_c (L := fun k (s : Int) i => resume_Makespan.l0 out k s i) out.length (fun i s => Mks (out.take i) s) (fun o => ∃ T, o = some T ∧ Mks out T) ?_ ?_ FUEL 0 0 (Nat.zero_le _) (FUEL_pos (by omega)) (by simpa using Mks.nil)
    · intro k s i hi hI
      rw [resume_Makespan.l0, if_pos (by simp; omega), idx_get hi, Option.bind_some]
      refine .inl ⟨max s out[i].End, ?_, by rw [wi_succ (by omega)]⟩
      rw [List.take_succ_eq_append_getElem hi]
      exact hI.snoc rfl
    · intro k s hI
      rw [resume_Makespan.l0, if_neg (by simp)]
      rw [List.take_length] at hI
      exact ⟨s, rfl, hI⟩
  obtain ⟨T, e, h⟩ := key
  rw [e]
  exact ⟨T, rfl, h⟩

/-- The longest chains that end at the devices. -/
structure CPath (n : Nat) (ls : List api_Link) (du h : Int → Int) : Prop where
  lo : ∀ d : Int, 0 ≤ d → d < n → du d ≤ h d
  ge : ∀ l ∈ ls, h l.Supplier + du l.Consumer ≤ h l.Consumer
  ex : ∀ d : Int, 0 ≤ d → d < n → h d = du d ∨ ∃ l ∈ ls, l.Consumer = d ∧ h d = h l.Supplier + du d
structure CMax (n : Nat) (h : Int → Int) (c : Int) : Prop where
  c0 : 0 ≤ c
  le : ∀ d : Int, 0 ≤ d → d < n → h d ≤ c
  ex : c = 0 ∨ ∃ d : Int, 0 ≤ d ∧ d < n ∧ h d = c
/-- Along the order. -/
theorem ord_ind {n : Nat} {ls : List api_Link} (hfull : ¬ (ord n ls).length < n) {P : Int → Prop} (h : ∀ d : Int, 0 ≤ d → d < n → (∀ l ∈ ls, l.Consumer = d → P l.Supplier) → P d) : ∀ d : Int, 0 ≤ d → d < n → P d := by
  have key : ∀ out, Run n ls out → ∀ v ∈ out, P v := by
    intro out ho
    induction ho with
    | nil => simp
    | @snoc out v ho hv ih =>
      intro u hu
      rcases List.mem_append.1 hu with hu | hu
      · exact ih u hu
      · simp only [List.mem_singleton] at hu; subst hu
        obtain ⟨h0, h1, h2, _⟩ := least_some hv
        obtain ⟨_, h3⟩ := free_iff.1 h2
        exact h u h0 h1 fun l hl hc => ih _ (h3 l hl hc)
  exact fun d h0 h1 => key _ (ord_run n ls).1 d (ord_full hfull h0 h1)
theorem CPath.le {n : Nat} {ls : List api_Link} {du h h' : Int → Int} (g : GoodG n ls) (hfull : ¬ (ord n ls).length < n) (a : CPath n ls du h) (b : CPath n ls du h') : ∀ d : Int, 0 ≤ d → d < n → h d ≤ h' d :=
  ord_ind hfull fun d d0 d1 ih => by
    rcases a.ex d d0 d1 with e | ⟨l, hl, hc, e⟩
    · have := b.lo d d0 d1; omega
    · have h1 := ih l hl hc
      have h2 := b.ge l hl
      rw [hc] at h2
      omega
theorem CPath.uniq {n : Nat} {ls : List api_Link} {du h h' : Int → Int} (g : GoodG n ls) (hfull : ¬ (ord n ls).length < n) (a : CPath n ls du h) (b : CPath n ls du h') {c c' : Int} (ca : CMax n h c) (cb : CMax n h' c') : c = c' := by
  have h1 := a.le g hfull b
  have h2 := b.le g hfull a
  have h3 := ca.c0
  have h4 := cb.c0
  have : c ≤ c' := by
    rcases ca.ex with e | ⟨d, d0, d1, e⟩
    · omega
    · have := h1 d d0 d1; have := cb.le d d0 d1; omega
  have : c' ≤ c := by
    rcases cb.ex with e | ⟨d, d0, d1, e⟩
    · omega
    · have := h2 d d0 d1; have := ca.le d d0 d1; omega
  omega

structure CPush (n : Nat) (ls : List api_Link) (du : Int → Int) (done : List Int) (E : Int → Int) (most : Int) : Prop where
  lo : ∀ d ∈ done, du d ≤ E d
  ex : ∀ d ∈ done, E d = du d ∨ ∃ l ∈ ls, l.Consumer = d ∧ E d = E l.Supplier + du d
  ge : ∀ l ∈ ls, l.Supplier ∈ done → (l.Consumer ∈ done → E l.Supplier + du l.Consumer ≤ E l.Consumer) ∧ (l.Consumer ∉ done → E l.Supplier ≤ E l.Consumer)
  nd : ∀ d, d ∉ done → E d = 0 ∨ ∃ l ∈ ls, l.Consumer = d ∧ l.Supplier ∈ done ∧ E d = E l.Supplier
  bd : ∀ d, 0 ≤ E d ∧ E d ≤ done.length * 9007199254740992
  m0 : 0 ≤ most
  ml : ∀ d ∈ done, E d ≤ most
  mx : most = 0 ∨ ∃ d ∈ done, E d = most

/-- What one pass over the links has pushed. -/
structure Pass (n : Nat) (ls : List api_Link) (done : List Int) (E : Int → Int) (x ex : Int) (i : Nat) (F : Int → Int) : Prop where
  at_ : F x = ex
  up : ∀ d, d ≠ x → E d ≤ F d
  in_ : ∀ d ∈ done, F d = E d
  lk : ∀ l ∈ ls.take i, l.Supplier = x → ex ≤ F l.Consumer
  or_ : ∀ d, d ≠ x → F d = E d ∨ ((∃ l ∈ ls, l.Supplier = x ∧ l.Consumer = d) ∧ F d = ex)

theorem critical_l1 {n : Nat} {ls : List api_Link} (g : GoodG n ls) {done : List Int} (hr : Run n ls done) {x : Int} (hx : least n ls done = some x) {E : Int → Int} {el : List Int} {ex : Int} (most y : Int) (hE : RepV n el (fset E x ex)) :
    ∃ el' F, resume_CriticalPath.l1 ls most x y FUEL el 0 = some (el', max most y) ∧ RepV n el' F ∧ Pass n ls done E x ex ls.length F := by
  obtain ⟨x0, x1, x2, _⟩ := least_some hx
  obtain ⟨x3, x4⟩ := free_iff.1 x2
  have hll := g.len
  refine loop_c (L := fun k (s : List Int) i => resume_CriticalPath.l1 ls most x y k s i) ls.length (fun i s => ∃ F, RepV n s F ∧ Pass n ls done E x ex i F)
    (fun o => ∃ el' F, o = some (el', max most y) ∧ RepV n el' F ∧ Pass n ls done E x ex ls.length F) ?_ ?_ FUEL 0 el (Nat.zero_le _) (FUEL_pos (by omega)) ⟨_, hE, fset_self _ _ _, fun d hd => by rw [fset_ne _ _ hd]; omega, fun d hd => fset_ne _ _ (fun e => x3 (e ▸ hd)), by simp, fun d hd => .inl (fset_ne _ _ hd)⟩
  · rintro k s i hi ⟨F, h1, p1, p2, p3, p4, p5⟩
    have hm := List.getElem_mem hi
    have hc := g.c0 _ hm
    rw [resume_CriticalPath.l1, if_pos (by simp; omega), idx_get hi, Option.bind_some]
    by_cases e : ls[i].Supplier = x
    · have hcx : ls[i].Consumer ≠ x := fun h => x3 (e ▸ x4 _ hm h)
      have hcd : ls[i].Consumer ∉ done := fun h => x3 (e ▸ hr.facts.2.2 _ hm h)
      rw [if_pos (by simpa using e), h1.2 _ hc.1 hc.2, Option.bind_some, h1.2 _ x0 x1, Option.bind_some, Option.bind_some, p1]
      refine .inl ⟨_, ⟨_, h1.set hc.1 (max (F ls[i].Consumer) ex), ?_, ?_, ?_, ?_, ?_⟩, by rw [wi_succ (by omega)]⟩
      · rw [fset_ne _ _ (Ne.symm hcx)]; exact p1
      · intro d hd
        have := p2 d hd
        unfold fset; split
        · rename_i e'; rw [← e']; omega
        · exact this
      · intro d hd
        rw [fset_ne _ _ (fun h : d = ls[i].Consumer => hcd (h ▸ hd))]; exact p3 d hd
      · intro l hl hs
        rcases (mem_take_succ hi).1 hl with h | h
        · have := p4 l h hs
          unfold fset; split
          · rename_i e'; rw [← e']; omega
          · exact this
        · rw [h, fset_self]; omega
      · intro d hd
        unfold fset; split
        · rename_i e'
          by_cases c : F ls[i].Consumer ≤ ex
          · exact .inr ⟨⟨_, hm, e, e'.symm⟩, by omega⟩
          · rcases p5 d hd with h | ⟨_, h⟩
            · exact .inl (by rw [← h, e']; omega)
            · rw [e'] at h; omega
        · exact p5 d hd
    · rw [if_neg (by simpa using e), Option.bind_some]
      refine .inl ⟨s, ⟨F, h1, p1, p2, p3, fun l hl hs => ?_, p5⟩, by rw [wi_succ (by omega)]⟩
      rcases (mem_take_succ hi).1 hl with h | h
      · exact p4 l h hs
      · exact absurd (h ▸ hs) e
  · rintro k s ⟨F, h1, h2⟩
    rw [resume_CriticalPath.l1, if_neg (by simp)]
    exact ⟨s, F, rfl, h1, h2⟩

theorem CPush.step {n : Nat} {ls : List api_Link} {du : Int → Int} (hdu : ∀ i, 0 ≤ du i ∧ du i ≤ 9007199254740992) {done : List Int} (hr : Run n ls done) {x : Int} (hx : least n ls done = some x) {E F : Int → Int} {most : Int} (P : CPush n ls du done E most) (Q : Pass n ls done E x (E x + du x) ls.length F) : CPush n ls du (done ++ [x]) F (max most (E x + du x)) := by
  obtain ⟨x0, x1, x2, _⟩ := least_some hx
  obtain ⟨x3, x4⟩ := free_iff.1 x2
  have hdx := hdu x
  have hEx := P.bd x
  have hlen : ((done ++ [x]).length : Int) = done.length + 1 := by simp
  have hfull : ∀ l ∈ ls, l.Supplier = x → E x + du x ≤ F l.Consumer := fun l hl hs => Q.lk l (by rw [List.take_length]; exact hl) hs
  have hin : ∀ d, d ∈ done ++ [x] ↔ d ∈ done ∨ d = x := fun d => by simp
  have hsup : ∀ l ∈ ls, l.Consumer ∈ done → l.Supplier ∈ done := hr.facts.2.2
  refine ⟨?_, ?_, ?_, ?_, ?_, by have := P.m0; omega, ?_, ?_⟩
  · intro d hd
    rcases (hin d).1 hd with h | h
    · rw [Q.in_ d h]; exact P.lo d h
    · rw [h, Q.at_]; omega
  · intro d hd
    rcases (hin d).1 hd with h | h
    · rw [Q.in_ d h]
      rcases P.ex d h with e | ⟨l, hl, hc, e⟩
      · exact .inl e
      · exact .inr ⟨l, hl, hc, by rw [Q.in_ _ (hsup l hl (hc ▸ h))]; exact e⟩
    · rw [h, Q.at_]
      rcases P.nd x x3 with e | ⟨l, hl, hc, hs, e⟩
      · exact .inl (by omega)
      · exact .inr ⟨l, hl, hc, by rw [Q.in_ _ hs, e]⟩
  · intro l hl hs
    rcases (hin _).1 hs with h | h
    · rw [Q.in_ _ h]
      obtain ⟨g1, g2⟩ := P.ge l hl h
      refine ⟨fun hc => ?_, fun hc => ?_⟩
      · rcases (hin _).1 hc with h' | h'
        · rw [Q.in_ _ h']; exact g1 h'
        · rw [h', Q.at_]
          have := g2 (fun h'' => x3 (h' ▸ h''))
          rw [h'] at this; omega
      · have hc1 : l.Consumer ∉ done := fun h' => hc ((hin _).2 (.inl h'))
        have hc2 : l.Consumer ≠ x := fun h' => hc ((hin _).2 (.inr h'))
        have := g2 hc1
        have := Q.up _ hc2
        omega
    · have h1 := hfull l hl h
      rw [h, Q.at_]
      refine ⟨fun hc => ?_, fun _ => h1⟩
      rcases (hin _).1 hc with h' | h'
      · exact absurd (h ▸ hsup l hl h') x3
      · exact absurd (h ▸ x4 l hl h') x3
  · intro d hd
    have hd1 : d ∉ done := fun h' => hd ((hin _).2 (.inl h'))
    have hd2 : d ≠ x := fun h' => hd ((hin _).2 (.inr h'))
    rcases Q.or_ d hd2 with e | ⟨⟨l, hl, hs, hc⟩, e⟩
    · rcases P.nd d hd1 with h | ⟨l, hl, hc, hs, h⟩
      · exact .inl (by rw [e, h])
      · exact .inr ⟨l, hl, hc, (hin _).2 (.inl hs), by rw [e, Q.in_ _ hs, h]⟩
    · exact .inr ⟨l, hl, hc, (hin _).2 (.inr hs), by rw [hs, Q.at_, e]⟩
  · intro d
    rw [hlen]
    by_cases h : d = x
    · rw [h, Q.at_]; omega
    · have := P.bd d
      rcases Q.or_ d h with e | ⟨_, e⟩ <;> rw [e] <;> omega
  · intro d hd
    rcases (hin d).1 hd with h | h
    · rw [Q.in_ d h]; have := P.ml d h; omega
    · rw [h, Q.at_]; omega
  · have := P.m0
    by_cases c : most ≤ E x + du x
    · exact .inr ⟨x, (hin x).2 (.inr rfl), by rw [Q.at_]; omega⟩
    · rcases P.mx with h | ⟨d, hd, h⟩
      · omega
      · exact .inr ⟨d, (hin d).2 (.inl hd), by rw [Q.in_ d hd, h]; omega⟩

theorem CPush.fin {n : Nat} {ls : List api_Link} {du : Int → Int} (g : GoodG n ls) (hfull : ¬ (ord n ls).length < n) {E : Int → Int} {most : Int} (P : CPush n ls du (ord n ls) E most) : CPath n ls du E ∧ CMax n E most := by
  have hin : ∀ d : Int, 0 ≤ d → d < n → d ∈ ord n ls := fun d h0 h1 => ord_full hfull h0 h1
  refine ⟨⟨fun d h0 h1 => P.lo d (hin d h0 h1), fun l hl => ?_, fun d h0 h1 => P.ex d (hin d h0 h1)⟩, ⟨P.m0, fun d h0 h1 => P.ml d (hin d h0 h1), ?_⟩⟩
  · have hc := g.c0 l hl
    have hs := g.s0 l hl
    exact (P.ge l hl (hin _ hs.1 hs.2)).1 (hin _ hc.1 hc.2)
  · rcases P.mx with h | ⟨d, hd, h⟩
    · exact .inl h
    · have := (ord_run n ls).1.facts.2.1 d hd
      exact .inr ⟨d, this.1, this.2, h⟩

theorem Run.pre' {n : Nat} {ls : List api_Link} {out : List Int} (h : Run n ls out) : ∀ i, i ≤ out.length → Run n ls (out.take i) := by
  induction h with
  | nil => intro i hi; simpa using Run.nil
  | @snoc out v h hv ih =>
    intro i hi
    by_cases hi' : i ≤ out.length
    · rw [List.take_append_of_le_length hi']; exact ih i hi'
    · rw [List.take_of_length_le (by simp only [List.length_append, List.length_singleton] at hi ⊢; omega)]; exact h.snoc hv
theorem Run.nth' {n : Nat} {ls : List api_Link} {out : List Int} (h : Run n ls out) : ∀ i (hi : i < out.length), least n ls (out.take i) = some out[i] := by
  induction h with
  | nil => intro i hi; simp at hi
  | @snoc out v h hv ih =>
    intro i hi
    by_cases hi' : i < out.length
    · rw [List.take_append_of_le_length (by omega), List.getElem_append_left hi']; exact ih i hi'
    · have : i = out.length := by simp only [List.length_append, List.length_singleton] at hi; omega
      subst this
      rw [List.take_append_of_le_length (Nat.le_refl _), List.take_length, List.getElem_append_right (Nat.le_refl _)]
      simpa using hv

theorem critical_good {n w : Nat} {ls : List api_Link} {dl : List Int} (S : GoodS n w ls dl) : ∃ h c, resume_CriticalPath.f n ls dl = some (c, 0) ∧ CPath n ls (duf dl) h ∧ CMax n h c ∧ c ≤ 128 * 9007199254740992 := by
  have g := S.g
  have hn := g.n128
  have S1 : GoodS n 1 ls dl := ⟨S.g, S.full, S.dn, S.d0, by omega, by omega⟩
  have hsc : scode n ls dl 1 = 0 := good_scode S1
  have hll : ls.length ≤ maxLen := by have := g.len; rw [maxLen_eq]; omega
  have hcc : ccode (n : Int) ls = 0 := by rw [ccode_good g, if_neg S.full]
  have ho : ores (n : Int) ls = (ord n ls, 0) := by unfold ores; rw [if_pos hcc]; rfl
  unfold resume_CriticalPath.f
  rw [check31_ok _ _ _ _ hll (by rw [S.dn, maxLen_eq]; omega), hsc, Option.bind_some, if_neg (by simp), order_ok _ _ hll, ho, Option.bind_some, if_neg (by simp), mk_ok (by omega), Option.bind_some]
  have hr := (ord_run n ls).1
  have hlen := ord_le n ls
  have hdu := duf_range S.d0
  have key : ∃ E most, resume_CriticalPath.l0 ls dl (ord n ls, 0) FUEL (List.replicate n 0) 0 0 = some most ∧ CPush n ls (duf dl) (ord n ls) E most := by
    refine loop_c (L := fun k (s : List Int × Int) i => resume_CriticalPath.l0 ls dl (ord n ls, 0) k s.1 s.2 i) (ord n ls).length (fun i s => ∃ E, RepV n s.1 E ∧ CPush n ls (duf dl) ((ord n ls).take i) E s.2)
      (fun o => ∃ E most, o = some most ∧ CPush n ls (duf dl) (ord n ls) E most) ?_ ?_ FUEL 0 (List.replicate n 0, 0) (Nat.zero_le _) (FUEL_pos (by omega)) ⟨fun _ => 0, RepV.rep n 0, ?_⟩
    · rintro k ⟨el, most⟩ i hi ⟨E, h1, h2⟩
      simp only at h1 h2 ⊢
      have hrun := hr.pre' i (by omega)
      have hx := hr.nth' i hi
      obtain ⟨x0, x1, _, _⟩ := least_some hx
      have hb := h2.bd (ord n ls)[i]
      have hl : ((ord n ls).take i).length = i := by simp; omega
      rw [hl] at hb
      have hi2 : (i : Int) * 9007199254740992 ≤ 128 * 9007199254740992 := Int.mul_le_mul_of_nonneg_right (by omega) (by omega)
      have hd := hdu (ord n ls)[i]
      rw [resume_CriticalPath.l0, if_pos (by simp; omega), idx_get hi, Option.bind_some, h1.2 _ x0 x1, Option.bind_some, (duf_rep S.dn).2 _ x0 x1, Option.bind_some, wu_id (by omega) (by omega), (h1.set x0 _).2 _ x0 x1, Option.bind_some, fset_self]
      obtain ⟨el', F, e, q1, q2⟩ := critical_l1 g hrun hx most (E (ord n ls)[i] + duf dl (ord n ls)[i]) (h1.set x0 (E (ord n ls)[i] + duf dl (ord n ls)[i]))
      rw [e, Option.bind_some]
      refine .inl ⟨(el', max most (E (ord n ls)[i] + duf dl (ord n ls)[i])), ⟨F, q1, ?_⟩, by rw [wi_succ (by omega)]⟩
      simp only
      rw [List.take_succ_eq_append_getElem hi]
      exact h2.step hdu hrun hx q2
    · rintro k ⟨el, most⟩ ⟨E, h1, h2⟩
      simp only at h1 h2 ⊢
      rw [resume_CriticalPath.l0, if_neg (by simp)]
      rw [List.take_length] at h2
      exact ⟨E, most, rfl, h2⟩
    · refine ⟨by simp, by simp, by simp, fun d _ => .inl rfl, fun d => ⟨Int.le_refl _, by simp⟩, Int.le_refl _, by simp, .inl rfl⟩
  obtain ⟨E, most, e, P⟩ := key
  rw [e, Option.bind_some]
  obtain ⟨a, b⟩ := P.fin g S.full
  refine ⟨E, most, rfl, a, b, ?_⟩
  have hlb : ((ord n ls).length : Int) * 9007199254740992 ≤ 128 * 9007199254740992 := Int.mul_le_mul_of_nonneg_right (by omega) (by omega)
  rcases P.mx with h | ⟨d, _, h⟩
  · omega
  · have := (P.bd d).2; omega
theorem critical_bad {p : Int} {ls : List api_Link} {dl : List Int} (h : ls.length ≤ maxLen) (hd : dl.length ≤ maxLen) (hs : scode p ls dl 1 ≠ 0) : resume_CriticalPath.f p ls dl = some (0, scode p ls dl 1) := by
  unfold resume_CriticalPath.f
  rw [check31_ok _ _ _ _ h hd, Option.bind_some, if_pos (by simpa using hs)]

/-! ### the schedule's ends and the longest chain -/

theorem ends_ge {n w : Nat} {ls : List api_Link} {du h : Int → Int} (hfull : ¬ (ord n ls).length < n) (hP : CPath n ls du h) {m : Ms} {out : List api_Slot} (D : Done n w ls du m out) : ∀ d : Int, 0 ≤ d → d < n → h d ≤ (m.s d).End :=
  ord_ind hfull fun d d0 d1 ih => by
    obtain ⟨a, b, _, _⟩ := D.inv.begun_of (D.all d d0 d1)
    have hlen := D.inv.len _ a
    have hst := D.inv.st _ a
    rw [b] at hlen
    rcases hP.ex d d0 d1 with e | ⟨l, hl, hc, e⟩
    · omega
    · have h1 := ih l hl hc
      have h2 := (D.inv.lnk l hl (by rw [hc]; exact D.all d d0 d1)).2
      rw [hc] at h2
      omega
theorem span_t {n w : Nat} {ls : List api_Link} {du : Int → Int} {m : Ms} {out : List api_Slot} (D : Done n w ls du m out) {T : Int} (M : Mks out T) : T = m.t := by
  have h0 := D.inv.t0
  have h1 : T ≤ m.t := by
    rcases M.ex with h | ⟨x, hx, h⟩
    · omega
    · have := D.ends x hx; omega
  have h2 : m.t ≤ T := by
    have := M.t0
    rcases D.inv.torg with h | ⟨x, hx, h⟩
    · omega
    · have := M.le x hx; omega
  omega
theorem perm_below {n w : Nat} {ls : List api_Link} {du : Int → Int} {m : Ms} {out : List api_Slot} (D : Done n w ls du m out) : (out.map api_Slot.Device).Perm (below n) := by
  rw [List.perm_ext_iff_of_nodup D.inv.nd (below_nodup n)]
  intro d
  rw [mem_below]
  constructor
  · intro h
    obtain ⟨x, hx, rfl⟩ := List.mem_map.1 h
    exact D.inv.dev x hx
  · rintro ⟨h0, h1⟩
    obtain ⟨a, b⟩ := D.inv.bs d (D.all d h0 h1)
    exact List.mem_map.2 ⟨_, a, b⟩
theorem awake31_ok : law31_awake.f = some true := by kernel_rfl
theorem duf_small {dl : List Int} (h : ∀ x ∈ dl, 0 ≤ x ∧ x ≤ 11) (i : Int) : 0 ≤ duf dl i ∧ duf dl i ≤ 11 := by
  unfold duf
  cases hx : idx dl i with
  | none => simp
  | some x =>
    obtain ⟨y, hy, hm⟩ := idx_of (idx_lo hx) (idx_hi hx)
    rw [hx] at hy; injection hy with hy; subst hy
    exact h x hm
end Go.Proofs.Ythmjgadmadlpkaa.Sim

namespace Go.Proofs.Ythmjgadmadlpkaa.Sim
open Go
set_option linter.unusedVariables false
set_option maxRecDepth 100000

theorem busy_len {n w : Nat} {ls : List api_Link} {du : Int → Int} {m : Ms} {out : List api_Slot} (I : Inv n w ls du m out) (hb : ¬ 0 ≤ nextW w m) : w ≤ out.length := by
  have h1 := fst_neg hb
  have h2 := nodup_le (below_nodup w) (s := out.map api_Slot.Worker) (fun k hk => by
    obtain ⟨k0, k1⟩ := mem_below.1 hk
    have h3 := h1 k k0 k1
    simp only [decide_eq_false_iff_not] at h3
    have := I.t0
    rcases I.fex k with h | ⟨x, hx, hw, he⟩
    · omega
    · exact List.mem_map.2 ⟨x, hx, hw⟩)
  rw [below_length, List.length_map] at h2
  exact h2
theorem unbegun_len {n w : Nat} {ls : List api_Link} {du : Int → Int} {m : Ms} {out : List api_Slot} (I : Inv n w ls du m out) {d : Int} (d0 : 0 ≤ d) (d1 : d < n) (hd : m.b d = false) : out.length < n := by
  have h := nodup_le (l := d :: out.map api_Slot.Device) (s := below n) (by
    rw [List.nodup_cons]
    refine ⟨fun h => ?_, I.nd⟩
    obtain ⟨x, hx, e⟩ := List.mem_map.1 h
    have := (I.sl x hx).1
    rw [e, hd] at this; cases this) (fun x hx => by
    rcases List.mem_cons.1 hx with e | e
    · subst e; exact mem_below.2 ⟨d0, d1⟩
    · obtain ⟨y, hy, rfl⟩ := List.mem_map.1 e
      exact mem_below.2 (I.dev y hy))
  rw [below_length, List.length_cons, List.length_map] at h
  omega

structure Early (n : Nat) (ls : List api_Link) (m : Ms) : Prop where
  un : ∀ d : Int, 0 ≤ d → d < n → m.b d = false → m.t = 0 ∨ ∃ l ∈ ls, l.Consumer = d ∧ (m.b l.Supplier = true → m.t ≤ (m.s l.Supplier).End)
  be : ∀ d : Int, m.b d = true → (m.s d).Start = 0 ∨ ∃ l ∈ ls, l.Consumer = d ∧ (m.s l.Supplier).End = (m.s d).Start

theorem Early.step {n w : Nat} {ls : List api_Link} {du : Int → Int} (hdu : ∀ i, 0 ≤ du i) (hw : n ≤ w) {m : Ms} {out : List api_Slot} (I : Inv n w ls du m out) (E : Early n ls m) {z' : Ms × List api_Slot} (hz : nxt n w ls du (m, out) = some z') : Early n ls z'.1 := by
  rcases nxt_cases hz with ⟨d, k, _, _, hd, hk, hr, hf, rfl⟩ | ⟨t, hno, ht, hlo, hlt, rfl⟩
  · obtain ⟨hb, hsup⟩ := rdy_iff.1 hr
    have hd0 := hdu d
    refine ⟨fun j j0 j1 hj => ?_, fun j hj => ?_⟩
    · unfold place fset at hj ⊢
      simp only at hj ⊢
      by_cases c : j = d
      · rw [if_pos c] at hj; cases hj
      · rw [if_neg c] at hj
        rcases E.un j j0 j1 hj with h | ⟨l, hl, hc, h⟩
        · exact .inl h
        · refine .inr ⟨l, hl, hc, fun hs => ?_⟩
          by_cases e : l.Supplier = d
          · rw [if_pos e]; simp only; omega
          · rw [if_neg e] at hs ⊢; exact h hs
    · unfold place fset at hj ⊢
      simp only at hj ⊢
      by_cases c : j = d
      · subst c
        rw [if_pos rfl]
        rcases E.un j hd.1 hd.2 hb with h | ⟨l, hl, hc, h⟩
        · exact .inl h
        · obtain ⟨h1, h2⟩ := hsup l hl hc
          have hne : l.Supplier ≠ j := fun e => by rw [e, hb] at h1; cases h1
          have := h h1
          refine .inr ⟨l, hl, hc, ?_⟩
          rw [if_neg hne]; simp only; omega
      · rw [if_neg c] at hj ⊢
        rcases E.be j hj with h | ⟨l, hl, hc, h⟩
        · exact .inl h
        · have h1 := (I.lnk l hl (by rw [hc]; exact hj)).1
          have hne : l.Supplier ≠ d := fun e => by rw [e, hb] at h1; cases h1
          refine .inr ⟨l, hl, hc, ?_⟩
          rw [if_neg hne]; exact h
  · refine ⟨fun j j0 j1 hj => ?_, E.be⟩
    simp only at hj ⊢
    have hwk : 0 ≤ nextW w m := Classical.byContradiction fun hb => by
      have := busy_len I hb
      have := unbegun_len I j0 j1 hj
      omega
    have hnr := fst_neg (fun hd => hno ⟨hd, hwk⟩)
    obtain ⟨l, hl, hc, hs⟩ := rdy_not (hnr j j0 j1) hj
    exact .inr ⟨l, hl, hc, fun hB => hlo _ (I.over_run (I.bs _ hB).1 (hs hB))⟩

theorem early_all {n w : Nat} {ls : List api_Link} {du : Int → Int} (hdu : ∀ i, 0 ≤ du i) (hw : n ≤ w) {m : Ms} {out : List api_Slot} (SC : Sched n w ls du m out) : Early n ls m := by
  obtain ⟨j, hj⟩ := SC.st
  have := it_ind (n := n) (w := w) (ls := ls) (du := du) (P := fun m out => Inv n w ls du m out ∧ Early n ls m) (fun m out z' ⟨I, E⟩ hz => ⟨I.step hdu hz, E.step hdu hw I hz⟩) j z00 ⟨Inv.start, ⟨fun _ _ _ _ => .inl rfl, fun d hd => by simp [z00] at hd⟩⟩
  rw [hj] at this
  exact this.2
/-- The ends are the longest chains. -/
theorem early_path {n w : Nat} {ls : List api_Link} {du : Int → Int} (g : GoodG n ls) (hdu : ∀ i, 0 ≤ du i) (hw : n ≤ w) {m : Ms} {out : List api_Slot} (SC : Sched n w ls du m out) : CPath n ls du (fun d => (m.s d).End) := by
  have E := early_all hdu hw SC
  have D := SC.dn
  have hend : ∀ d : Int, 0 ≤ d → d < n → (m.s d).End = (m.s d).Start + du d ∧ 0 ≤ (m.s d).Start := fun d d0 d1 => by
    obtain ⟨a, b, _, _⟩ := D.inv.begun_of (D.all d d0 d1)
    have h1 := D.inv.len _ a
    have h2 := D.inv.st _ a
    rw [b] at h1
    exact ⟨h1, h2.1⟩
  refine ⟨fun d d0 d1 => ?_, fun l hl => ?_, fun d d0 d1 => ?_⟩
  · have := hend d d0 d1; omega
  · have hc := g.c0 l hl
    have := hend _ hc.1 hc.2
    have := (D.inv.lnk l hl (D.all _ hc.1 hc.2)).2
    omega
  · have h1 := hend d d0 d1
    rcases E.be d (D.all d d0 d1) with h | ⟨l, hl, hc, h⟩
    · exact .inl (by omega)
    · exact .inr ⟨l, hl, hc, by omega⟩
theorem mks_cmax {n w : Nat} {ls : List api_Link} {du : Int → Int} {m : Ms} {out : List api_Slot} (D : Done n w ls du m out) {T : Int} (M : Mks out T) : CMax n (fun d => (m.s d).End) T := by
  refine ⟨M.t0, fun d d0 d1 => M.le _ (D.inv.bs d (D.all d d0 d1)).1, ?_⟩
  rcases M.ex with h | ⟨x, hx, h⟩
  · exact .inl h
  · have := D.inv.dev x hx
    exact .inr ⟨x.Device, this.1, this.2, by rw [(D.inv.sl x hx).2]; exact h⟩
end Go.Proofs.Ythmjgadmadlpkaa.Sim

namespace Go.Proofs.Ythmjgadmadlpkaa.Sim
open Go
set_option linter.unusedVariables false
set_option maxRecDepth 100000

theorem invalid_ok (n : Int) (ls : List api_Link) (h : ls.length ≤ maxLen) : ref24_invalid.f n ls = some ((((decide (n < 0)) || (decide (128 < n))) || (decide (1024 < (ls.length : Int)))) || ls.any (badL n)) := by
  unfold ref24_invalid.f
  by_cases h0 : (((decide (n < 0)) || (decide (128 < n))) || (decide (1024 < (ls.length : Int)))) = true
  · rw [if_pos h0, h0]; rfl
  · rw [if_neg h0]
    rw [search_ok (L := ref24_invalid.l0 n ls) ls (badL n) true h (fun k i => by rw [ref24_invalid.l0]; rfl)]
    rw [Bool.not_eq_true] at h0
    rw [h0, Bool.false_or]
    cases ls.any (badL n) <;> rfl

theorem basic_ok (n : Int) (ls : List api_Link) (h : ls.length ≤ maxLen) : ref24_Basic.f n ls = some (vcode n ls) := by
  unfold ref24_Basic.f vcode
  rw [invalid_ok n ls h]
  simp only [Option.bind_some]
  by_cases h0 : (((decide (n < 0)) || (decide (128 < n))) || (decide (1024 < (ls.length : Int)))) = true
  · rw [if_pos (by rw [h0]; rfl), if_pos h0]
  · rw [if_neg h0]
    have hlen : ls.length ≤ 1024 := by simp at h0; omega
    rw [Bool.not_eq_true] at h0
    rw [h0, Bool.false_or]
    by_cases hb : ls.any (badL n) = true
    · rw [if_pos hb, if_pos hb]
    · rw [if_neg hb, if_neg hb]
      have key : ref24_Basic.l0 ls FUEL 0 = some (if ls.Nodup then .nxt () else .out 7) := by
        refine loop_c (L := fun k (s : Unit) i => ref24_Basic.l0 ls k i) ls.length (fun i s => (ls.take i).Nodup) (fun o => o = some (if ls.Nodup then .nxt () else .out 7)) ?_ ?_ FUEL 0 () (Nat.zero_le _) (FUEL_pos (by omega)) (by simp)
        · intro k s i hi hI
          rw [ref24_Basic.l0, if_pos (by simp; omega)]
          have inner : ref24_Basic.l1 ls (i : Int) FUEL 0 = some (if ls[i] ∈ ls.take i then .out (.out 7) else .nxt ()) := by
            refine loop_c (L := fun k (s : Unit) j => ref24_Basic.l1 ls (i : Int) k j) i (fun j s => ls[i] ∉ ls.take j) (fun o => o = some (if ls[i] ∈ ls.take i then .out (.out 7) else .nxt ())) ?_ ?_ FUEL 0 () (Nat.zero_le _) (FUEL_pos (by omega)) (by simp)
            · intro k s j hj hJ
              rw [ref24_Basic.l1, if_pos (by simp; omega), idx_get hi, idx_get (by omega)]
              simp only [Option.bind_some]
              by_cases e : ls[i] = ls[j]
              · rw [if_pos (by simpa using e)]
                refine .inr ?_
                rw [if_pos]
                rw [e]
                exact List.mem_take_iff_getElem.2 ⟨j, by omega, rfl⟩
              · rw [if_neg (by simpa using e)]
                refine .inl ⟨(), ?_, by rw [wi_succ (by omega)]⟩
                rw [mem_take_succ (by omega)]
                exact fun h => h.elim hJ e
            · intro k s hJ
              rw [ref24_Basic.l1, if_neg (by simp), if_neg hJ]
          rw [inner]
          simp only [Option.bind_some]
          by_cases hm : ls[i] ∈ ls.take i
          · rw [if_pos hm]
            refine .inr ?_
            rw [if_neg (fun hn => (nodup_step hi hI).1 (nodup_take (i + 1) hn) hm)]; rfl
          · rw [if_neg hm]
            exact .inl ⟨(), (nodup_step hi hI).2 hm, by rw [wi_succ (by omega)]; rfl⟩
        · intro k s hI
          rw [ref24_Basic.l0, if_neg (by simp)]
          rw [List.take_length] at hI
          rw [if_pos hI]
      rw [key]
      by_cases hn : ls.Nodup
      · rw [if_pos hn, if_pos hn]; rfl
      · rw [if_neg hn, if_neg hn]; rfl

/-! ### the reference's way -/

/-- gone says which nodes are in out. -/
def Says (n : Nat) (gone : List Bool) (out : List Int) : Prop := gone.length = n ∧ ∀ v : Int, 0 ≤ v → v < n → idx gone v = some (decide (v ∈ out))

theorem Says.nil (n : Nat) : Says n (List.replicate n false) [] := ⟨by simp, fun v h0 h1 => by rw [idx_replicate h0 h1]; simp⟩
theorem Says.snoc {n : Nat} {gone : List Bool} {out : List Int} (h : Says n gone out) {v : Int} (h0 : 0 ≤ v) : Says n (upd gone v true) (out ++ [v]) := by
  refine ⟨by rw [upd_length]; exact h.1, fun u u0 u1 => ?_⟩
  rw [idx_upd (xs := gone) h0 u0 (by rw [h.1]; exact u1), h.2 u u0 u1]
  by_cases e : v = u
  · subst e; simp
  · have e' : ¬ u = v := fun h => e h.symm
    rw [if_neg e]; simp [e']

theorem remove_l2 {n : Nat} {ls : List api_Link} (g : GoodG n ls) {gone : List Bool} {out : List Int} (hs : Says n gone out) (v : Int) (b : Bool) (hb : b = decide (v ∉ out)) :
    ref24_remove.l2 ls gone v FUEL b 0 = some (free ls out v) := by
  have hl := g.len
  refine loop_c (L := fun k (s : Bool) i => ref24_remove.l2 ls gone v k s i) ls.length (fun i s => s = free (ls.take i) out v) (fun o => o = some (free ls out v)) ?_ ?_ FUEL 0 b (Nat.zero_le _) (FUEL_pos (by omega)) (by subst hb; simp [free])
  · rintro k s i hi rfl
    rw [ref24_remove.l2]
    have hm := List.getElem_mem hi
    have hsx := g.s0 _ hm
    by_cases hf : free (ls.take i) out v = true
    · rw [if_pos (by simp [hf]; omega), idx_get hi]
      simp only [Option.bind_some]
      obtain ⟨f1, f2⟩ := free_iff.1 hf
      refine .inl ⟨_, rfl, ?_⟩
      rw [wi_succ (by omega)]
      by_cases e : ls[i].Consumer = v
      · rw [if_pos (by simp [e]), hs.2 _ hsx.1 hsx.2]
        simp only [Option.bind_some]
        by_cases hin : ls[i].Supplier ∈ out
        · have : free (ls.take (i + 1)) out v = true := free_iff.2 ⟨f1, fun l hl' hc => by
            rcases (mem_take_succ hi).1 hl' with h | h
            · exact f2 l h hc
            · subst h; exact hin⟩
          rw [this]; simp [hin, hf]
        · have : free (ls.take (i + 1)) out v = false := by
            rw [Bool.eq_false_iff]
            intro h
            exact hin ((free_iff.1 h).2 _ ((mem_take_succ hi).2 (.inr rfl)) e)
          rw [this]; simp [hin]
      · rw [if_neg (by simp [e])]
        have : free (ls.take (i + 1)) out v = true := free_iff.2 ⟨f1, fun l hl' hc => by
            rcases (mem_take_succ hi).1 hl' with h | h
            · exact f2 l h hc
            · subst h; exact absurd hc e⟩
        rw [this]; simp [hf]
    · rw [Bool.not_eq_true] at hf
      rw [if_neg (by simp [hf])]
      refine .inr ?_
      rw [hf]
      have : free ls out v = false := by
        rw [Bool.eq_false_iff]
        intro h
        obtain ⟨h1, h2⟩ := free_iff.1 h
        rw [free_iff.2 ⟨h1, fun l hl' => h2 l (List.mem_of_mem_take hl')⟩] at hf
        cases hf
      rw [this]
  · rintro k s rfl
    rw [ref24_remove.l2, if_neg (by simp), List.take_length]

/-- What a search from above for the least free node has found, down to j. -/
def Down (n : Nat) (ls : List api_Link) (out : List Int) (j : Nat) (next : Int) : Prop :=
  (next = -1 ∧ ∀ v : Int, j ≤ v → v < n → free ls out v = false) ∨ (j ≤ next ∧ next < n ∧ free ls out next = true ∧ ∀ v : Int, j ≤ v → v < next → free ls out v = false)
theorem Down.step {n : Nat} {ls : List api_Link} {out : List Int} {j : Nat} {next : Int} (h : Down n ls out (j + 1) next) (hj : j < n) : Down n ls out j (if free ls out (j : Int) = true then (j : Int) else next) := by
  by_cases hf : free ls out (j : Int) = true
  · rw [if_pos hf]; exact .inr ⟨Int.le_refl _, by omega, hf, fun v h1 h2 => by omega⟩
  · rw [if_neg hf]
    rw [Bool.not_eq_true] at hf
    have at_ : ∀ v : Int, (j : Int) ≤ v → v = j ∨ ((j + 1 : Nat) : Int) ≤ v := fun v h => by omega
    rcases h with ⟨h1, h2⟩ | ⟨h1, h2, h3, h4⟩
    · exact .inl ⟨h1, fun v h3 h4 => by rcases at_ v h3 with rfl | h; exact hf; exact h2 v h h4⟩
    · exact .inr ⟨by omega, h2, h3, fun v h5 h6 => by rcases at_ v h5 with rfl | h; exact hf; exact h4 v h h6⟩
theorem Down.zero {n : Nat} {ls : List api_Link} {out : List Int} {next : Int} (h : Down n ls out 0 next) : (next = -1 ∧ least n ls out = none) ∨ (0 ≤ next ∧ least n ls out = some next) := by
  rcases h with ⟨h1, h2⟩ | ⟨h1, h2, h3, h4⟩
  · exact .inl ⟨h1, least_none.2 (fun u h0 hn => h2 u (by omega) hn)⟩
  · exact .inr ⟨by omega, least_of (by omega) h2 h3 (fun u h0 hu => h4 u (by omega) hu)⟩

theorem remove_l1 {n : Nat} {ls : List api_Link} (g : GoodG n ls) {gone : List Bool} {out : List Int} (hs : Says n gone out) : ∃ next, ref24_remove.l1 ls gone FUEL (-1) (wi ((n : Int) - 1)) = some next ∧ Down n ls out 0 next := by
  have hn := g.n128
  rw [wi_id (by omega) (by omega)]
  refine loop_m (L := fun k (s : Int × Nat) => ref24_remove.l1 ls gone k s.1 ((s.2 : Int) - 1)) (fun s => s.2 ≤ n ∧ Down n ls out s.2 s.1) (fun s => s.2) (fun o => ∃ next, o = some next ∧ Down n ls out 0 next) ?_ FUEL (-1, n) ⟨Nat.le_refl _, .inl ⟨rfl, fun v h1 h2 => by omega⟩⟩ (FUEL_pos (by show n ≤ _; omega))
  rintro k ⟨next, j⟩ ⟨hj, hd⟩
  simp only at hj hd ⊢
  rw [ref24_remove.l1]
  cases j with
  | zero => rw [if_neg (by simp)]; exact .inr ⟨next, rfl, hd⟩
  | succ j =>
    have e : (((j + 1 : Nat) : Int) - 1) = (j : Int) := by omega
    rw [e, if_pos (by simp), hs.2 _ (by omega) (by omega)]
    simp only [Option.bind_some]
    rw [remove_l2 g hs (j : Int) _ (by simp)]
    simp only [Option.bind_some]
    refine .inl ⟨(if free ls out (j : Int) = true then (j : Int) else next, j), ⟨by omega, hd.step (by omega)⟩, by show j < j + 1; omega, ?_⟩
    have e2 : wi ((j : Int) - 1) = (j : Int) - 1 := wi_id (by omega) (by omega)
    rw [e2]
    split <;> rfl

theorem remove_ok {n : Nat} {ls : List api_Link} (g : GoodG n ls) : ∃ gone, ref24_remove.f (n : Int) ls = some (ord n ls, gone) ∧ Says n gone (ord n ls) := by
  have hn := g.n128
  unfold ref24_remove.f
  rw [mk_ok (by omega)]
  simp only [Option.bind_some]
  refine loop_m (L := fun k (s : List Int × List Bool) => ref24_remove.l0 (n : Int) ls k s.1 s.2) (fun s => Run n ls s.1 ∧ Says n s.2 s.1) (fun s => n - s.1.length) (fun o => ∃ gone, o = some (ord n ls, gone) ∧ Says n gone (ord n ls)) ?_ FUEL ([], _) ⟨.nil, Says.nil n⟩ (FUEL_pos (by show n - 0 ≤ _; omega))
  rintro k ⟨out, gone⟩ ⟨hr, hs⟩
  simp only at hr hs ⊢
  have hlen := hr.length_le
  rw [ref24_remove.l0]
  obtain ⟨next, h1, h2⟩ := remove_l1 g hs
  rw [h1]
  simp only [Option.bind_some]
  rcases h2.zero with ⟨rfl, h3⟩ | ⟨h3, h4⟩
  · rw [if_pos (by decide)]
    have := hr.ord h3
    subst this
    exact .inr ⟨gone, rfl, hs⟩
  · obtain ⟨q0, q1, _, _⟩ := least_some h4
    rw [if_neg (by simp; omega), hs.2 _ q0 q1]
    simp only [Option.bind_some]
    rw [app_ok (by simp; omega)]
    have hr' := hr.snoc h4
    have := hr'.length_le
    simp only [List.length_append, List.length_singleton] at this
    exact .inl ⟨(out ++ [next], upd gone next true), ⟨hr', hs.snoc h3⟩, by simp; omega, rfl⟩

/-! ### the matrix -/

structure Mat (n : Nat) (m : List (List Bool)) (R : Int → Int → Bool) : Prop where
  len : m.length = n
  row : ∀ a : Int, 0 ≤ a → a < n → ∃ r, idx m a = some r ∧ r.length = n ∧ ∀ b : Int, 0 ≤ b → b < n → idx r b = some (R a b)

theorem Mat.congr {n : Nat} {m : List (List Bool)} {R R' : Int → Int → Bool} (h : Mat n m R) (he : ∀ a b : Int, 0 ≤ a → a < n → 0 ≤ b → b < n → R a b = R' a b) : Mat n m R' :=
  ⟨h.len, fun a a0 a1 => by
    obtain ⟨r, h1, h2, h3⟩ := h.row a a0 a1
    exact ⟨r, h1, h2, fun b b0 b1 => by rw [h3 b b0 b1, he a b a0 a1 b0 b1]⟩⟩
theorem Mat.set {n : Nat} {m : List (List Bool)} {R : Int → Int → Bool} (h : Mat n m R) {a b : Int} (a0 : 0 ≤ a) (a1 : a < n) (b0 : 0 ≤ b) (b1 : b < n) {r : List Bool} (hr : idx m a = some r) : Mat n (upd m a (upd r b true)) (fun x y => R x y || (decide (x = a) && decide (y = b))) := by
  obtain ⟨r', h1, h2, h3⟩ := h.row a a0 a1
  rw [hr] at h1; injection h1 with h1; subst h1
  refine ⟨by rw [upd_length]; exact h.len, fun x x0 x1 => ?_⟩
  rw [idx_upd (xs := m) a0 x0 (by rw [h.len]; exact x1)]
  by_cases e : a = x
  · subst e
    refine ⟨_, by rw [if_pos rfl], by rw [upd_length]; exact h2, fun y y0 y1 => ?_⟩
    rw [idx_upd (xs := r) b0 y0 (by rw [h2]; exact y1), h3 y y0 y1]
    by_cases e2 : b = y
    · subst e2; simp
    · have e3 : ¬ y = b := fun h => e2 h.symm
      simp [e2, e3]
  · obtain ⟨r2, q1, q2, q3⟩ := h.row x x0 x1
    have e3 : ¬ x = a := fun h => e h.symm
    refine ⟨r2, by rw [if_neg e]; exact q1, q2, fun y y0 y1 => ?_⟩
    rw [q3 y y0 y1]; simp [e3]

theorem matrix_l0 {n : Nat} (hn : n ≤ 128) : ∃ m, ref24_Matrix.l0 (n : Int) FUEL (List.replicate n []) 0 = some m ∧ Mat n m (fun _ _ => false) := by
  refine loop_c (L := fun k (s : List (List Bool)) i => ref24_Matrix.l0 (n : Int) k s i) n (fun i s => s.length = n ∧ ∀ a : Int, 0 ≤ a → a < i → ∃ r, idx s a = some r ∧ r.length = n ∧ ∀ b : Int, 0 ≤ b → b < n → idx r b = some false) (fun o => ∃ m, o = some m ∧ Mat n m (fun _ _ => false)) ?_ ?_ FUEL 0 _ (Nat.zero_le _) (FUEL_pos (by omega)) ⟨by simp, fun a h0 h1 => by omega⟩
  · rintro k s i hi ⟨h1, h2⟩
    rw [ref24_Matrix.l0, if_pos (by simp; omega), mk_ok (by omega), idx_get (by omega)]
    simp only [Option.bind_some]
    refine .inl ⟨upd s (i : Int) (List.replicate n false), ⟨by rw [upd_length]; exact h1, fun a a0 a1 => ?_⟩, by rw [wi_succ (by omega)]⟩
    rw [idx_upd (xs := s) (by omega) a0 (by omega)]
    by_cases e : (i : Int) = a
    · exact ⟨_, by rw [if_pos e], by simp, fun b b0 b1 => idx_replicate b0 b1⟩
    · obtain ⟨r, q1, q2⟩ := h2 a a0 (by omega)
      exact ⟨r, by rw [if_neg e]; exact q1, q2⟩
  · rintro k s ⟨h1, h2⟩
    rw [ref24_Matrix.l0, if_neg (by simp)]
    exact ⟨s, rfl, h1, h2⟩

theorem matrix_l1 {n : Nat} {ls : List api_Link} (g : GoodG n ls) {m0 : List (List Bool)} (h0 : Mat n m0 (fun _ _ => false)) : ∃ m, ref24_Matrix.l1 ls FUEL m0 0 = some m ∧ Mat n m (fun a b => decide (api_Link.mk a b ∈ ls)) := by
  have hl := g.len
  refine loop_c (L := fun k (s : List (List Bool)) i => ref24_Matrix.l1 ls k s i) ls.length (fun i s => Mat n s (fun a b => decide (api_Link.mk a b ∈ ls.take i))) (fun o => ∃ m, o = some m ∧ Mat n m (fun a b => decide (api_Link.mk a b ∈ ls))) ?_ ?_ FUEL 0 m0 (Nat.zero_le _) (FUEL_pos (by omega)) (h0.congr (fun a b _ _ _ _ => by simp))
  · intro k s i hi hm
    have hmem := List.getElem_mem hi
    have hc := g.c0 _ hmem
    have hs := g.s0 _ hmem
    obtain ⟨r, q1, q2, q3⟩ := hm.row _ hc.1 hc.2
    rw [ref24_Matrix.l1, if_pos (by simp; omega), idx_get hi]
    simp only [Option.bind_some]
    rw [q1]
    simp only [Option.bind_some]
    rw [q3 _ hs.1 hs.2]
    simp only [Option.bind_some]
    refine .inl ⟨_, (hm.set hc.1 hc.2 hs.1 hs.2 q1).congr (fun a b _ _ _ _ => ?_), by rw [wi_succ (by omega)]⟩
    rw [Bool.eq_iff_iff]
    simp only [Bool.or_eq_true, Bool.and_eq_true, decide_eq_true_eq, mem_take_succ hi]
    constructor
    · rintro (h | ⟨rfl, rfl⟩)
      · exact .inl h
      · exact .inr rfl
    · rintro (h | h)
      · exact .inl h
      · rw [← h]; exact .inr ⟨rfl, rfl⟩
  · intro k s hm
    rw [ref24_Matrix.l1, if_neg (by simp)]
    rw [List.take_length] at hm
    exact ⟨s, rfl, hm⟩

theorem matrix_l4 {n : Nat} (hn : n ≤ 128) {R : Int → Int → Bool} {k a : Int} (k0 : 0 ≤ k) (k1 : k < n) (a0 : 0 ≤ a) (a1 : a < n) {m0 : List (List Bool)} (h0 : Mat n m0 R) : ∃ m, ref24_Matrix.l4 (n : Int) k a FUEL m0 0 = some m ∧ Mat n m (fun x y => R x y || (decide (x = a) && R k y)) := by
  refine loop_c (L := fun q (s : List (List Bool)) i => ref24_Matrix.l4 (n : Int) k a q s i) n (fun i s => Mat n s (fun x y => R x y || (decide (x = a) && decide (y < (i : Int)) && R k y))) (fun o => ∃ m, o = some m ∧ Mat n m (fun x y => R x y || (decide (x = a) && R k y))) ?_ ?_ FUEL 0 m0 (Nat.zero_le _) (FUEL_pos (by omega)) (h0.congr (fun x y x0 x1 y0 y1 => by
      have : ¬ y < 0 := by omega
      simp [this]))
  · intro q s i hi hm
    obtain ⟨r, r1, r2, r3⟩ := hm.row k k0 k1
    rw [ref24_Matrix.l4, if_pos (by simp; omega), r1]
    simp only [Option.bind_some]
    rw [r3 (i : Int) (by omega) (by omega)]
    simp only [Option.bind_some, Int.lt_irrefl, decide_false, Bool.and_false, Bool.false_and, Bool.or_false]
    by_cases hr : R k (i : Int) = true
    · rw [if_pos hr]
      obtain ⟨ra, t1, t2, t3⟩ := hm.row a a0 a1
      rw [t1]
      simp only [Option.bind_some]
      rw [t3 (i : Int) (by omega) (by omega)]
      simp only [Option.bind_some]
      refine .inl ⟨_, (hm.set a0 a1 (b := (i : Int)) (by omega) (by omega) t1).congr (fun x y x0 x1 y0 y1 => ?_), by rw [wi_succ (by omega)]⟩
      rw [Bool.eq_iff_iff]
      simp only [Bool.or_eq_true, Bool.and_eq_true, decide_eq_true_eq]
      constructor
      · rintro ((h | ⟨⟨h1, h2⟩, h3⟩) | ⟨h1, h2⟩)
        · exact .inl h
        · exact .inr ⟨⟨h1, by omega⟩, h3⟩
        · exact .inr ⟨⟨h1, by omega⟩, by rw [h2]; exact hr⟩
      · rintro (h | ⟨⟨h1, h2⟩, h3⟩)
        · exact .inl (.inl h)
        · by_cases e : y = i
          · exact .inr ⟨h1, e⟩
          · exact .inl (.inr ⟨⟨h1, by omega⟩, h3⟩)
    · rw [if_neg hr]
      refine .inl ⟨s, hm.congr (fun x y x0 x1 y0 y1 => ?_), by rw [wi_succ (by omega)]; rfl⟩
      rw [Bool.eq_iff_iff]
      simp only [Bool.or_eq_true, Bool.and_eq_true, decide_eq_true_eq]
      constructor
      · rintro (h | ⟨⟨h1, h2⟩, h3⟩)
        · exact .inl h
        · exact .inr ⟨⟨h1, by omega⟩, h3⟩
      · rintro (h | ⟨⟨h1, h2⟩, h3⟩)
        · exact .inl h
        · by_cases e : y = i
          · subst e; exact absurd h3 hr
          · exact .inr ⟨⟨h1, by omega⟩, h3⟩
  · intro q s hm
    rw [ref24_Matrix.l4, if_neg (by simp)]
    exact ⟨s, rfl, hm.congr (fun x y x0 x1 y0 y1 => by simp [y1])⟩

theorem matrix_l3 {n : Nat} (hn : n ≤ 128) {R : Int → Int → Bool} {k : Int} (k0 : 0 ≤ k) (k1 : k < n) {m0 : List (List Bool)} (h0 : Mat n m0 R) : ∃ m, ref24_Matrix.l3 (n : Int) k FUEL m0 0 = some m ∧ Mat n m (fun x y => R x y || (R x k && R k y)) := by
  refine loop_c (L := fun q (s : List (List Bool)) i => ref24_Matrix.l3 (n : Int) k q s i) n (fun i s => Mat n s (fun x y => R x y || (decide (x < (i : Int)) && R x k && R k y))) (fun o => ∃ m, o = some m ∧ Mat n m (fun x y => R x y || (R x k && R k y))) ?_ ?_ FUEL 0 m0 (Nat.zero_le _) (FUEL_pos (by omega)) (h0.congr (fun x y x0 x1 y0 y1 => by
      have : ¬ x < 0 := by omega
      simp [this]))
  · intro q s i hi hm
    obtain ⟨r, r1, r2, r3⟩ := hm.row (i : Int) (by omega) (by omega)
    rw [ref24_Matrix.l3, if_pos (by simp; omega), r1]
    simp only [Option.bind_some]
    rw [r3 k k0 k1]
    simp only [Option.bind_some, Int.lt_irrefl, decide_false, Bool.false_and, Bool.or_false]
    by_cases hr : R (i : Int) k = true
    · rw [if_neg (by simp [hr])]
      obtain ⟨m', t1, t2⟩ := matrix_l4 hn k0 k1 (a := (i : Int)) (by omega) (by omega) hm
      rw [t1]
      refine .inl ⟨m', t2.congr (fun x y x0 x1 y0 y1 => ?_), by rw [wi_succ (by omega)]; rfl⟩
      rw [Bool.eq_iff_iff]
      simp only [Bool.or_eq_true, Bool.and_eq_true, decide_eq_true_eq]
      constructor
      · rintro ((h | ⟨⟨h1, h2⟩, h3⟩) | ⟨h1, h2⟩)
        · exact .inl h
        · exact .inr ⟨⟨by omega, h2⟩, h3⟩
        · refine .inr ⟨⟨by omega, by rw [h1]; exact hr⟩, ?_⟩
          rcases h2 with h2 | ⟨_, h2⟩ <;> exact h2
      · rintro (h | ⟨⟨h1, h2⟩, h3⟩)
        · exact .inl (.inl h)
        · by_cases e : x = i
          · exact .inr ⟨e, .inl h3⟩
          · exact .inl (.inr ⟨⟨by omega, h2⟩, h3⟩)
    · rw [if_pos (by simp [hr])]
      refine .inl ⟨s, hm.congr (fun x y x0 x1 y0 y1 => ?_), by rw [wi_succ (by omega)]; rfl⟩
      rw [Bool.eq_iff_iff]
      simp only [Bool.or_eq_true, Bool.and_eq_true, decide_eq_true_eq]
      constructor
      · rintro (h | ⟨⟨h1, h2⟩, h3⟩)
        · exact .inl h
        · exact .inr ⟨⟨by omega, h2⟩, h3⟩
      · rintro (h | ⟨⟨h1, h2⟩, h3⟩)
        · exact .inl h
        · by_cases e : x = i
          · subst e; exact absurd h2 hr
          · exact .inr ⟨⟨by omega, h2⟩, h3⟩
  · intro q s hm
    rw [ref24_Matrix.l3, if_neg (by simp)]
    exact ⟨s, rfl, hm.congr (fun x y x0 x1 y0 y1 => by simp [x1])⟩

theorem matrix_ok {n : Nat} {ls : List api_Link} (g : GoodG n ls) : ∃ m R, ref24_Matrix.f (n : Int) ls = some m ∧ Mat n m R ∧ ∀ a b : Int, R a b = true ↔ Path ls a b := by
  have hn := g.n128
  unfold ref24_Matrix.f
  rw [mk_ok (by omega)]
  simp only [Option.bind_some]
  obtain ⟨m1, e1, h1⟩ := matrix_l0 (n := n) hn
  rw [e1]
  simp only [Option.bind_some]
  obtain ⟨m2, e2, h2⟩ := matrix_l1 g h1
  rw [e2]
  simp only [Option.bind_some]
  have key : ∃ m, ref24_Matrix.l2 (n : Int) FUEL m2 0 = some m ∧ ∃ R, Mat n m R ∧ ∀ a b : Int, R a b = true ↔ Path ls a b := by
    refine loop_c (L := fun q (s : List (List Bool)) i => ref24_Matrix.l2 (n : Int) q s i) n
      (fun i s => ∃ R, Mat n s R ∧ (∀ a b : Int, R a b = true → Path ls a b) ∧ (∀ a b, api_Link.mk a b ∈ ls → R a b = true) ∧ ∀ j : Int, 0 ≤ j → j < i → ∀ a b : Int, R a j = true → R j b = true → R a b = true)
      (fun o => ∃ m, o = some m ∧ ∃ R, Mat n m R ∧ ∀ a b : Int, R a b = true ↔ Path ls a b) ?_ ?_ FUEL 0 m2 (Nat.zero_le _) (FUEL_pos (by omega)) ⟨_, h2, fun a b h => .one (by simpa using h), fun a b h => by simpa using h, fun j h0 h1 => by omega⟩
    · rintro q s i hi ⟨R, hm, s1, s2, s3⟩
      rw [ref24_Matrix.l2, if_pos (by simp; omega)]
      obtain ⟨m', t1, t2⟩ := matrix_l3 hn (k := (i : Int)) (by omega) (by omega) hm
      rw [t1]
      refine .inl ⟨m', ⟨_, t2, ?_, ?_, ?_⟩, by rw [wi_succ (by omega)]; rfl⟩
      all_goals simp only [Bool.or_eq_true, Bool.and_eq_true]
      · rintro a b (h | ⟨h1, h2⟩)
        · exact s1 a b h
        · exact (s1 _ _ h1).trans (s1 _ _ h2)
      · intro a b h; exact .inl (s2 a b h)
      · intro j j0 j1 a b ha hb
        by_cases e : j = i
        · subst e
          have ha' : R a (i : Int) = true := by rcases ha with h | ⟨h, _⟩ <;> exact h
          have hb' : R (i : Int) b = true := by rcases hb with h | ⟨_, h⟩ <;> exact h
          exact .inr ⟨ha', hb'⟩
        · have c := s3 j j0 (by omega)
          rcases ha with h | ⟨h1, h2⟩
          · rcases hb with h' | ⟨h3, h4⟩
            · exact .inl (c a b h h')
            · exact .inr ⟨c a i h h3, h4⟩
          · rcases hb with h' | ⟨h3, h4⟩
            · exact .inr ⟨h1, c i b h2 h'⟩
            · exact .inr ⟨h1, h4⟩
    · rintro q s ⟨R, hm, s1, s2, s3⟩
      rw [ref24_Matrix.l2, if_neg (by simp)]
      refine ⟨s, rfl, R, hm, fun a b => ⟨s1 a b, fun h => ?_⟩⟩
      induction h with
      | one h => exact s2 _ _ h
      | more h _ ih =>
        have := g.s0 _ h
        exact s3 _ this.1 this.2 _ _ (s2 _ _ h) ih
  obtain ⟨m, e3, R, h3, h4⟩ := key
  rw [e3]
  exact ⟨m, R, rfl, h3, h4⟩

theorem refcheck_good {n : Nat} {ls : List api_Link} (g : GoodG n ls) : (ref24_Matrix.f (n : Int) ls).bind (fun r16 => (ref24_Check.l0 (n : Int) r16 FUEL 0 : Option (Fl (Int) (Unit))).bind fun o26 => o26.go fun _ => some 0) = some (if (ord n ls).length < n then 18 else 0) := by
  have hn := g.n128
  obtain ⟨m, R, e1, hm, hR⟩ := matrix_ok g
  rw [e1]
  simp only [Option.bind_some]
  have key : ref24_Check.l0 (n : Int) m FUEL 0 = some (if (ord n ls).length < n then .out 18 else .nxt ()) := by
    refine loop_c (L := fun q (_ : Unit) i => ref24_Check.l0 (n : Int) m q i) n (fun i _ => ∀ a : Int, 0 ≤ a → a < i → ¬ Path ls a a) (fun o => o = some (if (ord n ls).length < n then .out 18 else .nxt ())) ?_ ?_ FUEL 0 () (Nat.zero_le _) (FUEL_pos (by omega)) (fun a h0 h1 => by omega)
    · intro q _ i hi hI
      obtain ⟨r, r1, r2, r3⟩ := hm.row (i : Int) (by omega) (by omega)
      rw [ref24_Check.l0, if_pos (by simp; omega), r1]
      simp only [Option.bind_some]
      rw [r3 (i : Int) (by omega) (by omega)]
      simp only [Option.bind_some]
      by_cases hc : R (i : Int) (i : Int) = true
      · rw [if_pos hc]
        refine .inr ?_
        rw [if_pos]
        refine Classical.byContradiction fun hno => ?_
        exact (ord_run n ls).1.acyclic (i : Int) (ord_full hno (by omega) (by omega)) ((hR _ _).1 hc)
      · rw [if_neg hc]
        refine .inl ⟨(), fun a a0 a1 => ?_, by rw [wi_succ (by omega)]⟩
        by_cases e : a = i
        · subst e; exact fun h => hc ((hR _ _).2 h)
        · exact hI a a0 (by omega)
    · intro q _ hI
      rw [ref24_Check.l0, if_neg (by simp)]
      rw [if_neg]
      intro h
      obtain ⟨i, i0, i1, hp⟩ := ord_cyclic g h
      exact hI i i0 i1 hp
  rw [key]
  split <;> rfl

theorem refcheck_ok (p : Int) (ls : List api_Link) (h : ls.length ≤ maxLen) : ref24_Check.f p ls = some (ccode p ls) := by
  unfold ref24_Check.f
  rw [basic_ok p ls h]
  simp only [Option.bind_some]
  by_cases hv : vcode p ls = 0
  · obtain ⟨n, rfl, g⟩ := vcode_good hv
    rw [if_neg (by simp [hv]), ccode_good g]
    exact refcheck_good g
  · rw [if_pos (by simpa using hv)]
    unfold ccode; rw [if_neg hv]

theorem reforder_ok (p : Int) (ls : List api_Link) (h : ls.length ≤ maxLen) : ref24_Order.f p ls = some (ores p ls) := by
  unfold ref24_Order.f
  rw [refcheck_ok p ls h]
  simp only [Option.bind_some]
  unfold ores
  by_cases hv : ccode p ls = 0
  · have hv2 : vcode p ls = 0 := by
      unfold ccode at hv
      split at hv
      · assumption
      · exact hv
    obtain ⟨n, rfl, g⟩ := vcode_good hv2
    rw [if_neg (by simp [hv]), if_pos hv]
    obtain ⟨gone, e, _⟩ := remove_ok g
    rw [e]; rfl
  · rw [if_pos (by simpa using hv), if_neg hv]


end Go.Proofs.Ythmjgadmadlpkaa.Sim

namespace Go.Proofs.Ythmjgadmadlpkaa.Sim
open Go
set_option linter.unusedVariables false
set_option maxRecDepth 100000

def icode (p : Int) (ls : List api_Link) (dl : List Int) (w : Int) : Int :=
  if ccode p ls ≠ 0 then ccode p ls else if (dl.length : Int) = p ∧ dl.any big = false ∧ 0 ≤ w ∧ w ≤ 16 then 0 else 1
theorem input31_ok (p : Int) (ls : List api_Link) (dl : List Int) (w : Int) (h : ls.length ≤ maxLen) (hd : dl.length ≤ maxLen) : ref31_input.f p ls dl w = some (icode p ls dl w) := by
  unfold ref31_input.f
  rw [refcheck_ok p ls h, Option.bind_some]
  by_cases h1 : ccode p ls = 0
  · have e : icode p ls dl w = if (dl.length : Int) = p ∧ dl.any big = false ∧ 0 ≤ w ∧ w ≤ 16 then 0 else 1 := by unfold icode; rw [if_neg (by simp [h1])]
    rw [e, if_neg (by simp [h1])]
    by_cases h2 : (dl.length : Int) = p ∧ 0 ≤ w ∧ w ≤ 16
    · obtain ⟨h2, h3, h4⟩ := h2
      subst h2
      rw [if_neg (by simp; omega), search_ok (L := ref31_input.l0 (dl.length : Int) dl) dl big 1 hd (fun k i => by rw [ref31_input.l0]; rfl)]
      cases h5 : dl.any big
      · simp only [Bool.false_eq_true, if_false, Option.bind_some, Fl.go]
        rw [if_pos (by simp; omega)]
      · simp only [if_true, Option.bind_some, Fl.go]
        rw [if_neg (fun c => by cases c.2.1)]
    · rw [if_pos (by simp; omega), if_neg (fun c => h2 ⟨c.1, c.2.2⟩)]
  · have e : icode p ls dl w = ccode p ls := by unfold icode; rw [if_pos h1]
    rw [e, if_pos (by simpa using h1)]
/-- The codes of both. -/
theorem icode_scode {p : Int} {ls : List api_Link} {dl : List Int} {w : Int} : (icode p ls dl w ≠ 0 → scode p ls dl w = icode p ls dl w) ∧ (icode p ls dl w = 0 → w = 0 → scode p ls dl w = 1) ∧ (icode p ls dl w = 0 → w ≠ 0 → scode p ls dl w = 0) := by
  by_cases h1 : ccode p ls = 0
  · have e : icode p ls dl w = if (dl.length : Int) = p ∧ dl.any big = false ∧ 0 ≤ w ∧ w ≤ 16 then 0 else 1 := by unfold icode; rw [if_neg (by simp [h1])]
    have e' : scode p ls dl w = if (dl.length : Int) = p ∧ dl.any big = false ∧ 1 ≤ w ∧ w ≤ 16 then 0 else 1 := by unfold scode; rw [if_neg (by simp [h1])]
    rw [e, e']
    by_cases c : (dl.length : Int) = p ∧ dl.any big = false ∧ 0 ≤ w ∧ w ≤ 16
    · rw [if_pos c]
      refine ⟨fun h => absurd rfl h, fun _ h0 => ?_, fun _ h0 => ?_⟩
      · rw [if_neg (fun c => by omega)]
      · rw [if_pos ⟨c.1, c.2.1, by omega, c.2.2.2⟩]
    · rw [if_neg c, if_neg (fun c' => c ⟨c'.1, c'.2.1, by omega, c'.2.2.2⟩)]
      exact ⟨fun _ => rfl, fun h => absurd h (by decide), fun h => absurd h (by decide)⟩
  · have e : icode p ls dl w = ccode p ls := by unfold icode; rw [if_pos h1]
    have e' : scode p ls dl w = ccode p ls := by unfold scode; rw [if_pos h1]
    rw [e, e']
    exact ⟨fun _ => rfl, fun h => absurd h h1, fun h => absurd h h1⟩

structure RP (n : Nat) (ls : List api_Link) (p : ref31_plan) (m : Ms) : Prop where
  l : p.links = ls
  t : p.now = m.t
  at_ : ∃ A, RepV n p.at_ A ∧ ∀ d : Int, 0 ≤ d → d < n → (m.b d = false ∧ A d = -1) ∨ (m.b d = true ∧ 0 ≤ A d ∧ idx p.slots (A d) = some (m.s d))

section
variable {n w : Nat} {ls : List api_Link} {du : Int → Int} {p : ref31_plan} {m : Ms}

theorem ended_ok (R : RP n ls p m) {d : Int} (d0 : 0 ≤ d) (d1 : d < n) : ref31_plan_ended.f p d = some (over m d) := by
  obtain ⟨A, h1, h2⟩ := R.at_
  unfold ref31_plan_ended.f
  rw [h1.2 d d0 d1, Option.bind_some]
  unfold over
  rcases h2 d d0 d1 with ⟨a, b⟩ | ⟨a, b, c⟩
  · rw [if_neg (by simp; omega), a]; rfl
  · rw [if_pos (by simpa using b), c, Option.bind_some, Option.bind_some, a, R.t]; rfl

theorem refready_ok (g : GoodG n ls) (R : RP n ls p m) : ref31_plan_ready.f p = some (nextD n ls m) := by
  have hn := g.n128
  have hll := g.len
  obtain ⟨A, h1, h2⟩ := R.at_
  have hl1 : ∀ d : Int, 0 ≤ d → d < n → ref31_plan_ready.l1 p d FUEL (decide (A d < 0)) 0 = some (rdy ls m d) := fun d d0 d1 => by
    have hA : decide (A d < 0) = !m.b d := by
      rcases h2 d d0 d1 with ⟨a, b⟩ | ⟨a, b, c⟩
      · rw [a, b]; rfl
      · rw [a]; simp; exact b
    rw [hA]
    refine loop_c (L := fun k (s : Bool) i => ref31_plan_ready.l1 p d k s i) ls.length (fun i s => s = (!m.b d && (ls.take i).all (fun l => !(l.Consumer == d) || over m l.Supplier))) (fun o => o = some (rdy ls m d)) ?_ ?_ FUEL 0 _ (Nat.zero_le _) (FUEL_pos (by omega)) (by simp)
    · rintro k s i hi rfl
      have hm := List.getElem_mem hi
      have hs := g.s0 _ hm
      rw [ref31_plan_ready.l1, R.l]
      cases hc : (!m.b d && (ls.take i).all (fun l => !(l.Consumer == d) || over m l.Supplier))
      · rw [if_neg (by simp)]
        refine .inr ?_
        congr 1
        unfold rdy
        have : (!m.b d && ls.all (fun l => !(l.Consumer == d) || over m l.Supplier)) = false := by
          rw [Bool.and_eq_false_iff] at hc ⊢
          rcases hc with h | h
          · exact .inl h
          · refine .inr ?_
            rw [List.all_eq_false] at h ⊢
            obtain ⟨x, hx, hx'⟩ := h
            exact ⟨x, List.mem_of_mem_take hx, hx'⟩
        exact this.symm
      · rw [if_pos (by simp; omega), idx_get hi, Option.bind_some, wi_succ (by omega)]
        refine .inl ⟨_, rfl, ?_⟩
        have hnew : (!m.b d && (ls.take (i + 1)).all (fun l => !(l.Consumer == d) || over m l.Supplier)) = (!(ls[i].Consumer == d) || over m ls[i].Supplier) := by
          rw [List.take_succ_eq_append_getElem hi, List.all_append, ← Bool.and_assoc, hc]; simp
        rw [hnew]
        by_cases e : ls[i].Consumer = d
        · rw [if_neg (by simpa using e), ended_ok R hs.1 hs.2, Option.bind_some, Option.bind_some]
          congr 1; simp [e]
        · rw [if_pos (by simpa using e), Option.bind_some]
          congr 1; simp [e]
    · rintro k s rfl
      rw [ref31_plan_ready.l1, R.l, if_neg (by simp), List.take_length]; rfl
  unfold ref31_plan_ready.f
  rw [find_ok (L := ref31_plan_ready.l0 p) n (rdy ls m) (fun i => i) (by omega) (fun k i hi => by
    rw [ref31_plan_ready.l0, h1.1, if_pos (by simp; omega), h1.2 (i : Int) (by omega) (by omega), Option.bind_some, hl1 _ (by omega) (by omega), Option.bind_some, wi_succ (by omega)]
    cases rdy ls m (i : Int)
    · rfl
    · rfl) (fun k => by rw [ref31_plan_ready.l0, h1.1, if_neg (by simp)]), Option.bind_some]
  show _ = some (fst n (rdy ls m))
  rcases fst_spec (n := n) (P := rdy ls m) with ⟨e, _⟩ | ⟨a, _⟩
  · rw [e]; rfl
  · rw [if_pos a]; rfl

theorem reffree_ok (hw : w ≤ 16) (hl : p.slots.length ≤ 128) (R : RP n ls p m) (I : Inv n w ls du m p.slots) : ref31_plan_free.f p w = some (nextW w m) := by
  have hl1 : ∀ d : Int, ref31_plan_free.l1 p d FUEL true 0 = some (p.slots.all (fun x => (x.Worker != d) || decide (x.End ≤ p.now))) := fun d => by
    refine loop_c (L := fun k (s : Bool) i => ref31_plan_free.l1 p d k s i) p.slots.length (fun i s => s = (p.slots.take i).all (fun x => (x.Worker != d) || decide (x.End ≤ p.now))) (fun o => o = some (p.slots.all (fun x => (x.Worker != d) || decide (x.End ≤ p.now)))) ?_ ?_ FUEL 0 _ (Nat.zero_le _) (FUEL_pos (by omega)) (by simp)
    · rintro k s i hi rfl
      rw [ref31_plan_free.l1, if_pos (by simp; omega), wi_succ (by omega)]
      refine .inl ⟨_, rfl, ?_⟩
      rw [List.take_succ_eq_append_getElem hi, List.all_append]
      cases hc : (p.slots.take i).all (fun x => (x.Worker != d) || decide (x.End ≤ p.now))
      · rw [if_neg (by simp), Option.bind_some]; congr 1
      · rw [if_pos rfl, idx_get hi, Option.bind_some, Option.bind_some]; congr 1; simp
    · rintro k s rfl
      rw [ref31_plan_free.l1, if_neg (by simp), List.take_length]
  have hall : ∀ d : Int, p.slots.all (fun x => (x.Worker != d) || decide (x.End ≤ p.now)) = decide (m.f d ≤ m.t) := fun d => by
    have ht0 := I.t0
    rw [Bool.eq_iff_iff]
    simp only [List.all_eq_true, Bool.or_eq_true, bne_iff_ne, decide_eq_true_eq, R.t]
    constructor
    · intro h
      rcases I.fex d with e | ⟨x, hx, hw, he⟩
      · omega
      · rcases h x hx with h' | h'
        · exact absurd hw h'
        · omega
    · intro h x hx
      by_cases e : x.Worker = d
      · have := I.fle x hx
        rw [e] at this
        exact .inr (by omega)
      · exact .inl e
  unfold ref31_plan_free.f
  rw [find_ok (L := ref31_plan_free.l0 p w) w (fun d => decide (m.f d ≤ m.t)) (fun i => i) (by omega) (fun k i hi => by
    rw [ref31_plan_free.l0, if_pos (by simp; omega), hl1, Option.bind_some, hall, wi_succ (by omega)]
    cases decide (m.f (i : Int) ≤ m.t)
    · rfl
    · rfl) (fun k => by rw [ref31_plan_free.l0, if_neg (by simp)]), Option.bind_some]
  show _ = some (fst w (fun i => decide (m.f i ≤ m.t)))
  rcases fst_spec (n := w) (P := fun i => decide (m.f i ≤ m.t)) with ⟨e, _⟩ | ⟨a, _⟩
  · rw [e]; rfl
  · rw [if_pos a]; rfl

theorem refnext_ok (hl : p.slots.length ≤ 128) (R : RP n ls p m) (I : Inv n w ls du m p.slots) : (running w m = [] ∧ ref31_Schedule.l2 p FUEL 0 0 = some 0) ∨ (∃ t, 0 < t ∧ t ∈ running w m ∧ (∀ x ∈ running w m, t ≤ x) ∧ ref31_Schedule.l2 p FUEL 0 0 = some t) := by
  have ht0 := I.t0
  have key : ∃ v, ref31_Schedule.l2 p FUEL 0 0 = some v ∧ ((v = 0 ∧ ∀ x ∈ p.slots, ¬ m.t < x.End) ∨ (m.t < v ∧ (∃ x ∈ p.slots, x.End = v) ∧ ∀ x ∈ p.slots, m.t < x.End → v ≤ x.End)) := by
    refine loop_c (L := fun k (s : Int) i => ref31_Schedule.l2 p k s i) p.slots.length (fun i v => (v = 0 ∧ ∀ x ∈ p.slots.take i, ¬ m.t < x.End) ∨ (m.t < v ∧ (∃ x ∈ p.slots, x.End = v) ∧ ∀ x ∈ p.slots.take i, m.t < x.End → v ≤ x.End))
      (fun o => ∃ v, o = some v ∧ ((v = 0 ∧ ∀ x ∈ p.slots, ¬ m.t < x.End) ∨ (m.t < v ∧ (∃ x ∈ p.slots, x.End = v) ∧ ∀ x ∈ p.slots, m.t < x.End → v ≤ x.End))) ?_ ?_ FUEL 0 0 (Nat.zero_le _) (FUEL_pos (by omega)) (.inl ⟨rfl, by simp⟩)
    · intro k v i hi hI
      have hm := List.getElem_mem hi
      rw [ref31_Schedule.l2, if_pos (by simp; omega), idx_get hi, Option.bind_some, R.t, wi_succ (by omega)]
      by_cases c1 : m.t < p.slots[i].End
      · rcases hI with ⟨rfl, h⟩ | ⟨h1, h2, h3⟩
        · rw [if_pos (by simp [c1]), Option.bind_some]
          refine .inl ⟨_, .inr ⟨c1, ⟨_, hm, rfl⟩, fun x hx hx' => ?_⟩, rfl⟩
          rcases (mem_take_succ hi).1 hx with h' | h'
          · exact absurd hx' (h x h')
          · rw [h']; exact Int.le_refl _
        · by_cases c2 : p.slots[i].End < v
          · rw [if_pos (by simp [c1, c2]), Option.bind_some]
            refine .inl ⟨_, .inr ⟨c1, ⟨_, hm, rfl⟩, fun x hx hx' => ?_⟩, rfl⟩
            rcases (mem_take_succ hi).1 hx with h' | h'
            · have := h3 x h' hx'; omega
            · rw [h']; exact Int.le_refl _
          · rw [if_neg (by simp [c1, c2]; omega), Option.bind_some]
            refine .inl ⟨_, .inr ⟨h1, h2, fun x hx hx' => ?_⟩, rfl⟩
            rcases (mem_take_succ hi).1 hx with h' | h'
            · exact h3 x h' hx'
            · rw [h']; omega
      · rw [if_neg (by simp [c1]), Option.bind_some]
        refine .inl ⟨_, ?_, rfl⟩
        rcases hI with ⟨rfl, h⟩ | ⟨h1, h2, h3⟩
        · refine .inl ⟨rfl, fun x hx => ?_⟩
          rcases (mem_take_succ hi).1 hx with h' | h'
          · exact h x h'
          · rw [h']; exact c1
        · refine .inr ⟨h1, h2, fun x hx hx' => ?_⟩
          rcases (mem_take_succ hi).1 hx with h' | h'
          · exact h3 x h' hx'
          · rw [h'] at hx'; exact absurd hx' c1
    · intro k v hI
      rw [ref31_Schedule.l2, if_neg (by simp)]
      rw [List.take_length] at hI
      exact ⟨v, rfl, hI⟩
  obtain ⟨v, e, h⟩ := key
  have hrun : ∀ y ∈ running w m, ∃ x ∈ p.slots, x.End = y ∧ m.t < y := fun y hy => by
    obtain ⟨k, _, _, h1, h2⟩ := mem_running.1 hy
    rcases I.fex k with h | ⟨x, hx, _, he⟩
    · omega
    · exact ⟨x, hx, by omega, h2⟩
  rcases h with ⟨rfl, h⟩ | ⟨h1, ⟨x, hx, rfl⟩, h3⟩
  · refine .inl ⟨?_, e⟩
    rw [List.eq_nil_iff_forall_not_mem]
    intro y hy
    obtain ⟨x, hx, rfl, hl⟩ := hrun y hy
    exact h x hx hl
  · refine .inr ⟨_, by omega, I.over_run hx h1, fun y hy => ?_, e⟩
    obtain ⟨z, hz, rfl, hl⟩ := hrun y hy
    exact h3 z hz hl
end

/-- Times fit. -/
structure TB (m : Ms) (out : List api_Slot) : Prop where
  t : m.t ≤ out.length * 9007199254740992
  f : ∀ k, m.f k ≤ out.length * 9007199254740992
theorem TB.step {n w : Nat} {ls : List api_Link} {du : Int → Int} (hdu : ∀ i, 0 ≤ du i ∧ du i ≤ 9007199254740992) {m : Ms} {out : List api_Slot} (B : TB m out) {z' : Ms × List api_Slot} (hz : nxt n w ls du (m, out) = some z') : TB z'.1 z'.2 := by
  rcases nxt_cases hz with ⟨d, k, _, _, hd, hk, hr, hf, rfl⟩ | ⟨t, hno, ht, hlo, hlt, rfl⟩
  · have h1 := hdu d
    have h2 := B.t
    have hlen : ((out ++ [api_Slot.mk d k m.t (m.t + du d)]).length : Int) = out.length + 1 := by simp
    refine ⟨?_, fun j => ?_⟩
    · simp only [hlen]; unfold place; simp only; omega
    · have := B.f j
      simp only [hlen]; unfold place fset; simp only
      split <;> omega
  · obtain ⟨k, _, _, h1, _⟩ := mem_running.1 ht
    refine ⟨?_, B.f⟩
    have := B.f k
    simp only; omega

theorem refsched_good {n w : Nat} {ls : List api_Link} {dl : List Int} (S : GoodS n w ls dl) : ∃ m out, ref31_Schedule.f n ls dl w = some (out, 0) ∧ Sched n w ls (duf dl) m out := by
  have g := S.g
  have hn := g.n128
  have hw := S.w1
  have hw0 := S.w0
  have hll : ls.length ≤ maxLen := by have := g.len; rw [maxLen_eq]; omega
  have hic : icode n ls dl w = 0 := by
    have h := icode_scode (p := (n : Int)) (ls := ls) (dl := dl) (w := (w : Int))
    refine Classical.byContradiction fun hne => ?_
    have := h.1 hne
    rw [good_scode S] at this; omega
  unfold ref31_Schedule.f
  rw [input31_ok _ _ _ _ hll (by rw [S.dn, maxLen_eq]; omega), hic, Option.bind_some, if_neg (by simp), if_neg (by simp; omega)]
  have key0 : ∃ a, ref31_Schedule.l0 n FUEL (ref31_plan.mk ls ([] : List api_Slot) ([] : List Int) 0) 0 = some (ref31_plan.mk ls [] a 0) ∧ RepV n a (fun _ => -1) := by
    refine loop_c (L := fun k (s : ref31_plan) i => ref31_Schedule.l0 n k s i) n (fun i s => s.links = ls ∧ s.now = 0 ∧ s.at_ = List.replicate i (-1)) (fun o => ∃ a, o = some (ref31_plan.mk ls [] a 0) ∧ RepV n a (fun _ => -1)) ?_ ?_ FUEL 0 _ (Nat.zero_le _) (FUEL_pos (by omega)) ⟨rfl, rfl, rfl⟩
    · rintro k ⟨l, sl, a, t⟩ i hi ⟨h1, h2, h3⟩
      simp only at h1 h2 h3
      subst h1 h2 h3
      rw [ref31_Schedule.l0, if_pos (by simp; omega)]
      simp only
      rw [app_ok (by simp; omega), Option.bind_some, wi_succ (by omega)]
      refine .inl ⟨_, ⟨rfl, rfl, ?_⟩, rfl⟩
      simp only
      rw [List.replicate_succ']
    · rintro k ⟨l, sl, a, t⟩ ⟨h1, h2, h3⟩
      simp only at h1 h2 h3
      subst h1 h2 h3
      rw [ref31_Schedule.l0, if_neg (by simp)]
      exact ⟨_, rfl, RepV.rep n (-1)⟩
  obtain ⟨a, e0, ha⟩ := key0
  rw [e0, Option.bind_some]
  have hdu := duf_range S.d0
  have key : ∃ m out, ref31_Schedule.l1 dl w FUEL (ref31_plan.mk ls [] a 0) = some (out, 0) ∧ ∃ j, it n w ls (duf dl) j z00 = (m, out) ∧ nxt n w ls (duf dl) (m, out) = none := by
    refine loop_m (L := fun k (s : ref31_plan) => ref31_Schedule.l1 dl w k s) (fun s => ∃ m j, RP n ls s m ∧ it n w ls (duf dl) j z00 = (m, s.slots) ∧ Inv n w ls (duf dl) m s.slots ∧ TB m s.slots)
      (fun s => 2 * (n - s.slots.length) + (s.slots.filter (fun x => decide (s.now < x.End))).length) (fun o => ∃ m out, o = some (out, 0) ∧ ∃ j, it n w ls (duf dl) j z00 = (m, out) ∧ nxt n w ls (duf dl) (m, out) = none) ?_ FUEL (ref31_plan.mk ls [] a 0) ⟨z00.1, 0, ⟨rfl, rfl, _, ha, fun d _ _ => .inl ⟨rfl, rfl⟩⟩, rfl, Inv.start, ⟨by simp [z00], fun k => by simp [z00]⟩⟩ (FUEL_pos (by simp; omega))
    rintro k ⟨l, sl, at', t⟩ ⟨m, j, R, hj, I, B⟩
    simp only at hj I B ⊢
    have hl := I.out_le
    have hBt := B.t
    have hb2 : (sl.length : Int) * 9007199254740992 ≤ 128 * 9007199254740992 := Int.mul_le_mul_of_nonneg_right (by omega) (by omega)
    rw [ref31_Schedule.l1, refready_ok g R, Option.bind_some, reffree_ok (w := w) (du := duf dl) hw (by show sl.length ≤ 128; omega) R I, Option.bind_some]
    by_cases hp : 0 ≤ nextD n ls m ∧ 0 ≤ nextW w m
    · obtain ⟨p1, p2⟩ := hp
      obtain ⟨q1, q2, _⟩ := fst_lt p1
      have hbd := (rdy_iff.1 q2).1
      have hlt := unbegun_len I p1 q1 hbd
      have hnx : nxt n w ls (duf dl) (m, sl) = some (place (duf dl) m (nextD n ls m) (nextW w m), sl ++ [api_Slot.mk (nextD n ls m) (nextW w m) m.t (m.t + duf dl (nextD n ls m))]) := by unfold nxt; rw [if_pos ⟨p1, p2⟩]
      have hI' := I.step (fun i => (hdu i).1) hnx
      have hB' := B.step hdu hnx
      have hit := it_succ (n := n) (w := w) (ls := ls) (du := duf dl) j z00 _ (by rw [hj]; exact hnx)
      obtain ⟨A, h1, h2⟩ := R.at_
      have ht0 := I.t0
      rw [if_pos (by simp [p1, p2])]
      change nextD n ls m < n at q1
      change m.b (nextD n ls m) = false at hbd
      generalize nextD n ls m = d at *
      generalize nextW w m = v at *
      have hd := hdu d
      have ht : t = m.t := R.t
      have e1 : idx at' d = some (A d) := h1.2 d p1 q1
      simp only
      rw [e1, Option.bind_some, (duf_rep S.dn).2 d p1 q1, Option.bind_some, ht, wu_id (by omega) (by omega), app_ok (by simp; omega), Option.bind_some, Option.bind_some, Fl.go]
      refine .inl ⟨ref31_plan.mk l (sl ++ [api_Slot.mk d v m.t (m.t + duf dl d)]) (upd at' d (sl.length : Int)) m.t, ⟨place (duf dl) m d v, j + 1, ⟨R.l, rfl, _, h1.set p1 (sl.length : Int), fun c c0 c1 => ?_⟩, hit, hI', hB'⟩, ?_, rfl⟩
      · unfold place fset
        simp only
        by_cases e : c = d
        · rw [if_pos e, if_pos e, if_pos e]
          refine .inr ⟨rfl, by omega, ?_⟩
          rw [idx_nat (by omega)]; simp
        · rw [if_neg e, if_neg e, if_neg e]
          rcases h2 c c0 c1 with ⟨a1, a2⟩ | ⟨a1, a2, a3⟩
          · exact .inl ⟨a1, a2⟩
          · refine .inr ⟨a1, a2, ?_⟩
            have hlo := idx_hi a3
            change A c < (sl.length : Int) at hlo
            have a3' : idx sl (A c) = some (m.s c) := a3
            rw [← a3', idx_nat a2, idx_nat a2, List.getElem?_append_left (by omega)]
      · simp only [List.filter_append, List.length_append, List.length_singleton]
        have : ((List.filter (fun x => decide (m.t < x.End)) [api_Slot.mk d v m.t (m.t + duf dl d)]).length) ≤ 1 := List.length_filter_le _ _
        omega
    · rw [if_neg (by simpa using hp)]
      have hnx : nxt n w ls (duf dl) (m, sl) = match lowest (running w m) with | none => none | some t => some (⟨m.b, m.s, m.f, t⟩, sl) := by unfold nxt; rw [if_neg hp] <;> rfl
      rcases refnext_ok (w := w) (du := duf dl) (by show sl.length ≤ 128; omega) R I with ⟨h1, e⟩ | ⟨u, u0, h1, h2, e⟩
      · rw [e, Option.bind_some, if_pos (by simp), Option.bind_some, Fl.go]
        have hlow : lowest (running w m) = none := by rw [h1]; rfl
        rw [hlow] at hnx
        exact .inr ⟨m, sl, rfl, j, hj, hnx⟩
      · rw [e, Option.bind_some, if_neg (by simp; omega), Option.bind_some, Fl.go]
        rw [lowest_of h1 h2] at hnx
        have hit := it_succ (n := n) (w := w) (ls := ls) (du := duf dl) j z00 _ (by rw [hj]; exact hnx)
        obtain ⟨kk, _, _, hf, hlt⟩ := mem_running.1 h1
        have ht : t = m.t := R.t
        obtain ⟨A, a1, a2⟩ := R.at_
        refine .inl ⟨ref31_plan.mk l sl at' u, ⟨⟨m.b, m.s, m.f, u⟩, j + 1, ⟨R.l, rfl, A, a1, a2⟩, hit, I.step (fun i => (hdu i).1) hnx, B.step hdu hnx⟩, ?_, rfl⟩
        simp only
        have hx : ∃ x ∈ sl, x.End = u := by
          have := I.t0
          rcases I.fex kk with h | ⟨x, hx, _, he⟩
          · omega
          · exact ⟨x, hx, by omega⟩
        obtain ⟨x, hx, hxe⟩ := hx
        have hl2 : (sl.filter (fun x => decide (u < x.End))).length < (sl.filter (fun x => decide (t < x.End))).length := by
          have e : sl.filter (fun x => decide (u < x.End)) = (sl.filter (fun x => decide (t < x.End))).filter (fun x => decide (u < x.End)) := by
            rw [List.filter_filter]
            apply List.filter_congr
            intro y _
            by_cases q : u < y.End
            · simp [q]; omega
            · simp [q]
          rw [e]
          exact List.length_filter_lt_length_iff_exists.2 ⟨x, List.mem_filter.2 ⟨hx, by simp; omega⟩, by simp; omega⟩
        omega
  obtain ⟨m, out, e, j, hj, hno⟩ := key
  have e' : ref31_Schedule.l1 dl w FUEL (ref31_plan.mk (ref31_plan.mk ls [] a 0).links ([] : List api_Slot) (ref31_plan.mk ls [] a 0).at_ (ref31_plan.mk ls [] a 0).now) = some (out, 0) := e
  exact ⟨m, out, e', Sched.mk' S hj hno⟩

/-- Both schedules. -/
theorem sched_same {p : Int} {ls : List api_Link} {dl : List Int} {w : Int} (h : ls.length ≤ maxLen) (hd : dl.length ≤ maxLen) (hd0 : ∀ x ∈ dl, 0 ≤ x) : ∃ r, resume_Schedule.f p ls dl w = some r ∧ ref31_Schedule.f p ls dl w = some r ∧ r.1.length ≤ 128 ∧ (scode p ls dl w = 0 → r.2 = 0) := by
  obtain ⟨i1, i2, i3⟩ := icode_scode (p := p) (ls := ls) (dl := dl) (w := w)
  by_cases hs : scode p ls dl w = 0
  · obtain ⟨n, v, rfl, rfl, S⟩ := scode_good hs hd0
    obtain ⟨m, out, e, SC, _⟩ := sched_good S
    obtain ⟨m', out', e', SC'⟩ := refsched_good S
    obtain ⟨_, rfl⟩ := SC.same SC'
    exact ⟨(out, 0), e, e', by have := SC.dn.len; have := S.g.n128; simp only; omega, fun _ => rfl⟩
  · refine ⟨([], scode p ls dl w), sched_bad h hd hs, ?_, by simp, fun h => absurd h hs⟩
    unfold ref31_Schedule.f
    rw [input31_ok p ls dl w h hd, Option.bind_some]
    by_cases hi : icode p ls dl w = 0
    · have hw : w = 0 := Classical.byContradiction fun hw => hs (i3 hi hw)
      rw [if_neg (by simp [hi]), if_pos (by simp [hw]), i2 hi hw]
    · rw [if_pos (by simpa using hi), i1 hi]
end Go.Proofs.Ythmjgadmadlpkaa.Sim

namespace Go.Proofs.Ythmjgadmadlpkaa.Sim
open Go
set_option linter.unusedVariables false
set_option maxRecDepth 100000

theorem refmakespan_ok (out : List api_Slot) (hl : out.length ≤ 4294967296) : ∃ T, ref31_Makespan.f out = some T ∧ Mks out T := by
  unfold ref31_Makespan.f
  have key : ∃ T, ref31_Makespan.l0 out FUEL 0 0 = some T ∧ Mks out T := by
    refine loop_c (L := fun k (s : Int) i => ref31_Makespan.l0 out k s i) out.length (fun i s => Mks (out.take i) s) (fun o => ∃ T, o = some T ∧ Mks out T) ?_ ?_ FUEL 0 0 (Nat.zero_le _) (FUEL_pos (by omega)) (by simpa using Mks.nil)
    · intro k s i hi hI
      rw [ref31_Makespan.l0, if_pos (by simp; omega), idx_get hi, Option.bind_some, wi_succ (by omega)]
      by_cases c : s < out[i].End
      · rw [if_pos (by simpa using c), Option.bind_some]
        refine .inl ⟨_, ?_, rfl⟩
        rw [List.take_succ_eq_append_getElem hi]
        exact hI.snoc (by omega)
      · rw [if_neg (by simpa using c), Option.bind_some]
        refine .inl ⟨_, ?_, rfl⟩
        rw [List.take_succ_eq_append_getElem hi]
        exact hI.snoc (by omega)
    · intro k s hI
      rw [ref31_Makespan.l0, if_neg (by simp)]
      rw [List.take_length] at hI
      exact ⟨s, rfl, hI⟩
  obtain ⟨T, e, h⟩ := key
  rw [e]
  exact ⟨T, rfl, h⟩
theorem equalSlots_refl (a : List api_Slot) (hl : a.length ≤ 4294967296) : help_Equal_api_Slot.f a a = some true := by
  unfold help_Equal_api_Slot.f
  rw [if_neg (by simp)]
  have key : help_Equal_api_Slot.l0 a a FUEL 0 = some (.nxt ()) := by
    refine loop_c (L := fun k (_ : Unit) i => help_Equal_api_Slot.l0 a a k i) a.length (fun _ _ => True) (fun o => o = some (.nxt ())) ?_ ?_ FUEL 0 () (Nat.zero_le _) (FUEL_pos (by omega)) trivial
    · intro k _ i hi _
      rw [help_Equal_api_Slot.l0, if_pos (by simp; omega), idx_get hi, Option.bind_some, Option.bind_some, if_neg (by simp), wi_succ (by omega)]
      exact .inl ⟨(), trivial, rfl⟩
    · intro k _ _
      rw [help_Equal_api_Slot.l0, if_neg (by simp)]
  rw [key]; rfl

structure CPull (n : Nat) (ls : List api_Link) (du : Int → Int) (done : List Int) (E : Int → Int) (most : Int) : Prop where
  lo : ∀ d ∈ done, du d ≤ E d
  ex : ∀ d ∈ done, E d = du d ∨ ∃ l ∈ ls, l.Consumer = d ∧ E d = E l.Supplier + du d
  ge : ∀ l ∈ ls, l.Consumer ∈ done → E l.Supplier + du l.Consumer ≤ E l.Consumer
  bd : ∀ d, 0 ≤ E d ∧ E d ≤ done.length * 9007199254740992
  m0 : 0 ≤ most
  ml : ∀ d ∈ done, E d ≤ most
  mx : most = 0 ∨ ∃ d ∈ done, E d = most

theorem refcritical_l1 {n : Nat} {ls : List api_Link} (g : GoodG n ls) {E : Int → Int} {el : List Int} (hE : RepV n el E) (h0 : ∀ d, 0 ≤ E d) (x : Int) :
    ∃ s, ref31_CriticalPath.l1 ls el x FUEL 0 0 = some s ∧ 0 ≤ s ∧ (∀ l ∈ ls, l.Consumer = x → E l.Supplier ≤ s) ∧ (s = 0 ∨ ∃ l ∈ ls, l.Consumer = x ∧ s = E l.Supplier) := by
  have hll := g.len
  refine loop_c (L := fun k (s : Int) i => ref31_CriticalPath.l1 ls el x k s i) ls.length (fun i s => 0 ≤ s ∧ (∀ l ∈ ls.take i, l.Consumer = x → E l.Supplier ≤ s) ∧ (s = 0 ∨ ∃ l ∈ ls, l.Consumer = x ∧ s = E l.Supplier))
    (fun o => ∃ s, o = some s ∧ 0 ≤ s ∧ (∀ l ∈ ls, l.Consumer = x → E l.Supplier ≤ s) ∧ (s = 0 ∨ ∃ l ∈ ls, l.Consumer = x ∧ s = E l.Supplier)) ?_ ?_ FUEL 0 0 (Nat.zero_le _) (FUEL_pos (by omega)) ⟨Int.le_refl _, by simp, .inl rfl⟩
  · rintro k s i hi ⟨i1, i2, i3⟩
    have hm := List.getElem_mem hi
    have hs := g.s0 _ hm
    rw [ref31_CriticalPath.l1, if_pos (by simp; omega), idx_get hi, Option.bind_some, wi_succ (by omega)]
    by_cases c : ls[i].Consumer = x
    · rw [if_pos (by simpa using c), hE.2 _ hs.1 hs.2, Option.bind_some, Option.bind_some]
      by_cases c2 : s < E ls[i].Supplier
      · rw [if_pos (by simpa using c2), Option.bind_some, Option.bind_some]
        refine .inl ⟨_, ⟨h0 _, fun l hl hc => ?_, .inr ⟨_, hm, c, rfl⟩⟩, rfl⟩
        rcases (mem_take_succ hi).1 hl with h | h
        · have := i2 l h hc; omega
        · rw [h]; exact Int.le_refl _
      · rw [if_neg (by simpa using c2), Option.bind_some]
        refine .inl ⟨_, ⟨i1, fun l hl hc => ?_, i3⟩, rfl⟩
        rcases (mem_take_succ hi).1 hl with h | h
        · exact i2 l h hc
        · rw [h]; omega
    · rw [if_neg (by simpa using c), Option.bind_some, if_neg (by simp), Option.bind_some]
      refine .inl ⟨_, ⟨i1, fun l hl hc => ?_, i3⟩, rfl⟩
      rcases (mem_take_succ hi).1 hl with h | h
      · exact i2 l h hc
      · exact absurd (h ▸ hc) c
  · rintro k s ⟨i1, i2, i3⟩
    rw [ref31_CriticalPath.l1, if_neg (by simp)]
    rw [List.take_length] at i2
    exact ⟨s, rfl, i1, i2, i3⟩

theorem CPull.step {n : Nat} {ls : List api_Link} {du : Int → Int} (hdu : ∀ i, 0 ≤ du i ∧ du i ≤ 9007199254740992) {done : List Int} (hr : Run n ls done) {x : Int} (hx : least n ls done = some x) {E : Int → Int} {most s : Int} (P : CPull n ls du done E most)
    (s0 : 0 ≤ s) (s1 : ∀ l ∈ ls, l.Consumer = x → E l.Supplier ≤ s) (s2 : s = 0 ∨ ∃ l ∈ ls, l.Consumer = x ∧ s = E l.Supplier) {most' : Int} (hm : most' = max most (s + du x)) : CPull n ls du (done ++ [x]) (fset E x (s + du x)) most' := by
  obtain ⟨x0, x1, x2, _⟩ := least_some hx
  obtain ⟨x3, x4⟩ := free_iff.1 x2
  have hdx := hdu x
  have hlen : ((done ++ [x]).length : Int) = done.length + 1 := by simp
  have hin : ∀ d, d ∈ done ++ [x] ↔ d ∈ done ∨ d = x := fun d => by simp
  have hsup : ∀ l ∈ ls, l.Consumer ∈ done → l.Supplier ∈ done := hr.facts.2.2
  have hne : ∀ d ∈ done, fset E x (s + du x) d = E d := fun d hd => fset_ne _ _ (fun e => x3 (e ▸ hd))
  have hself := fset_self E x (s + du x)
  have hsb : s ≤ done.length * 9007199254740992 := by
    rcases s2 with h | ⟨l, _, _, h⟩
    · omega
    · have := (P.bd l.Supplier).2; omega
  have hm0 := P.m0
  refine ⟨?_, ?_, ?_, ?_, by omega, ?_, ?_⟩
  · intro d hd
    rcases (hin d).1 hd with h | h
    · rw [hne d h]; exact P.lo d h
    · rw [h, hself]; omega
  · intro d hd
    rcases (hin d).1 hd with h | h
    · rw [hne d h]
      rcases P.ex d h with e | ⟨l, hl, hc, e⟩
      · exact .inl e
      · exact .inr ⟨l, hl, hc, by rw [hne _ (hsup l hl (hc ▸ h))]; exact e⟩
    · rw [h, hself]
      rcases s2 with e | ⟨l, hl, hc, e⟩
      · exact .inl (by omega)
      · exact .inr ⟨l, hl, hc, by rw [hne _ (x4 l hl hc), e]⟩
  · intro l hl hc
    rcases (hin _).1 hc with h | h
    · rw [hne _ h, hne _ (hsup l hl h)]; exact P.ge l hl h
    · have := s1 l hl h
      rw [hne _ (x4 l hl h), h, hself]; omega
  · intro d
    rw [hlen]
    by_cases h : d = x
    · rw [h, hself]; omega
    · have := P.bd d
      rw [fset_ne _ _ h]; omega
  · intro d hd
    rcases (hin d).1 hd with h | h
    · rw [hne d h]; have := P.ml d h; omega
    · rw [h, hself]; omega
  · by_cases c : most ≤ s + du x
    · exact .inr ⟨x, (hin x).2 (.inr rfl), by rw [hself]; omega⟩
    · rcases P.mx with h | ⟨d, hd, h⟩
      · omega
      · exact .inr ⟨d, (hin d).2 (.inl hd), by rw [hne d hd, h]; omega⟩

theorem refcritical_good {n : Nat} {ls : List api_Link} {dl : List Int} (S : GoodS n 1 ls dl) : ∃ h c, ref31_CriticalPath.f n ls dl = some (c, 0) ∧ CPath n ls (duf dl) h ∧ CMax n h c := by
  have g := S.g
  have hn := g.n128
  have hll : ls.length ≤ maxLen := by have := g.len; rw [maxLen_eq]; omega
  have hcc : ccode (n : Int) ls = 0 := by rw [ccode_good g, if_neg S.full]
  have ho : ores (n : Int) ls = (ord n ls, 0) := by unfold ores; rw [if_pos hcc]; rfl
  have hic : icode n ls dl 0 = 0 := by
    have e : icode n ls dl 0 = if (dl.length : Int) = n ∧ dl.any big = false ∧ (0 : Int) ≤ 0 ∧ (0 : Int) ≤ 16 then 0 else 1 := by unfold icode; rw [if_neg (by simp [hcc])]
    rw [e, if_pos]
    refine ⟨by rw [S.dn], ?_, by omega, by omega⟩
    rw [List.any_eq_false]
    intro x hx
    simp [big]
    exact (S.d0 x hx).2
  unfold ref31_CriticalPath.f
  rw [input31_ok _ _ _ _ hll (by rw [S.dn, maxLen_eq]; omega), hic, Option.bind_some, if_neg (by simp), reforder_ok _ _ hll, ho, Option.bind_some, mk_ok (by omega), Option.bind_some]
  have hr := (ord_run n ls).1
  have hlen : (ord n ls).length = n := by have := ord_le n ls; have := S.full; omega
  have hdu := duf_range S.d0
  have key : ∃ E most, ref31_CriticalPath.l0 n ls dl (ord n ls, 0) FUEL (List.replicate n 0) 0 0 = some most ∧ CPull n ls (duf dl) (ord n ls) E most := by
    refine loop_c (L := fun k (s : List Int × Int) i => ref31_CriticalPath.l0 n ls dl (ord n ls, 0) k s.1 s.2 i) n (fun i s => ∃ E, RepV n s.1 E ∧ CPull n ls (duf dl) ((ord n ls).take i) E s.2)
      (fun o => ∃ E most, o = some most ∧ CPull n ls (duf dl) (ord n ls) E most) ?_ ?_ FUEL 0 (List.replicate n 0, 0) (Nat.zero_le _) (FUEL_pos (by omega)) ⟨fun _ => 0, RepV.rep n 0, ?_⟩
    · rintro k ⟨el, most⟩ i hi ⟨E, h1, h2⟩
      simp only at h1 h2 ⊢
      have hi' : i < (ord n ls).length := by omega
      have hrun := hr.pre' i (by omega)
      have hx := hr.nth' i hi'
      obtain ⟨x0, x1, _, _⟩ := least_some hx
      obtain ⟨s, e, s0, s1, s2⟩ := refcritical_l1 g h1 (fun d => (h2.bd d).1) (ord n ls)[i]
      have hl : ((ord n ls).take i).length = i := by simp; omega
      have hi2 : (i : Int) * 9007199254740992 ≤ 128 * 9007199254740992 := Int.mul_le_mul_of_nonneg_right (by omega) (by omega)
      have hd := hdu (ord n ls)[i]
      have hsb : s ≤ i * 9007199254740992 := by
        rcases s2 with h | ⟨l, _, _, h⟩
        · omega
        · have := (h2.bd l.Supplier).2; rw [hl] at this; omega
      rw [ref31_CriticalPath.l0, if_pos (by simp; omega), idx_get hi', Option.bind_some, e, Option.bind_some, (duf_rep S.dn).2 _ x0 x1, Option.bind_some, h1.2 _ x0 x1, Option.bind_some, wu_id (by omega) (by omega), (h1.set x0 _).2 _ x0 x1, Option.bind_some, fset_self, wi_succ (by omega)]
      have hst : ∀ most', most' = max most (s + duf dl (ord n ls)[i]) → CPull n ls (duf dl) ((ord n ls).take (i + 1)) (fset E (ord n ls)[i] (s + duf dl (ord n ls)[i])) most' := fun most' hm => by
        rw [List.take_succ_eq_append_getElem hi']; exact h2.step hdu hrun hx s0 s1 s2 hm
      by_cases c : most < s + duf dl (ord n ls)[i]
      · rw [if_pos (by simpa using c), Option.bind_some]
        exact .inl ⟨(upd el (ord n ls)[i] (s + duf dl (ord n ls)[i]), s + duf dl (ord n ls)[i]), ⟨_, h1.set x0 _, hst _ (by omega)⟩, rfl⟩
      · rw [if_neg (by simpa using c), Option.bind_some]
        exact .inl ⟨(upd el (ord n ls)[i] (s + duf dl (ord n ls)[i]), most), ⟨_, h1.set x0 _, hst _ (by omega)⟩, rfl⟩
    · rintro k ⟨el, most⟩ ⟨E, h1, h2⟩
      simp only at h1 h2 ⊢
      rw [ref31_CriticalPath.l0, if_neg (by simp)]
      rw [List.take_of_length_le (by omega)] at h2
      exact ⟨E, most, rfl, h2⟩
    · refine ⟨by simp, by simp, by simp, fun d => ⟨Int.le_refl _, by simp⟩, Int.le_refl _, by simp, .inl rfl⟩
  obtain ⟨E, most, e, P⟩ := key
  rw [e, Option.bind_some]
  have hin : ∀ d : Int, 0 ≤ d → d < n → d ∈ ord n ls := fun d h0 h1 => ord_full S.full h0 h1
  refine ⟨E, most, rfl, ⟨fun d h0 h1 => P.lo d (hin d h0 h1), fun l hl => ?_, fun d h0 h1 => P.ex d (hin d h0 h1)⟩, ⟨P.m0, fun d h0 h1 => P.ml d (hin d h0 h1), ?_⟩⟩
  · have hc := g.c0 l hl
    exact P.ge l hl (hin _ hc.1 hc.2)
  · rcases P.mx with h | ⟨d, hd, h⟩
    · exact .inl h
    · have := (ord_run n ls).1.facts.2.1 d hd
      exact .inr ⟨d, this.1, this.2, h⟩
theorem refcritical_bad {p : Int} {ls : List api_Link} {dl : List Int} (h : ls.length ≤ maxLen) (hd : dl.length ≤ maxLen) (hs : icode p ls dl 0 ≠ 0) : ref31_CriticalPath.f p ls dl = some (0, icode p ls dl 0) := by
  unfold ref31_CriticalPath.f
  rw [input31_ok _ _ _ _ h hd, Option.bind_some, if_pos (by simpa using hs)]
theorem icode1 {p : Int} {ls : List api_Link} {dl : List Int} : icode p ls dl 0 = scode p ls dl 1 := by
  by_cases h1 : ccode p ls = 0
  · have e : icode p ls dl 0 = if (dl.length : Int) = p ∧ dl.any big = false ∧ (0 : Int) ≤ 0 ∧ (0 : Int) ≤ 16 then 0 else 1 := by unfold icode; rw [if_neg (by simp [h1])]
    have e' : scode p ls dl 1 = if (dl.length : Int) = p ∧ dl.any big = false ∧ (1 : Int) ≤ 1 ∧ (1 : Int) ≤ 16 then 0 else 1 := by unfold scode; rw [if_neg (by simp [h1])]
    rw [e, e']
    by_cases c : (dl.length : Int) = p ∧ dl.any big = false
    · rw [if_pos ⟨c.1, c.2, by omega, by omega⟩, if_pos ⟨c.1, c.2, by omega, by omega⟩]
    · rw [if_neg (fun h => c ⟨h.1, h.2.1⟩), if_neg (fun h => c ⟨h.1, h.2.1⟩)]
  · have e : icode p ls dl 0 = ccode p ls := by unfold icode; rw [if_pos h1]
    have e' : scode p ls dl 1 = ccode p ls := by unfold scode; rw [if_pos h1]
    rw [e, e']
/-- Both longest chains. -/
theorem critical_same {p : Int} {ls : List api_Link} {dl : List Int} (h : ls.length ≤ maxLen) (hd : dl.length ≤ maxLen) (hd0 : ∀ x ∈ dl, 0 ≤ x) : ∃ r, resume_CriticalPath.f p ls dl = some r ∧ ref31_CriticalPath.f p ls dl = some r := by
  by_cases hs : scode p ls dl 1 = 0
  · obtain ⟨n, v, rfl, hv, S⟩ := scode_good hs hd0
    have : v = 1 := by omega
    subst this
    obtain ⟨a, c, e, h1, h2, _⟩ := critical_good S
    obtain ⟨a', c', e', h1', h2'⟩ := refcritical_good S
    have := CPath.uniq S.g S.full h1 h1' h2 h2'
    subst this
    exact ⟨_, e, e'⟩
  · refine ⟨_, critical_bad h hd hs, ?_⟩
    rw [refcritical_bad h hd (by rw [icode1]; exact hs), icode1]
end Go.Proofs.Ythmjgadmadlpkaa.Sim

namespace Go.Proofs.Ythmjgadmadlpkaa.Sim
open Go
set_option linter.unusedVariables false
set_option maxRecDepth 100000

theorem resumeScheduleAgrees : law31_ResumeScheduleAgrees.Pure := by
  intro p0 p1 p2 p3 _ h1 h2 _
  unfold law31_ResumeScheduleAgrees.f
  by_cases hb : 40 < p1.length ∨ 20 < p2.length
  · rw [if_pos (by simp; omega), awake31_ok]; rfl
  · rw [if_neg (by simp; omega)]
    obtain ⟨n, ls, e1, g⟩ := graph_ok p0 p1 true h1.1
    have hn := g.n13
    have hll : ls.length ≤ maxLen := by have := g.good.len; rw [maxLen_eq]; omega
    obtain ⟨w, e2, e3, w0, w1⟩ := mod1_ok p3 5 (by omega) (by omega)
    have hp2 : ∀ x ∈ p2, 0 ≤ x := fun x hx => (u64_range (h2.2 x hx)).1
    obtain ⟨dl, e4, d1, d2⟩ := durations_ok n (by omega) p2 hp2 h2.1
    have hdl : dl.length ≤ maxLen := by rw [maxLen_eq]; omega
    obtain ⟨r, a1, a2, a3, _⟩ := sched_same (p := (n : Int)) (ls := ls) (dl := dl) (w := (w : Int)) hll hdl (fun x hx => (d2 x hx).1)
    obtain ⟨c, b1, b2⟩ := critical_same (p := (n : Int)) (ls := ls) (dl := dl) hll hdl (fun x hx => (d2 x hx).1)
    obtain ⟨r', a1', a2', a3', _⟩ := sched_same (p := (n : Int)) (ls := ls) (dl := p2) (w := p3) hll h2.1 hp2
    obtain ⟨c', b1', b2'⟩ := critical_same (p := p0) (ls := p1) (dl := p2) h1.1 h2.1 hp2
    obtain ⟨T, t1, t2⟩ := makespan_ok r.1 (by omega)
    obtain ⟨T', t1', t2'⟩ := refmakespan_ok r.1 (by omega)
    have := t2.uniq t2'
    subst this
    have e2' : help_Mod.f p3 5 = some ((w : Int) - 1) := e2
    rw [e1, Option.bind_some, e2', Option.bind_some]
    simp only
    rw [e4, Option.bind_some, e3, a1, Option.bind_some, a2, Option.bind_some, b1, Option.bind_some, b2, Option.bind_some, if_neg (by simp), equalSlots_refl r.1 (by omega), Option.bind_some, Option.bind_some, if_neg (by simp), t1, Option.bind_some, t1', Option.bind_some, Option.bind_some, if_neg (by simp),
      a1', Option.bind_some, a2', Option.bind_some, b1', Option.bind_some, b2', Option.bind_some, if_pos (by simp), equalSlots_refl r'.1 (by omega), Option.bind_some, Option.bind_some, if_pos rfl, awake31_ok]; rfl
end Go.Proofs.Ythmjgadmadlpkaa.Sim
