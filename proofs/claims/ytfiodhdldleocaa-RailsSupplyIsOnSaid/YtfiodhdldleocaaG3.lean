/-
  Plain lemmas: the order of a graph, by its definition; both programs return it.
-/
import Derived.Test.YtfiodhdldleocaaG2
namespace Go.Proofs.Ytfiodhdldleocaa.Sim
open Go
set_option linter.unusedVariables false

/-! ### consumers and counts -/

def consOf (ls : List api_Link) (s : Int) : List Int := (ls.filter (fun l => l.Supplier == s)).map (·.Consumer)
def rem (ls : List api_Link) (out : List Int) (c : Int) : Nat := ls.countP (fun l => (l.Consumer == c) && decide (l.Supplier ∉ out))

theorem mem_consOf {ls : List api_Link} {s c : Int} : c ∈ consOf ls s ↔ api_Link.mk c s ∈ ls := by
  unfold consOf
  simp only [List.mem_map, List.mem_filter, beq_iff_eq]
  constructor
  · rintro ⟨l, ⟨h1, h2⟩, rfl⟩; subst h2; exact h1
  · intro h; exact ⟨_, ⟨h, rfl⟩, rfl⟩

theorem rem_split {out : List Int} {x : Int} (hx : x ∉ out) : ∀ (ls : List api_Link) (c : Int), rem ls out c = rem ls (out ++ [x]) c + (consOf ls x).count c
  | [], c => by simp [rem, consOf]
  | l :: t, c => by
    have ih := rem_split hx t c
    unfold rem consOf at ih ⊢
    simp only [List.countP_cons, List.filter_cons]
    by_cases h1 : l.Consumer = c <;> by_cases h2 : l.Supplier = x <;> by_cases h4 : l.Supplier ∈ out <;> grind

theorem consOf_snoc (ls : List api_Link) (l : api_Link) (s : Int) : consOf (ls ++ [l]) s = if l.Supplier = s then consOf ls s ++ [l.Consumer] else consOf ls s := by
  unfold consOf
  by_cases h : l.Supplier = s <;> simp [List.filter_append, h]
theorem rem_snoc (ls : List api_Link) (l : api_Link) (c : Int) : rem (ls ++ [l]) [] c = rem ls [] c + if l.Consumer = c then 1 else 0 := by
  unfold rem
  by_cases h : l.Consumer = c <;> simp [List.countP_append, h]
theorem rem_le (ls : List api_Link) (out : List Int) (c : Int) : rem ls out c ≤ ls.length := List.countP_le_length
theorem consOf_le (ls : List api_Link) (s : Int) : (consOf ls s).length ≤ ls.length := by
  unfold consOf; rw [List.length_map]; exact List.length_filter_le _ _

theorem adjacent_ok {n : Nat} {ls : List api_Link} (g : GoodG n ls) : ∃ adj cnt, depgraph_adjacent.f (n : Int) ls = some (adj, cnt) ∧ adj.length = n ∧ cnt.length = n ∧ ∀ v, 0 ≤ v → v < (n : Int) → idx adj v = some (consOf ls v) ∧ idx cnt v = some (rem ls [] v : Int) := by
  have hn := g.n128
  have hl := g.len
  unfold depgraph_adjacent.f
  rw [mk_ok (by omega), mk_ok (by omega)]
  simp only [Option.bind_some]
  have key : ∃ adj cnt, depgraph_adjacent.l0 ls FUEL (List.replicate n []) (List.replicate n 0) 0 = some (adj, cnt) ∧ adj.length = n ∧ cnt.length = n ∧ ∀ v, 0 ≤ v → v < (n : Int) → idx adj v = some (consOf ls v) ∧ idx cnt v = some (rem ls [] v : Int) := by
    refine loop_c (L := fun k (s : List (List Int) × List Int) i => depgraph_adjacent.l0 ls k s.1 s.2 i) ls.length (fun i s => s.1.length = n ∧ s.2.length = n ∧ ∀ v, 0 ≤ v → v < (n : Int) → idx s.1 v = some (consOf (ls.take i) v) ∧ idx s.2 v = some (rem (ls.take i) [] v : Int))
      (fun o => ∃ adj cnt, o = some (adj, cnt) ∧ adj.length = n ∧ cnt.length = n ∧ ∀ v, 0 ≤ v → v < (n : Int) → idx adj v = some (consOf ls v) ∧ idx cnt v = some (rem ls [] v : Int)) ?_ ?_ FUEL 0 (_, _) (Nat.zero_le _) (FUEL_pos (by omega)) ?_
    · rintro k ⟨adj, cnt⟩ i hi ⟨h1, h2, h3⟩
      simp only at h1 h2 h3 ⊢
      have hm := List.getElem_mem hi
      have hc := g.c0 _ hm
      have hs := g.s0 _ hm
      rw [depgraph_adjacent.l0, if_pos (by simp; omega), idx_get hi]
      simp only [Option.bind_some]
      have hcl := consOf_le (ls.take i) ls[i].Supplier
      rw [List.length_take] at hcl
      have hrl := rem_le (ls.take i) [] ls[i].Consumer
      rw [List.length_take] at hrl
      rw [(h3 _ hs.1 hs.2).1]
      simp only [Option.bind_some]
      rw [app_ok (by simp only [List.length_singleton]; omega)]
      simp only [Option.bind_some]
      rw [(h3 _ hc.1 hc.2).2]
      simp only [Option.bind_some]
      refine .inl ⟨(upd adj ls[i].Supplier (consOf (ls.take i) ls[i].Supplier ++ [ls[i].Consumer]), upd cnt ls[i].Consumer ((rem (ls.take i) [] ls[i].Consumer + 1 : Nat) : Int)), ?_, by rw [wi_succ (by omega), wi_succ (by omega)]⟩
      refine ⟨by rw [upd_length]; exact h1, by rw [upd_length]; exact h2, fun v v0 v1 => ?_⟩
      rw [idx_upd (xs := adj) hs.1 v0 (by omega), idx_upd (xs := cnt) hc.1 v0 (by omega), List.take_succ_eq_append_getElem hi, consOf_snoc, rem_snoc]
      obtain ⟨q1, q2⟩ := h3 v v0 v1
      constructor
      · by_cases e : ls[i].Supplier = v
        · subst e; rw [if_pos rfl, if_pos rfl]
        · rw [if_neg e, if_neg e]; exact q1
      · by_cases e : ls[i].Consumer = v
        · subst e; rw [if_pos rfl, if_pos rfl]
        · rw [if_neg e, if_neg e]; exact q2
    · rintro k ⟨adj, cnt⟩ ⟨h1, h2, h3⟩
      simp only at h1 h2 h3 ⊢
      rw [depgraph_adjacent.l0, if_neg (by simp)]
      rw [List.take_length] at h3
      exact ⟨adj, cnt, rfl, h1, h2, h3⟩
    · refine ⟨by simp, by simp, fun v v0 v1 => ?_⟩
      simp only
      rw [idx_replicate v0 v1, idx_replicate v0 v1]
      simp [consOf, rem]
  obtain ⟨adj, cnt, h1, h2⟩ := key
  rw [h1]
  exact ⟨adj, cnt, rfl, h2⟩

/-! ### the order -/

def free (ls : List api_Link) (out : List Int) (v : Int) : Bool := decide (v ∉ out) && ls.all (fun l => !(l.Consumer == v) || decide (l.Supplier ∈ out))
def least (n : Nat) (ls : List api_Link) (out : List Int) : Option Int := (below n).find? (free ls out)

theorem free_iff {ls : List api_Link} {out : List Int} {v : Int} : free ls out v = true ↔ v ∉ out ∧ ∀ l ∈ ls, l.Consumer = v → l.Supplier ∈ out := by
  unfold free
  simp only [Bool.and_eq_true, decide_eq_true_eq, List.all_eq_true, Bool.or_eq_true, Bool.not_eq_true', beq_eq_false_iff_ne, ne_eq]
  constructor
  · rintro ⟨h1, h2⟩; exact ⟨h1, fun l hl e => (h2 l hl).resolve_left (fun h => h e)⟩
  · rintro ⟨h1, h2⟩; exact ⟨h1, fun l hl => by by_cases e : l.Consumer = v <;> simp [e, h2 l hl]⟩

theorem free_rem {ls : List api_Link} {out : List Int} {v : Int} : free ls out v = true ↔ v ∉ out ∧ rem ls out v = 0 := by
  rw [free_iff]
  unfold rem
  rw [List.countP_eq_zero]
  simp only [Bool.and_eq_true, beq_iff_eq, decide_eq_true_eq, not_and, Decidable.not_not]

theorem find_below (P : Int → Bool) : ∀ (n : Nat), ((∀ u : Int, 0 ≤ u → u < n → P u = false) ∧ (below n).find? P = none) ∨ ∃ v : Int, 0 ≤ v ∧ v < n ∧ P v = true ∧ (∀ u : Int, 0 ≤ u → u < v → P u = false) ∧ (below n).find? P = some v
  | 0 => .inl ⟨fun u h0 h1 => by omega, by simp [below]⟩
  | n + 1 => by
    rw [below_succ, List.find?_append]
    rcases find_below P n with ⟨h1, h2⟩ | ⟨v, h1, h2, h3, h4, h5⟩
    · rw [h2]
      by_cases hp : P (n : Int) = true
      · exact .inr ⟨n, by omega, by omega, hp, h1, by simp [hp]⟩
      · refine .inl ⟨fun u h0 h3 => ?_, by simp [hp]⟩
        by_cases e : u = n
        · subst e; simpa using hp
        · exact h1 u h0 (by omega)
    · exact .inr ⟨v, h1, by omega, h3, h4, by rw [h5]; rfl⟩

theorem least_of {n : Nat} {ls : List api_Link} {out : List Int} {v : Int} (h0 : 0 ≤ v) (h1 : v < n) (h2 : free ls out v = true) (h3 : ∀ u, 0 ≤ u → u < v → free ls out u = false) : least n ls out = some v := by
  rcases find_below (free ls out) n with ⟨h4, h5⟩ | ⟨u, h4, h5, h6, h7, h8⟩
  · rw [h4 v h0 h1] at h2; cases h2
  · have : u = v := by
      rcases Int.lt_trichotomy u v with h | h | h
      · rw [h3 u h4 h] at h6; cases h6
      · exact h
      · rw [h7 v h0 h] at h2; cases h2
    subst this; exact h8
theorem least_some {n : Nat} {ls : List api_Link} {out : List Int} {v : Int} (h : least n ls out = some v) : 0 ≤ v ∧ v < n ∧ free ls out v = true ∧ ∀ u, 0 ≤ u → u < v → free ls out u = false := by
  rcases find_below (free ls out) n with ⟨h4, h5⟩ | ⟨u, h4, h5, h6, h7, h8⟩
  · unfold least at h; rw [h5] at h; cases h
  · unfold least at h; rw [h8] at h; injection h with h; subst h; exact ⟨h4, h5, h6, h7⟩
theorem least_none {n : Nat} {ls : List api_Link} {out : List Int} : least n ls out = none ↔ ∀ u : Int, 0 ≤ u → u < n → free ls out u = false := by
  rcases find_below (free ls out) n with ⟨h4, h5⟩ | ⟨u, h4, h5, h6, h7, h8⟩
  · exact ⟨fun _ => h4, fun _ => h5⟩
  · refine ⟨fun h => ?_, fun h => ?_⟩
    · unfold least at h; rw [h8] at h; cases h
    · rw [h u h4 h5] at h6; cases h6

inductive Run (n : Nat) (ls : List api_Link) : List Int → Prop where
  | nil : Run n ls []
  | snoc {out : List Int} {v : Int} (h : Run n ls out) (hv : least n ls out = some v) : Run n ls (out ++ [v])

theorem Run.facts {n : Nat} {ls : List api_Link} {out : List Int} (h : Run n ls out) : out.Nodup ∧ (∀ v ∈ out, 0 ≤ v ∧ v < n) ∧ ∀ l ∈ ls, l.Consumer ∈ out → l.Supplier ∈ out := by
  induction h with
  | nil => simp
  | @snoc out v h hv ih =>
    obtain ⟨h1, h2, h3⟩ := ih
    obtain ⟨h4, h5, h6, h7⟩ := least_some hv
    obtain ⟨h8, h9⟩ := free_iff.1 h6
    refine ⟨?_, fun u hu => ?_, fun l hl hc => ?_⟩
    · rw [List.nodup_append]
      refine ⟨h1, by simp, fun a ha b hb => ?_⟩
      simp only [List.mem_singleton] at hb
      subst hb
      exact fun e => h8 (e ▸ ha)
    · rcases List.mem_append.1 hu with hu | hu
      · exact h2 u hu
      · simp only [List.mem_singleton] at hu; subst hu; exact ⟨h4, h5⟩
    · rcases List.mem_append.1 hc with hc | hc
      · exact List.mem_append.2 (.inl (h3 l hl hc))
      · simp only [List.mem_singleton] at hc
        exact List.mem_append.2 (.inl (h9 l hl hc))
theorem Run.length_le {n : Nat} {ls : List api_Link} {out : List Int} (h : Run n ls out) : out.length ≤ n := by
  have := nodup_le h.facts.1 (fun x hx => mem_below.2 (h.facts.2.1 x hx))
  rwa [below_length] at this

def greedy (n : Nat) (ls : List api_Link) : Nat → List Int → List Int
  | 0, out => out
  | k + 1, out => match least n ls out with
    | none => out
    | some v => greedy n ls k (out ++ [v])
def ord (n : Nat) (ls : List api_Link) : List Int := greedy n ls (n + 1) []

theorem Run.greedy {n : Nat} {ls : List api_Link} {out : List Int} (h : Run n ls out) (k : Nat) : Sim.greedy n ls (k + out.length) [] = Sim.greedy n ls k out := by
  induction h generalizing k with
  | nil => rfl
  | @snoc out v h hv ih =>
    have := ih (k + 1)
    rw [show k + 1 + out.length = k + (out ++ [v]).length from by simp; omega] at this
    rw [this, Sim.greedy, hv]
theorem Run.ord {n : Nat} {ls : List api_Link} {out : List Int} (h : Run n ls out) (hn : least n ls out = none) : out = Sim.ord n ls := by
  have h1 := h.length_le
  have h2 := h.greedy (n + 1 - out.length)
  rw [show n + 1 - out.length + out.length = n + 1 from by omega] at h2
  unfold Sim.ord
  rw [h2, show n + 1 - out.length = (n - out.length) + 1 from by omega, Sim.greedy, hn]
theorem greedy_run {n : Nat} {ls : List api_Link} : ∀ (k : Nat) (out : List Int), Run n ls out → n < k + out.length → Run n ls (greedy n ls k out) ∧ least n ls (greedy n ls k out) = none
  | 0, out, h, hk => by have := h.length_le; omega
  | k + 1, out, h, hk => by
    rw [greedy]
    split
    · rename_i hn; exact ⟨h, hn⟩
    · rename_i v hv; exact greedy_run k _ (h.snoc hv) (by simp; omega)
theorem ord_run (n : Nat) (ls : List api_Link) : Run n ls (ord n ls) ∧ least n ls (ord n ls) = none := greedy_run _ _ .nil (by simp)
theorem ord_le (n : Nat) (ls : List api_Link) : (ord n ls).length ≤ n := (ord_run n ls).1.length_le

/-! ### the program's way -/

structure Que (n : Nat) (q : List Int) (P : Int → Prop) : Prop where
  heap : Heap q q.length
  nodup : q.Nodup
  mem : ∀ v, v ∈ q ↔ 0 ≤ v ∧ v < (n : Int) ∧ P v

theorem Que.len {n : Nat} {q : List Int} {P : Int → Prop} (h : Que n q P) : q.length ≤ n := by
  have := nodup_le h.nodup (fun x hx => mem_below.2 ⟨((h.mem x).1 hx).1, ((h.mem x).1 hx).2.1⟩)
  rwa [below_length] at this
theorem Que.congr {n : Nat} {q : List Int} {P Q : Int → Prop} (h : Que n q P) (hpq : ∀ v, 0 ≤ v → v < (n : Int) → (P v ↔ Q v)) : Que n q Q :=
  ⟨h.heap, h.nodup, fun v => by rw [h.mem]; constructor <;> rintro ⟨a, b, c⟩; exact ⟨a, b, (hpq v a b).1 c⟩; exact ⟨a, b, (hpq v a b).2 c⟩⟩
theorem Que.push {n : Nat} {q : List Int} {P : Int → Prop} (h : Que n q P) (hn : n ≤ 128) {x : Int} (h0 : 0 ≤ x) (h1 : x < n) (hx : ¬ P x) : ∃ q', heap_Push.f ⟨q⟩ x = some ⟨q'⟩ ∧ Que n q' (fun v => v = x ∨ P v) := by
  have hl := h.len
  obtain ⟨q', e, hp, hh⟩ := push_ok q x (by omega) h.heap
  refine ⟨q', e, hh, ?_, fun v => ?_⟩
  · rw [hp.nodup_iff, List.nodup_cons]
    exact ⟨fun hm => hx ((h.mem x).1 hm).2.2, h.nodup⟩
  · rw [hp.mem_iff, List.mem_cons, h.mem]
    constructor
    · rintro (rfl | ⟨a, b, c⟩)
      · exact ⟨h0, h1, .inl rfl⟩
      · exact ⟨a, b, .inr c⟩
    · rintro ⟨a, b, rfl | c⟩
      · exact .inl rfl
      · exact .inr ⟨a, b, c⟩

theorem sort_l0 {n : Nat} (hn : n ≤ 128) {adj : List (List Int)} {cnt : List Int} (hc : cnt.length = n) : ∃ q, depgraph_sort.l0 (adj, cnt) FUEL [] 0 = some q ∧ Que n q (fun v => idx cnt v = some 0) := by
  refine loop_c (L := fun k (s : List Int) i => depgraph_sort.l0 (adj, cnt) k s i) n (fun i s => Que n s (fun v => v < (i : Int) ∧ idx cnt v = some 0)) (fun o => ∃ q, o = some q ∧ Que n q (fun v => idx cnt v = some 0)) ?_ ?_ FUEL 0 [] (Nat.zero_le _) (FUEL_pos (by omega)) ⟨fun k h0 h1 => by simp at h1, by simp, fun v => by simp; omega⟩
  · rintro k s i hi hq
    rw [depgraph_sort.l0, if_pos (by show decide ((i : Int) < (cnt.length : Int)) = true; simp; omega), idx_get (xs := cnt) (by omega)]
    simp only [Option.bind_some]
    by_cases e : cnt[i] = 0
    · rw [if_pos (by simp [e])]
      obtain ⟨q', h1, h2⟩ := hq.push hn (x := (i : Int)) (by omega) (by omega) (fun h => by omega)
      rw [h1]
      refine .inl ⟨q', h2.congr (fun v v0 v1 => ?_), by rw [wi_succ (by omega)]; rfl⟩
      constructor
      · rintro (rfl | ⟨h3, h4⟩)
        · exact ⟨by omega, by rw [idx_get (by omega), e]⟩
        · exact ⟨by omega, h4⟩
      · rintro ⟨h3, h4⟩
        by_cases e2 : v = i
        · exact .inl e2
        · exact .inr ⟨by omega, h4⟩
    · rw [if_neg (by simp [e])]
      refine .inl ⟨s, hq.congr (fun v v0 v1 => ?_), by rw [wi_succ (by omega)]; rfl⟩
      constructor
      · rintro ⟨h3, h4⟩; exact ⟨by omega, h4⟩
      · rintro ⟨h3, h4⟩
        by_cases e2 : v = i
        · subst e2; rw [idx_get (by omega)] at h4; injection h4 with h4; exact absurd h4 e
        · exact ⟨by omega, h4⟩
  · rintro k s hq
    rw [depgraph_sort.l0, if_neg (by simp only [decide_eq_true_eq]; omega)]
    exact ⟨s, rfl, hq.congr (fun v v0 v1 => ⟨fun h => h.2, fun h => ⟨v1, h⟩⟩)⟩

theorem sort_l2 {n : Nat} {ls : List api_Link} (g : GoodG n ls) {out : List Int} (hr : Run n ls out) {x : Int} (hx : least n ls out = some x) {cnt q : List Int} (hc : cnt.length = n) (hcv : ∀ v : Int, 0 ≤ v → v < n → idx cnt v = some (rem ls out v : Int)) (hq : Que n q (fun v => v ∉ out ++ [x] ∧ idx cnt v = some 0)) :
    ∃ cnt' q', depgraph_sort.l2 (out ++ [x]) (consOf ls x) FUEL cnt q 0 = some (.nxt (cnt', q', out ++ [x])) ∧ cnt'.length = n ∧ (∀ v : Int, 0 ≤ v → v < n → idx cnt' v = some (rem ls (out ++ [x]) v : Int)) ∧ Que n q' (fun v => v ∉ out ++ [x] ∧ idx cnt' v = some 0) := by
  have hn := g.n128
  have hl := g.len
  have hcl := consOf_le ls x
  obtain ⟨x0, x1, hfree, _⟩ := least_some hx
  obtain ⟨hxo, hxs⟩ := free_iff.1 hfree
  have hmem : ∀ c ∈ consOf ls x, (0 ≤ c ∧ c < n) ∧ c ∉ out ++ [x] := by
    intro c hc
    have hm := mem_consOf.1 hc
    refine ⟨g.c0 _ hm, fun h => ?_⟩
    rcases List.mem_append.1 h with h | h
    · exact hxo (hr.facts.2.2 _ hm h)
    · simp only [List.mem_singleton] at h
      exact hxo (hxs _ hm h)
  refine loop_c (L := fun k (s : List Int × List Int) i => depgraph_sort.l2 (out ++ [x]) (consOf ls x) k s.1 s.2 i) (consOf ls x).length
    (fun i s => s.1.length = n ∧ (∀ v : Int, 0 ≤ v → v < n → idx s.1 v = some ((rem ls (out ++ [x]) v + ((consOf ls x).drop i).count v : Nat) : Int)) ∧ Que n s.2 (fun v => v ∉ out ++ [x] ∧ idx s.1 v = some 0))
    (fun o => ∃ cnt' q', o = some (.nxt (cnt', q', out ++ [x])) ∧ cnt'.length = n ∧ (∀ v : Int, 0 ≤ v → v < n → idx cnt' v = some (rem ls (out ++ [x]) v : Int)) ∧ Que n q' (fun v => v ∉ out ++ [x] ∧ idx cnt' v = some 0)) ?_ ?_ FUEL 0 (cnt, q) (Nat.zero_le _) (FUEL_pos (by omega)) ⟨hc, fun v v0 v1 => by rw [hcv v v0 v1, rem_split hxo]; rfl, hq⟩
  · rintro k ⟨cn, qq⟩ i hi ⟨i1, i2, i3⟩
    simp only at i1 i2 i3 ⊢
    obtain ⟨⟨c0, c1⟩, co⟩ := hmem _ (List.getElem_mem hi)
    rw [depgraph_sort.l2, if_pos (by simp; omega), idx_get hi]
    simp only [Option.bind_some]
    generalize hcc : (consOf ls x)[i] = c at *
    have hdrop : (consOf ls x).drop i = c :: (consOf ls x).drop (i + 1) := by rw [List.drop_eq_getElem_cons hi, hcc]
    have hcur := i2 c c0 c1
    have hrle := rem_le ls (out ++ [x]) c
    have hcle : ((consOf ls x).drop (i + 1)).count c ≤ (consOf ls x).length := Nat.le_trans List.count_le_length (by simp)
    rw [hdrop, List.count_cons_self] at hcur
    rw [hcur]
    simp only [Option.bind_some]
    have e1 : wi (((rem ls (out ++ [x]) c + (((consOf ls x).drop (i + 1)).count c + 1) : Nat) : Int) - 1) = ((rem ls (out ++ [x]) c + ((consOf ls x).drop (i + 1)).count c : Nat) : Int) := by
      rw [wi_id (by omega) (by omega)]; omega
    rw [e1]
    have hnew : ∀ v : Int, 0 ≤ v → v < n → idx (upd cn c ((rem ls (out ++ [x]) c + ((consOf ls x).drop (i + 1)).count c : Nat) : Int)) v = some ((rem ls (out ++ [x]) v + ((consOf ls x).drop (i + 1)).count v : Nat) : Int) := by
      intro v v0 v1
      rw [idx_upd (xs := cn) c0 v0 (by omega)]
      by_cases e : c = v
      · subst e; rw [if_pos rfl]
      · rw [if_neg e, i2 v v0 v1, hdrop, List.count_cons_of_ne e]
    rw [hnew c c0 c1]
    simp only [Option.bind_some]
    have hne : ∀ v, v ≠ c → 0 ≤ v → v < (n : Int) → (idx (upd cn c ((rem ls (out ++ [x]) c + ((consOf ls x).drop (i + 1)).count c : Nat) : Int)) v = some 0 ↔ idx cn v = some 0) := by
      intro v hv v0 v1
      rw [idx_upd (xs := cn) c0 v0 (by omega), if_neg (fun e => hv e.symm)]
    have hpos : idx cn c ≠ some 0 := by
      rw [hcur]; intro h; injection h with h; omega
    by_cases hz : (rem ls (out ++ [x]) c + ((consOf ls x).drop (i + 1)).count c) = 0
    · rw [if_pos (by rw [hz]; rfl)]
      obtain ⟨q', p1, p2⟩ := i3.push hn c0 c1 (fun h => hpos h.2)
      rw [p1]
      refine .inl ⟨(upd cn c ((rem ls (out ++ [x]) c + ((consOf ls x).drop (i + 1)).count c : Nat) : Int), q'), ⟨by rw [upd_length]; exact i1, hnew, p2.congr (fun v v0 v1 => ?_)⟩, by rw [wi_succ (by omega)]; rfl⟩
      by_cases e : v = c
      · subst e
        refine ⟨fun _ => ⟨co, by rw [hnew v c0 c1, hz]; rfl⟩, fun _ => .inl rfl⟩
      · constructor
        · rintro (h | ⟨h1, h2⟩)
          · exact absurd h e
          · exact ⟨h1, (hne v e v0 v1).2 h2⟩
        · rintro ⟨h1, h2⟩; exact .inr ⟨h1, (hne v e v0 v1).1 h2⟩
    · rw [if_neg (by simp only [beq_iff_eq]; omega)]
      refine .inl ⟨(upd cn c ((rem ls (out ++ [x]) c + ((consOf ls x).drop (i + 1)).count c : Nat) : Int), qq), ⟨by rw [upd_length]; exact i1, hnew, i3.congr (fun v v0 v1 => ?_)⟩, by rw [wi_succ (by omega)]; rfl⟩
      by_cases e : v = c
      · subst e
        refine ⟨fun h => absurd h.2 hpos, fun h => ?_⟩
        have h2 := h.2
        rw [hnew v c0 c1] at h2
        injection h2 with h2; omega
      · exact ⟨fun h => ⟨h.1, (hne v e v0 v1).2 h.2⟩, fun h => ⟨h.1, (hne v e v0 v1).1 h.2⟩⟩
  · rintro k ⟨cn, qq⟩ ⟨i1, i2, i3⟩
    simp only at i1 i2 i3 ⊢
    rw [depgraph_sort.l2, if_neg (by simp)]
    refine ⟨cn, qq, rfl, i1, fun v v0 v1 => ?_, i3⟩
    rw [i2 v v0 v1, List.drop_length]; rfl

theorem sort_ok {n : Nat} {ls : List api_Link} (g : GoodG n ls) : depgraph_sort.f (n : Int) ls = some (ord n ls) := by
  have hn := g.n128
  unfold depgraph_sort.f
  obtain ⟨adj, cnt, ha, hal, hcl, hac⟩ := adjacent_ok g
  rw [ha]
  simp only [Option.bind_some]
  obtain ⟨q, h1, h2⟩ := sort_l0 (n := n) hn (adj := adj) (cnt := cnt) hcl
  rw [h1]
  simp only [Option.bind_some]
  have key : depgraph_sort.l1 (adj, cnt) FUEL cnt q [] = some (ord n ls) := by
    refine loop_m (L := fun k (s : List Int × List Int × List Int) => depgraph_sort.l1 (adj, cnt) k s.1 s.2.1 s.2.2) (fun s => Run n ls s.2.2 ∧ s.1.length = n ∧ (∀ v : Int, 0 ≤ v → v < n → idx s.1 v = some (rem ls s.2.2 v : Int)) ∧ Que n s.2.1 (fun v => v ∉ s.2.2 ∧ idx s.1 v = some 0))
      (fun s => n - s.2.2.length) (fun o => o = some (ord n ls)) ?_ FUEL (cnt, q, []) ⟨.nil, hcl, fun v v0 v1 => (hac v v0 v1).2, h2.congr (fun v _ _ => by simp)⟩ (FUEL_pos (by show n - 0 ≤ _; omega))
    rintro k ⟨cn, qq, out⟩ ⟨i1, i2, i3, i4⟩
    simp only at i1 i2 i3 i4 ⊢
    have hlen := i1.length_le
    have hql := i4.len
    have hiff : ∀ v : Int, 0 ≤ v → v < n → ((v ∉ out ∧ idx cn v = some 0) ↔ free ls out v = true) := by
      intro v v0 v1
      rw [free_rem, i3 v v0 v1]
      constructor
      · rintro ⟨h1, h2⟩; injection h2 with h2; exact ⟨h1, by omega⟩
      · rintro ⟨h1, h2⟩; exact ⟨h1, by rw [h2]; rfl⟩
    rw [depgraph_sort.l1]
    by_cases h0 : 0 < qq.length
    · rw [if_pos (by simp; omega)]
      obtain ⟨q', x, p1, p2, p3, p4⟩ := pop_ok qq (by omega) h0 i4.heap
      rw [p1]
      simp only [Option.bind_some, Bool.not_true, Bool.false_eq_true, if_false]
      have hxq : x ∈ qq := p2.mem_iff.1 (List.mem_cons_self ..)
      obtain ⟨x0, x1, hxf⟩ := (i4.mem x).1 hxq
      have hx : least n ls out = some x := least_of x0 x1 ((hiff x x0 x1).1 hxf) (fun u u0 ux => by
        rw [Bool.eq_false_iff]
        intro hf
        have := p4 u ((i4.mem u).2 ⟨u0, by omega, (hiff u u0 (by omega)).2 hf⟩)
        omega)
      rw [app_ok (by simp; omega)]
      simp only [Option.bind_some]
      rw [(hac x x0 x1).1]
      simp only [Option.bind_some]
      have hnd : (x :: q').Nodup := p2.nodup_iff.2 i4.nodup
      rw [List.nodup_cons] at hnd
      obtain ⟨cnt', q2, r1, r2, r3, r4⟩ := sort_l2 g i1 hx i2 i3 (q := q') ⟨p3, hnd.2, fun v => by
        have hv := i4.mem v
        rw [← p2.mem_iff, List.mem_cons] at hv
        constructor
        · intro hm
          obtain ⟨v0, v1, v2, v3⟩ := hv.1 (.inr hm)
          refine ⟨v0, v1, fun h => ?_, v3⟩
          rcases List.mem_append.1 h with h | h
          · exact v2 h
          · simp only [List.mem_singleton] at h; subst h; exact hnd.1 hm
        · rintro ⟨v0, v1, v2, v3⟩
          rw [List.mem_append, List.mem_singleton, not_or] at v2
          exact (hv.2 ⟨v0, v1, v2.1, v3⟩).resolve_left v2.2⟩
      rw [r1]
      have hr' := i1.snoc hx
      have := hr'.length_le
      simp only [List.length_append, List.length_singleton] at this
      exact .inl ⟨(cnt', q2, out ++ [x]), ⟨hr', r2, r3, r4⟩, by simp; omega, rfl⟩
    · rw [if_neg (by simp only [decide_eq_true_eq]; omega)]
      have hq0 : qq = [] := List.eq_nil_of_length_eq_zero (by omega)
      subst hq0
      refine .inr ?_
      have := i1.ord (least_none.2 (fun u u0 u1 => by
        rw [Bool.eq_false_iff]
        intro hf
        have := (i4.mem u).2 ⟨u0, u1, (hiff u u0 u1).2 hf⟩
        simp at this))
      rw [← this]
  rw [key]
  rfl

end Go.Proofs.Ytfiodhdldleocaa.Sim
