/-
  Plain lemmas: the levels of both programs.
-/
import Derived.Test.YtphgandhncmaoaaG4
namespace Go.Proofs.Ytphgandhncmaoaa.Sim
open Go
set_option linter.unusedVariables false

/-- m is the greatest of the levels of c's suppliers among sup, plus one; 0 without a supplier. -/
structure IsMx (ls : List api_Link) (sup : Int → Prop) (h : Int → Int) (c m : Int) : Prop where
  nn : 0 ≤ m
  ub : ∀ s, api_Link.mk c s ∈ ls → sup s → h s + 1 ≤ m
  at_ : m = 0 ∨ ∃ s, api_Link.mk c s ∈ ls ∧ sup s ∧ m = h s + 1

theorem IsMx.uniq {ls : List api_Link} {sup : Int → Prop} {h : Int → Int} (hh : ∀ s, 0 ≤ h s) {c m m' : Int} (a : IsMx ls sup h c m) (b : IsMx ls sup h c m') : m = m' := by
  rcases a.at_ with e | ⟨s, h1, h2, e⟩ <;> rcases b.at_ with e' | ⟨s', h1', h2', e'⟩
  · omega
  · have := a.ub s' h1' h2'; have := hh s'; omega
  · have := b.ub s h1 h2; have := hh s; omega
  · have := a.ub s' h1' h2'; have := b.ub s h1 h2; omega

/-- The level at v, as a list says it. -/
def lv (l : List Int) (v : Int) : Int := (idx l v).getD 0
theorem lv_of {l : List Int} {v x : Int} (h : idx l v = some x) : lv l v = x := by unfold lv; rw [h]; rfl
theorem idx_lv {l : List Int} {n : Nat} (hl : l.length = n) {v : Int} (h0 : 0 ≤ v) (h1 : v < n) : idx l v = some (lv l v) := by
  obtain ⟨x, hx, _⟩ := idx_of (xs := l) h0 (by omega)
  rw [hx, lv_of hx]
theorem lv_upd {l : List Int} {n : Nat} (hl : l.length = n) {i v x : Int} (i0 : 0 ≤ i) (h0 : 0 ≤ v) (h1 : v < n) : lv (upd l i x) v = if i = v then x else lv l v := by
  unfold lv
  rw [idx_upd (xs := l) i0 h0 (by omega)]
  split <;> rfl
theorem lv_upd_ne {l : List Int} {i v x : Int} (i0 : 0 ≤ i) (h : i ≠ v) : lv (upd l i x) v = lv l v := by
  unfold lv; rw [idx_upd_ne i0 h]

/-- Levels that fit. -/
structure Lev (n : Nat) (ls : List api_Link) (l : List Int) : Prop where
  len : l.length = n
  nn : ∀ v, 0 ≤ lv l v
  le : ∀ v : Int, 0 ≤ v → v < n → lv l v ≤ n
  mx : ∀ v : Int, 0 ≤ v → v < n → IsMx ls (fun _ => True) (lv l) v (lv l v)

theorem Lev.uniq {n : Nat} {ls : List api_Link} (g : GoodG n ls) (hfull : ¬ (ord n ls).length < n) {l l' : List Int} (a : Lev n ls l) (b : Lev n ls l') : l = l' := by
  have key : ∀ out, Run n ls out → ∀ v ∈ out, lv l v = lv l' v := by
    intro out hr
    induction hr with
    | nil => simp
    | @snoc out x hr hx ih =>
      intro v hv
      rcases List.mem_append.1 hv with hv | hv
      · exact ih v hv
      · simp only [List.mem_singleton] at hv
        subst hv
        obtain ⟨v0, v1, hf, _⟩ := least_some hx
        obtain ⟨_, hs⟩ := free_iff.1 hf
        have m1 := a.mx v v0 v1
        have m2 := b.mx v v0 v1
        refine IsMx.uniq a.nn m1 ⟨m2.nn, fun s h1 h2 => ?_, ?_⟩
        · rw [ih s (hs _ h1 rfl)]; exact m2.ub s h1 h2
        · rcases m2.at_ with e | ⟨s, h1, h2, e⟩
          · exact .inl e
          · exact .inr ⟨s, h1, h2, by rw [ih s (hs _ h1 rfl)]; exact e⟩
  apply List.ext_getElem
  · rw [a.len, b.len]
  · intro i h1 h2
    have hi : i < n := by rw [← a.len]; exact h1
    have := key _ (ord_run n ls).1 (i : Int) (ord_full hfull (by omega) (by omega))
    rw [lv_of (idx_get h1), lv_of (idx_get h2)] at this
    exact this

/-- What the program has when the first nodes of the order are done. -/
structure Push (n : Nat) (ls : List api_Link) (done : List Int) (l : List Int) : Prop where
  len : l.length = n
  nn : ∀ v, 0 ≤ lv l v
  le : ∀ v : Int, lv l v ≤ done.length
  mx : ∀ v : Int, 0 ≤ v → v < n → IsMx ls (fun s => s ∈ done) (lv l) v (lv l v)

theorem levels_l1 {n : Nat} {ls : List api_Link} (g : GoodG n ls) {done : List Int} (hr : Run n ls done) {x : Int} (hx : least n ls done = some x) {l : List Int} (hp : Push n ls done l) :
    ∃ l', depgraph_Levels.l1 x (consOf ls x) FUEL l 0 = some l' ∧ Push n ls (done ++ [x]) l' := by
  have hn := g.n128
  have hl := g.len
  have hcl := consOf_le ls x
  have hdl := (hr.snoc hx).length_le
  rw [List.length_append, List.length_singleton] at hdl
  obtain ⟨x0, x1, hfree, _⟩ := least_some hx
  obtain ⟨hxo, hxs⟩ := free_iff.1 hfree
  have hmem : ∀ c ∈ consOf ls x, (0 ≤ c ∧ c < n) ∧ c ∉ done ∧ c ≠ x := by
    intro c hc
    have hm := mem_consOf.1 hc
    exact ⟨g.c0 _ hm, fun h => hxo (hr.facts.2.2 _ hm h), fun e => hxo (hxs _ hm e)⟩
  have key : ∃ l', depgraph_Levels.l1 x (consOf ls x) FUEL l 0 = some l' ∧ l'.length = n ∧ ∀ v : Int, lv l' v = if v ∈ consOf ls x then max (lv l v) (lv l x + 1) else lv l v := by
    refine loop_c (L := fun k (s : List Int) i => depgraph_Levels.l1 x (consOf ls x) k s i) (consOf ls x).length (fun i s => s.length = n ∧ ∀ v : Int, lv s v = if v ∈ (consOf ls x).take i then max (lv l v) (lv l x + 1) else lv l v)
      (fun o => ∃ l', o = some l' ∧ l'.length = n ∧ ∀ v : Int, lv l' v = if v ∈ consOf ls x then max (lv l v) (lv l x + 1) else lv l v) ?_ ?_ FUEL 0 l (Nat.zero_le _) (FUEL_pos (by omega)) ⟨hp.len, fun v => by simp⟩
    · rintro k s i hi ⟨i1, i2⟩
      obtain ⟨⟨c0, c1⟩, _, cx⟩ := hmem _ (List.getElem_mem hi)
      have hxc : x ∉ (consOf ls x).take i := fun h => (hmem x (List.mem_of_mem_take h)).2.2 rfl
      rw [depgraph_Levels.l1, if_pos (by simp; omega), idx_get hi]
      simp only [Option.bind_some]
      rw [idx_lv i1 c0 c1, idx_lv i1 x0 x1]
      simp only [Option.bind_some]
      rw [i2 x, if_neg hxc]
      have hxle := hp.le x
      have hxnn := hp.nn x
      rw [wi_id (x := lv l x + 1) (by omega) (by omega)]
      refine .inl ⟨upd s (consOf ls x)[i] (max (lv s (consOf ls x)[i]) (lv l x + 1)), ⟨by rw [upd_length]; exact i1, fun v => ?_⟩, by rw [wi_succ (by omega)]⟩
      by_cases e : (consOf ls x)[i] = v
      · subst e
        rw [lv_upd i1 c0 c0 c1, if_pos rfl, if_pos ((mem_take_succ hi).2 (.inr rfl)), i2]
        split
        · omega
        · rfl
      · rw [lv_upd_ne c0 e, i2 v]
        by_cases hm : v ∈ (consOf ls x).take i
        · rw [if_pos hm, if_pos ((mem_take_succ hi).2 (.inl hm))]
        · rw [if_neg hm, if_neg (fun h => ((mem_take_succ hi).1 h).elim hm (fun h => e h.symm))]
    · rintro k s ⟨i1, i2⟩
      rw [depgraph_Levels.l1, if_neg (by simp)]
      rw [List.take_length] at i2
      exact ⟨s, rfl, i1, i2⟩
  obtain ⟨l', e1, e2, e3⟩ := key
  refine ⟨l', e1, e2, fun v => ?_, fun v => ?_, fun v v0 v1 => ?_⟩
  · rw [e3]; have := hp.nn v; split <;> omega
  · rw [e3, List.length_append, List.length_singleton]
    have := hp.le v; have := hp.le x
    split <;> omega
  · have m := hp.mx v v0 v1
    have hxv : lv l' x = lv l x := by rw [e3, if_neg (fun h => (hmem x h).2.2 rfl)]
    have hsv : ∀ s ∈ done, lv l' s = lv l s := fun s hs => by rw [e3, if_neg (fun h => (hmem s h).2.1 hs)]
    refine ⟨by rw [e3]; have := m.nn; split <;> omega, fun s h1 h2 => ?_, ?_⟩
    · rcases List.mem_append.1 h2 with h2 | h2
      · rw [hsv s h2, e3]
        have := m.ub s h1 h2
        split <;> omega
      · simp only [List.mem_singleton] at h2
        subst h2
        rw [hxv, e3, if_pos (mem_consOf.2 h1)]
        omega
    · rw [e3]
      by_cases hv : v ∈ consOf ls x
      · rw [if_pos hv]
        have hlink := mem_consOf.1 hv
        by_cases hlt : lv l v ≤ lv l x + 1
        · exact .inr ⟨x, hlink, List.mem_append.2 (.inr (List.mem_singleton.2 rfl)), by rw [hxv]; omega⟩
        · rcases m.at_ with e | ⟨s, h1, h2, e⟩
          · have := hp.nn x; omega
          · exact .inr ⟨s, h1, List.mem_append.2 (.inl h2), by rw [hsv s h2]; omega⟩
      · rw [if_neg hv]
        rcases m.at_ with e | ⟨s, h1, h2, e⟩
        · exact .inl e
        · exact .inr ⟨s, h1, List.mem_append.2 (.inl h2), by rw [hsv s h2]; exact e⟩

theorem Run.pre {n : Nat} {ls : List api_Link} {out : List Int} (h : Run n ls out) : ∀ i, i ≤ out.length → Run n ls (out.take i) := by
  induction h with
  | nil => intro i hi; simp; exact .nil
  | @snoc out v h hv ih =>
    intro i hi
    rw [List.length_append, List.length_singleton] at hi
    by_cases e : i ≤ out.length
    · rw [List.take_append_of_le_length e]; exact ih i e
    · rw [List.take_of_length_le (by simp; omega)]; exact h.snoc hv
theorem Run.nth {n : Nat} {ls : List api_Link} {out : List Int} (h : Run n ls out) : ∀ i (hi : i < out.length), least n ls (out.take i) = some out[i] := by
  induction h with
  | nil => intro i hi; simp at hi
  | @snoc out v h hv ih =>
    intro i hi
    rw [List.length_append, List.length_singleton] at hi
    by_cases e : i < out.length
    · rw [List.take_append_of_le_length (by omega), List.getElem_append_left e]; exact ih i e
    · have : i = out.length := by omega
      subst this
      rw [List.take_append_of_le_length (Nat.le_refl _), List.take_length, List.getElem_append_right (Nat.le_refl _)]
      simpa using hv

theorem levels_good {n : Nat} {ls : List api_Link} (g : GoodG n ls) (hfull : ¬ (ord n ls).length < n) {c : Int} {adj : List (List Int)} {cnt : List Int} (ha : ∀ v, 0 ≤ v → v < (n : Int) → idx adj v = some (consOf ls v)) :
    ∃ l, depgraph_Levels.l0 (ord n ls, c) (adj, cnt) FUEL (List.replicate n 0) 0 = some l ∧ Lev n ls l := by
  have hn := g.n128
  have hle := ord_le n ls
  have hr := (ord_run n ls).1
  refine loop_c (L := fun k (s : List Int) i => depgraph_Levels.l0 (ord n ls, c) (adj, cnt) k s i) (ord n ls).length (fun i s => Push n ls ((ord n ls).take i) s) (fun o => ∃ l, o = some l ∧ Lev n ls l) ?_ ?_ FUEL 0 _ (Nat.zero_le _) (FUEL_pos (by omega)) ?_
  · intro k s i hi hp
    have hx := hr.nth i hi
    obtain ⟨x0, x1, _, _⟩ := least_some hx
    rw [depgraph_Levels.l0, if_pos (by simp only [decide_eq_true_eq]; omega), idx_get (xs := ord n ls) hi]
    simp only [Option.bind_some]
    rw [ha _ x0 x1]
    simp only [Option.bind_some]
    obtain ⟨l', q1, q2⟩ := levels_l1 g (hr.pre i (by omega)) hx hp
    rw [q1]
    refine .inl ⟨l', ?_, by rw [wi_succ (by omega)]; rfl⟩
    rw [List.take_succ_eq_append_getElem hi]; exact q2
  · intro k s hp
    rw [depgraph_Levels.l0, if_neg (by simp)]
    rw [List.take_length] at hp
    refine ⟨s, rfl, hp.len, hp.nn, fun v v0 v1 => by have := hp.le v; omega, fun v v0 v1 => ?_⟩
    have m := hp.mx v v0 v1
    refine ⟨m.nn, fun s h1 _ => m.ub s h1 (ord_full hfull (g.s0 _ h1).1 (g.s0 _ h1).2), ?_⟩
    rcases m.at_ with e | ⟨s, h1, h2, e⟩
    · exact .inl e
    · exact .inr ⟨s, h1, trivial, e⟩
  · have z : ∀ v, lv (List.replicate n 0) v = 0 := by
      intro v
      unfold lv idx
      split
      · rw [List.getElem?_replicate]; split <;> rfl
      · rfl
    exact ⟨by simp, fun v => by rw [z]; omega, fun v => by rw [z]; omega, fun v v0 v1 => ⟨by rw [z]; omega, fun s h1 h2 => by simp at h2, .inl (z v)⟩⟩

/-- What the reference has when the first nodes of the order are done. -/
structure Pull (n : Nat) (ls : List api_Link) (done : List Int) (l : List Int) : Prop where
  len : l.length = n
  nn : ∀ v, 0 ≤ lv l v
  le : ∀ v : Int, lv l v ≤ done.length
  mx : ∀ v ∈ done, IsMx ls (fun _ => True) (lv l) v (lv l v)
  no : ∀ v : Int, v ∉ done → lv l v = 0

theorem reflevels_l1 {n : Nat} {ls : List api_Link} (g : GoodG n ls) {c : Int} {i : Nat} (hi : i < (ord n ls).length) {l : List Int} (hp : Pull n ls ((ord n ls).take i) l) :
    ∃ l', ref24_Levels.l1 ls (ord n ls, c) (i : Int) FUEL l 0 = some l' ∧ Pull n ls ((ord n ls).take (i + 1)) l' := by
  have hn := g.n128
  have hll := g.len
  have hle := ord_le n ls
  have hx := (ord_run n ls).1.nth i hi
  generalize hxx : (ord n ls)[i] = x at *
  obtain ⟨x0, x1, hfree, _⟩ := least_some hx
  obtain ⟨hxo, hxs⟩ := free_iff.1 hfree
  have hdl : ((ord n ls).take i).length = i := by rw [List.length_take]; omega
  have key : ∃ l', ref24_Levels.l1 ls (ord n ls, c) (i : Int) FUEL l 0 = some l' ∧ l'.length = n ∧ (∀ v : Int, v ≠ x → lv l' v = lv l v) ∧ lv l' x ≤ i + 1 ∧ IsMx ls (fun _ => True) (lv l) x (lv l' x) := by
    refine loop_c (L := fun k (s : List Int) j => ref24_Levels.l1 ls (ord n ls, c) (i : Int) k s j) ls.length (fun j s => s.length = n ∧ (∀ v : Int, v ≠ x → lv s v = lv l v) ∧ lv s x ≤ i + 1 ∧ IsMx (ls.take j) (fun _ => True) (lv l) x (lv s x))
      (fun o => ∃ l', o = some l' ∧ l'.length = n ∧ (∀ v : Int, v ≠ x → lv l' v = lv l v) ∧ lv l' x ≤ i + 1 ∧ IsMx ls (fun _ => True) (lv l) x (lv l' x)) ?_ ?_ FUEL 0 l (Nat.zero_le _) (FUEL_pos (by omega)) ⟨hp.len, fun _ _ => rfl, by rw [hp.no x hxo]; omega, ⟨by rw [hp.no x hxo]; omega, fun s h1 => by simp at h1, .inl (hp.no x hxo)⟩⟩
    · rintro k s j hj ⟨i1, i2, i3, i4⟩
      have hs0 := g.s0 _ (List.getElem_mem hj)
      rw [ref24_Levels.l1, if_pos (by simp; omega), idx_get hj]
      simp only [Option.bind_some]
      rw [idx_get (xs := ord n ls) hi, hxx]
      simp only [Option.bind_some]
      have snoc_no : ls[j].Consumer ≠ x → IsMx (ls.take (j + 1)) (fun _ => True) (lv l) x (lv s x) := fun hne =>
        ⟨i4.nn, fun t h1 _ => by
          rcases (mem_take_succ hj).1 h1 with h | h
          · exact i4.ub t h trivial
          · exact absurd (by rw [← h]) hne, by
          rcases i4.at_ with e | ⟨t, h1, h2, e⟩
          · exact .inl e
          · exact .inr ⟨t, (mem_take_succ hj).2 (.inl h1), trivial, e⟩⟩
      by_cases e : ls[j].Consumer = x
      · have hlink : api_Link.mk x ls[j].Supplier = ls[j] := by rw [← e]
        have hsx : ls[j].Supplier ≠ x := fun h => hxo (h ▸ hxs _ (List.getElem_mem hj) e)
        have hsv := i2 _ hsx
        have hsle := hp.le ls[j].Supplier
        have hsnn := hp.nn ls[j].Supplier
        rw [hdl] at hsle
        rw [if_pos (by simp [e]), idx_lv i1 hs0.1 hs0.2]
        simp only [Option.bind_some]
        rw [idx_lv i1 x0 x1]
        simp only [Option.bind_some]
        rw [hsv, wi_id (x := lv l ls[j].Supplier + 1) (by omega) (by omega)]
        by_cases hlt : lv s x < lv l ls[j].Supplier + 1
        · rw [if_pos (by simpa using hlt)]
          refine .inl ⟨upd s x (lv l ls[j].Supplier + 1), ⟨by rw [upd_length]; exact i1, fun v hv => ?_, ?_, ?_⟩, by rw [wi_succ (by omega)]; rfl⟩
          · rw [lv_upd_ne x0 (fun h => hv h.symm)]; exact i2 v hv
          · rw [lv_upd i1 x0 x0 x1, if_pos rfl]; omega
          · rw [lv_upd i1 x0 x0 x1, if_pos rfl]
            refine ⟨by omega, fun t h1 _ => ?_, .inr ⟨ls[j].Supplier, by rw [hlink]; exact (mem_take_succ hj).2 (.inr rfl), trivial, rfl⟩⟩
            rcases (mem_take_succ hj).1 h1 with h | h
            · have := i4.ub t h trivial; omega
            · rw [← hlink] at h; injection h with _ h; subst h; omega
        · rw [if_neg (by simpa using hlt)]
          refine .inl ⟨s, ⟨i1, i2, i3, ⟨i4.nn, fun t h1 _ => ?_, ?_⟩⟩, by rw [wi_succ (by omega)]; rfl⟩
          · rcases (mem_take_succ hj).1 h1 with h | h
            · exact i4.ub t h trivial
            · rw [← hlink] at h; injection h with _ h; subst h; omega
          · rcases i4.at_ with e | ⟨t, h1, h2, e⟩
            · exact .inl e
            · exact .inr ⟨t, (mem_take_succ hj).2 (.inl h1), trivial, e⟩
      · rw [if_neg (by simp [e])]
        exact .inl ⟨s, ⟨i1, i2, i3, snoc_no e⟩, by rw [wi_succ (by omega)]; rfl⟩
    · rintro k s ⟨i1, i2, i3, i4⟩
      rw [ref24_Levels.l1, if_neg (by simp)]
      rw [List.take_length] at i4
      exact ⟨s, rfl, i1, i2, i3, i4⟩
  obtain ⟨l', e1, e2, e3, e4, e5⟩ := key
  have hsup : ∀ v ∈ (ord n ls).take (i + 1), ∀ s, api_Link.mk v s ∈ ls → s ≠ x := by
    intro v hv s hs e
    subst e
    rcases (mem_take_succ hi).1 hv with h | h
    · exact hxo (((ord_run n ls).1.pre i (by omega)).facts.2.2 _ hs h)
    · rw [hxx] at h; exact hxo (hxs _ hs h)
  refine ⟨l', e1, e2, fun v => ?_, fun v => ?_, fun v hv => ?_, fun v hv => ?_⟩
  · by_cases e : v = x
    · subst e; exact e5.nn
    · rw [e3 v e]; exact hp.nn v
  · have : ((ord n ls).take (i + 1)).length = i + 1 := by rw [List.length_take]; omega
    rw [this]
    by_cases e : v = x
    · subst e; omega
    · rw [e3 v e]; have := hp.le v; rw [hdl] at this; omega
  · have m : IsMx ls (fun _ => True) (lv l) v (lv l' v) := by
      by_cases e : v = x
      · subst e; exact e5
      · rw [e3 v e]
        rcases (mem_take_succ hi).1 hv with h | h
        · exact hp.mx v h
        · rw [hxx] at h; exact absurd h e
    refine ⟨m.nn, fun s h1 h2 => by rw [e3 s (hsup v hv s h1)]; exact m.ub s h1 h2, ?_⟩
    rcases m.at_ with e | ⟨s, h1, h2, e⟩
    · exact .inl e
    · exact .inr ⟨s, h1, h2, by rw [e3 s (hsup v hv s h1)]; exact e⟩
  · have e : v ≠ x := fun e => hv ((mem_take_succ hi).2 (.inr (by rw [hxx]; exact e)))
    rw [e3 v e]
    exact hp.no v (fun h => hv ((mem_take_succ hi).2 (.inl h)))

theorem reflevels_good {n : Nat} {ls : List api_Link} (g : GoodG n ls) (hfull : ¬ (ord n ls).length < n) {c : Int} :
    ∃ l, ref24_Levels.l0 (n : Int) ls (ord n ls, c) FUEL (List.replicate n 0) 0 = some l ∧ Lev n ls l := by
  have hn := g.n128
  have hle := ord_le n ls
  refine loop_c (L := fun k (s : List Int) i => ref24_Levels.l0 (n : Int) ls (ord n ls, c) k s i) n (fun i s => Pull n ls ((ord n ls).take i) s) (fun o => ∃ l, o = some l ∧ Lev n ls l) ?_ ?_ FUEL 0 _ (Nat.zero_le _) (FUEL_pos (by omega)) ?_
  · intro k s i hi hp
    rw [ref24_Levels.l0, if_pos (by simp; omega)]
    obtain ⟨l', q1, q2⟩ := reflevels_l1 g (c := c) (i := i) (by omega) hp
    rw [q1]
    exact .inl ⟨l', q2, by rw [wi_succ (by omega)]; rfl⟩
  · intro k s hp
    rw [ref24_Levels.l0, if_neg (by simp)]
    rw [List.take_of_length_le hle] at hp
    exact ⟨s, rfl, hp.len, hp.nn, fun v v0 v1 => by have := hp.le v; omega, fun v v0 v1 => hp.mx v (ord_full hfull v0 v1)⟩
  · have z : ∀ v, lv (List.replicate n 0) v = 0 := by
      intro v
      unfold lv idx
      split
      · rw [List.getElem?_replicate]; split <;> rfl
      · rfl
    exact ⟨by simp, fun v => by rw [z]; omega, fun v => by rw [z]; omega, fun v hv => by simp at hv, fun v _ => z v⟩

/-- Both programs' levels. -/
theorem levels_ok (p : Int) (ls : List api_Link) (h : ls.length ≤ maxLen) : ∃ r, depgraph_Levels.f p ls = some r ∧ ref24_Levels.f p ls = some r ∧ r.1.length ≤ 128 ∧ ∀ n : Nat, p = n → GoodG n ls → r.2 = 0 → Lev n ls r.1 := by
  unfold depgraph_Levels.f ref24_Levels.f
  rw [order_ok p ls h, reforder_ok p ls h]
  simp only [Option.bind_some]
  by_cases hv : ccode p ls = 0
  · have hv2 : vcode p ls = 0 := by
      unfold ccode at hv
      split at hv
      · assumption
      · exact hv
    obtain ⟨n, rfl, g⟩ := vcode_good hv2
    have hn := g.n128
    have eo : ores (n : Int) ls = (ord n ls, 0) := by unfold ores; rw [hv]; rfl
    have hfull : ¬ (ord n ls).length < n := by
      intro hc
      rw [ccode_good g, if_pos hc] at hv; cases hv
    rw [eo, if_neg (by simp), if_neg (by simp)]
    obtain ⟨adj, cnt, ha, hal, hcl, hac⟩ := adjacent_ok g
    rw [ha, mk_ok (by omega)]
    simp only [Option.bind_some]
    obtain ⟨l, q1, q2⟩ := levels_good g hfull (c := 0) (cnt := cnt) (fun v v0 v1 => (hac v v0 v1).1)
    obtain ⟨l', q3, q4⟩ := reflevels_good g hfull (c := 0)
    have := q2.uniq g hfull q4
    subst this
    rw [q1, q3]
    refine ⟨(l, 0), rfl, rfl, by rw [q2.len]; exact hn, fun m hm _ _ => ?_⟩
    have : m = n := by omega
    subst this; exact q2
  · have eo : ores p ls = ([], ccode p ls) := by unfold ores; rw [if_neg hv]
    rw [eo, if_pos (by simpa using hv), if_pos (by simpa using hv)]
    exact ⟨([], ccode p ls), rfl, rfl, by simp, fun n _ _ h0 => absurd h0 hv⟩

end Go.Proofs.Ytphgandhncmaoaa.Sim
