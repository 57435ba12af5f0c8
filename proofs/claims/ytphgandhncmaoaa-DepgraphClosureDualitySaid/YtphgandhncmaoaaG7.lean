/-
  Plain lemmas: what is reached along the links, in both programs.
-/
import Derived.Test.YtphgandhncmaoaaG4
namespace Go.Proofs.Ytphgandhncmaoaa.Sim
open Go
set_option linter.unusedVariables false

/-- Reached from of: along the links to suppliers (down), or to consumers. -/
def Rch (down : Bool) (ls : List api_Link) (of : List Int) (x : Int) : Prop := ∃ a ∈ of, x = a ∨ (if down = true then Path ls a x else Path ls x a)

def revL (ls : List api_Link) : List api_Link := ls.map (fun l => api_Link.mk l.Supplier l.Consumer)
theorem mem_revL {ls : List api_Link} {a b : Int} : api_Link.mk a b ∈ revL ls ↔ api_Link.mk b a ∈ ls := by
  unfold revL
  rw [List.mem_map]
  constructor
  · rintro ⟨l, h, e⟩; injection e with e1 e2; subst e1; subst e2; exact h
  · intro h; exact ⟨_, h, rfl⟩
theorem path_revL {ls : List api_Link} {a b : Int} (h : Path (revL ls) a b) : Path ls b a := by
  induction h with
  | one h => exact .one (mem_revL.1 h)
  | more h _ ih => exact ih.trans (.one (mem_revL.1 h))
theorem path_revL' {ls : List api_Link} {a b : Int} (h : Path ls a b) : Path (revL ls) b a := by
  induction h with
  | one h => exact .one (mem_revL.2 h)
  | more h _ ih => exact ih.trans (.one (mem_revL.2 h))
theorem nodup_map_inj {α β : Type} {f : α → β} (hf : ∀ a b, f a = f b → a = b) {l : List α} (h : l.Nodup) : (l.map f).Nodup := by
  rw [List.nodup_iff_pairwise_ne, List.pairwise_map]
  exact List.Pairwise.imp (fun {a b} hab e => hab (hf a b e)) h
theorem good_revL {n : Nat} {ls : List api_Link} (g : GoodG n ls) : GoodG n (revL ls) := by
  refine ⟨g.n128, by unfold revL; rw [List.length_map]; exact g.len, fun l hl => ?_, fun l hl => ?_, ?_⟩
  · have : api_Link.mk l.Supplier l.Consumer ∈ ls := mem_revL.1 hl; exact g.s0 _ this
  · have : api_Link.mk l.Supplier l.Consumer ∈ ls := mem_revL.1 hl; exact g.c0 _ this
  · exact nodup_map_inj (fun a b e => by cases a; cases b; injection e with e1 e2; simp only at e1 e2; subst e1; subst e2; rfl) g.nodup
theorem rch_rev {ls : List api_Link} {of : List Int} {x : Int} : Rch false (revL ls) of x ↔ Rch true ls of x := by
  unfold Rch
  simp only [Bool.false_eq_true, if_false, if_true]
  constructor
  · rintro ⟨a, h, e | e⟩
    · exact ⟨a, h, .inl e⟩
    · exact ⟨a, h, .inr (path_revL e)⟩
  · rintro ⟨a, h, e | e⟩
    · exact ⟨a, h, .inl e⟩
    · exact ⟨a, h, .inr (path_revL' e)⟩

theorem reversed_ok (ls : List api_Link) (h : ls.length ≤ 4294967295) : depgraph_reversed.f ls = some (revL ls) := by
  unfold depgraph_reversed.f
  have key : depgraph_reversed.l0 ls FUEL [] 0 = some (revL ls) := by
    refine loop_c (L := fun k (s : List api_Link) i => depgraph_reversed.l0 ls k s i) ls.length (fun i s => s = revL (ls.take i)) (fun o => o = some (revL ls)) ?_ ?_ FUEL 0 [] (Nat.zero_le _) (FUEL_pos (by omega)) rfl
    · rintro k s i hi rfl
      rw [depgraph_reversed.l0, if_pos (by simp; omega), idx_get hi]
      simp only [Option.bind_some]
      rw [app_ok (by simp [revL]; omega)]
      refine .inl ⟨_, rfl, ?_⟩
      have e : revL (ls.take (i + 1)) = revL (ls.take i) ++ [api_Link.mk ls[i].Supplier ls[i].Consumer] := by
        rw [List.take_succ_eq_append_getElem hi]; unfold revL; rw [List.map_append]; rfl
      rw [wi_succ (by omega), e]; rfl
    · rintro k s rfl
      rw [depgraph_reversed.l0, if_neg (by simp), List.take_length]
  rw [key]; rfl

/-- A list of flags, its set. -/
structure Fl1 (n : Nat) (r : List Bool) (S : Int → Prop) : Prop where
  len : r.length = n
  say : ∀ v : Int, 0 ≤ v → v < n → ∃ b, idx r v = some b ∧ (b = true ↔ S v)

theorem Fl1.true_ {n : Nat} {r : List Bool} {S : Int → Prop} (h : Fl1 n r S) {v : Int} (h0 : 0 ≤ v) (h1 : v < n) (hs : S v) : idx r v = some true := by
  obtain ⟨b, e, hb⟩ := h.say v h0 h1
  rw [e, hb.2 hs]
theorem Fl1.false_ {n : Nat} {r : List Bool} {S : Int → Prop} (h : Fl1 n r S) {v : Int} (h0 : 0 ≤ v) (h1 : v < n) (hs : ¬ S v) : idx r v = some false := by
  obtain ⟨b, e, hb⟩ := h.say v h0 h1
  cases b
  · exact e
  · exact absurd (hb.1 rfl) hs
theorem Fl1.set {n : Nat} {r : List Bool} {S : Int → Prop} (h : Fl1 n r S) {x : Int} (x0 : 0 ≤ x) : Fl1 n (upd r x true) (fun v => v = x ∨ S v) := by
  refine ⟨by rw [upd_length]; exact h.len, fun v v0 v1 => ?_⟩
  rw [idx_upd (xs := r) x0 v0 (by rw [h.len]; exact v1)]
  by_cases e : x = v
  · exact ⟨true, by rw [if_pos e], fun _ => .inl e.symm, fun _ => rfl⟩
  · obtain ⟨b, hb, hs⟩ := h.say v v0 v1
    refine ⟨b, by rw [if_neg e]; exact hb, fun h => .inr (hs.1 h), fun h => ?_⟩
    rcases h with h | h
    · exact absurd h.symm e
    · exact hs.2 h
theorem Fl1.congr {n : Nat} {r : List Bool} {S S' : Int → Prop} (h : Fl1 n r S) (e : ∀ v : Int, 0 ≤ v → v < n → (S v ↔ S' v)) : Fl1 n r S' :=
  ⟨h.len, fun v v0 v1 => by obtain ⟨b, hb, hs⟩ := h.say v v0 v1; exact ⟨b, hb, hs.trans (e v v0 v1)⟩⟩
theorem Fl1.empty (n : Nat) : Fl1 n (List.replicate n false) (fun _ => False) := ⟨by simp, fun v v0 v1 => ⟨false, idx_replicate v0 v1, by simp⟩⟩

theorem count_upd {r : List Bool} {x : Int} (h : idx r x = some false) : (upd r x true).count true = r.count true + 1 := by
  have h0 := idx_lo h
  have h1 := idx_hi h
  have hl : x.toNat < r.length := by omega
  rw [idx_nat h0, List.getElem?_eq_getElem hl] at h
  injection h with h
  unfold upd
  rw [List.count_set hl, h]
  simp
theorem upd_same {r : List Bool} {x : Int} (h : idx r x = some true) : upd r x true = r := by
  have h0 := idx_lo h
  have h1 := idx_hi h
  have hl : x.toNat < r.length := by omega
  rw [idx_nat h0, List.getElem?_eq_getElem hl] at h
  injection h with h
  unfold upd
  apply List.ext_getElem
  · simp
  · intro i a b
    rw [List.getElem_set]
    split
    · rename_i e; subst e; exact h.symm
    · rfl

/-- The flags' numbers in ascending order. -/
noncomputable def upto (n : Nat) (S : Int → Prop) : List Int := (below n).filter (fun v => @decide (S v) (Classical.propDecidable _))
theorem mem_upto {n : Nat} {S : Int → Prop} {v : Int} : v ∈ upto n S ↔ (0 ≤ v ∧ v < n) ∧ S v := by
  unfold upto; rw [List.mem_filter, mem_below, @decide_eq_true_eq _ (Classical.propDecidable _)]
theorem upto_len (n : Nat) (S : Int → Prop) : (upto n S).length ≤ n := by
  unfold upto; have := List.length_filter_le (fun v => @decide (S v) (Classical.propDecidable _)) (below n); rwa [below_length] at this
theorem upto_succ (n : Nat) (S : Int → Prop) : (S n → upto (n + 1) S = upto n S ++ [(n : Int)]) ∧ (¬ S n → upto (n + 1) S = upto n S) := by
  unfold upto
  rw [below_succ, List.filter_append]
  constructor
  · intro h; rw [List.filter_cons_of_pos (by rw [@decide_eq_true_eq _ (Classical.propDecidable _)]; exact h)]; rfl
  · intro h; rw [List.filter_cons_of_neg (by rw [@decide_eq_true_eq _ (Classical.propDecidable _)]; exact h)]; simp
theorem upto_congr {n : Nat} {S S' : Int → Prop} (h : ∀ v : Int, 0 ≤ v → v < n → (S v ↔ S' v)) : upto n S = upto n S' := by
  unfold upto
  apply List.filter_congr
  intro v hv
  obtain ⟨h0, h1⟩ := mem_below.1 hv
  rw [@decide_eq_decide _ _ (Classical.propDecidable _) (Classical.propDecidable _)]
  exact h v h0 h1

theorem clos_l3 {n : Nat} (hn : n ≤ 128) {r : List Bool} {S : Int → Prop} (h : Fl1 n r S) : depgraph_closure.l3 r FUEL [] 0 = some (upto n S) := by
  refine loop_c (L := fun k (s : List Int) i => depgraph_closure.l3 r k s i) n (fun i s => s = upto i S) (fun o => o = some (upto n S)) ?_ ?_ FUEL 0 [] (Nat.zero_le _) (FUEL_pos (by omega)) (by simp [upto, below])
  · rintro k s i hi rfl
    have hlen := upto_len i S
    have hr := h.len
    rw [depgraph_closure.l3, if_pos (by simp only [decide_eq_true_eq]; omega)]
    refine .inl ⟨upto (i + 1) S, rfl, ?_⟩
    rw [wi_succ (by omega)]
    by_cases hs : S (i : Int)
    · rw [h.true_ (by omega) (by omega) hs, (upto_succ i S).1 hs]
      simp only [Option.bind_some, if_true]
      rw [app_ok (by simp; omega)]; rfl
    · rw [h.false_ (by omega) (by omega) hs, (upto_succ i S).2 hs]
      simp
  · rintro k s rfl
    rw [depgraph_closure.l3, if_neg (by rw [h.len]; simp)]

theorem refclos_l3 {n : Nat} (hn : n ≤ 128) {r : List Bool} {S : Int → Prop} (h : Fl1 n r S) : ref24_closure.l3 (n : Int) r FUEL [] 0 = some (upto n S) := by
  refine loop_c (L := fun k (s : List Int) i => ref24_closure.l3 (n : Int) r k s i) n (fun i s => s = upto i S) (fun o => o = some (upto n S)) ?_ ?_ FUEL 0 [] (Nat.zero_le _) (FUEL_pos (by omega)) (by simp [upto, below])
  · rintro k s i hi rfl
    have hlen := upto_len i S
    rw [ref24_closure.l3, if_pos (by simp; omega)]
    refine .inl ⟨upto (i + 1) S, rfl, ?_⟩
    rw [wi_succ (by omega)]
    by_cases hs : S (i : Int)
    · rw [h.true_ (by omega) (by omega) hs, (upto_succ i S).1 hs]
      simp only [Option.bind_some, if_true]
      rw [app_ok (by simp; omega)]; rfl
    · rw [h.false_ (by omega) (by omega) hs, (upto_succ i S).2 hs]
      simp
  · rintro k s rfl
    rw [ref24_closure.l3, if_neg (by simp)]

def badV (n : Int) (v : Int) : Bool := (decide (v < 0)) || (decide (n ≤ v))
theorem badV_iff {n : Nat} {v : Int} : badV (n : Int) v = false ↔ 0 ≤ v ∧ v < n := by unfold badV; simp
theorem any_take_false {α : Type} {xs : List α} {P : α → Bool} {i : Nat} (hi : i < xs.length) : ((xs.take (i + 1)).any P = false) ↔ (xs.take i).any P = false ∧ P xs[i] = false := by
  rw [List.take_succ_eq_append_getElem hi, List.any_append, Bool.or_eq_false_iff]; simp

/-! ### the program: a stack -/

theorem clos_l0 {n : Nat} (hn : n ≤ 128) (of : List Int) (hof : of.length ≤ maxLen) :
    (of.any (badV n) = true ∧ depgraph_closure.l0 (n : Int) of FUEL (List.replicate n false) [] 0 = some (.out ([], 1))) ∨
    (of.any (badV n) = false ∧ ∃ r o, depgraph_closure.l0 (n : Int) of FUEL (List.replicate n false) [] 0 = some (.nxt (r, o)) ∧ Fl1 n r (fun v => v ∈ of) ∧ o.Nodup ∧ ∀ v, v ∈ o ↔ v ∈ of) := by
  rw [maxLen_eq] at hof
  refine loop_c (L := fun k (s : List Bool × List Int) i => depgraph_closure.l0 (n : Int) of k s.1 s.2 i) of.length (fun i s => (of.take i).any (badV n) = false ∧ Fl1 n s.1 (fun v => v ∈ of.take i) ∧ s.2.Nodup ∧ ∀ v, v ∈ s.2 ↔ v ∈ of.take i)
    (fun x => (of.any (badV n) = true ∧ x = some (.out ([], 1))) ∨ (of.any (badV n) = false ∧ ∃ r o, x = some (.nxt (r, o)) ∧ Fl1 n r (fun v => v ∈ of) ∧ o.Nodup ∧ ∀ v, v ∈ o ↔ v ∈ of)) ?_ ?_ FUEL 0 (_, _) (Nat.zero_le _) (FUEL_pos (by omega)) ⟨by simp, (Fl1.empty n).congr (by simp), by simp, by simp⟩
  · rintro k ⟨r, o⟩ i hi ⟨h1, h2, h3, h4⟩
    simp only at h2 h3 h4 ⊢
    rw [depgraph_closure.l0, if_pos (by simp; omega), idx_get hi]
    simp only [Option.bind_some]
    by_cases hb : badV n of[i] = true
    · rw [if_pos (show ((decide (of[i] < 0)) || (decide ((n : Int) ≤ of[i]))) = true from hb)]
      exact .inr (.inl ⟨List.any_eq_true.2 ⟨_, List.getElem_mem hi, hb⟩, rfl⟩)
    · rw [if_neg (show ¬ ((decide (of[i] < 0)) || (decide ((n : Int) ≤ of[i]))) = true from hb)]
      rw [Bool.not_eq_true] at hb
      obtain ⟨v0, v1⟩ := badV_iff.1 hb
      have h1' := (any_take_false hi).2 ⟨h1, hb⟩
      by_cases hm : of[i] ∈ of.take i
      · rw [h2.true_ v0 v1 hm]
        refine .inl ⟨(r, o), ⟨h1', h2.congr (fun v _ _ => ?_), h3, fun v => ?_⟩, by rw [wi_succ (by omega)]; rfl⟩
        all_goals
          rw [mem_take_succ hi]
        · exact ⟨.inl, fun h => h.elim id (fun e => e ▸ hm)⟩
        · rw [h4]; exact ⟨.inl, fun h => h.elim id (fun e => e ▸ hm)⟩
      · rw [h2.false_ v0 v1 hm]
        have hol : o.length ≤ n := by
          have := nodup_le h3 (s := below n) (fun x hx => by
            rw [List.any_eq_false] at h1
            have := h1 x ((h4 x).1 hx)
            rw [Bool.not_eq_true] at this
            exact mem_below.2 (badV_iff.1 this))
          rwa [below_length] at this
        simp only [Option.bind_some, Bool.not_false, if_true]
        rw [app_ok (by simp; omega)]
        refine .inl ⟨(upd r of[i] true, o ++ [of[i]]), ⟨h1', (h2.set v0).congr (fun v _ _ => ?_), ?_, fun v => ?_⟩, by rw [wi_succ (by omega)]; rfl⟩
        · rw [mem_take_succ hi]; exact or_comm
        · rw [List.nodup_append]
          refine ⟨h3, by simp, fun a ha b hb => ?_⟩
          simp only [List.mem_singleton] at hb
          subst hb
          exact fun e => hm ((h4 _).1 (e ▸ ha))
        · rw [mem_take_succ hi, List.mem_append, List.mem_singleton, h4]
  · rintro k ⟨r, o⟩ ⟨h1, h2, h3, h4⟩
    simp only at h2 h3 h4 ⊢
    rw [depgraph_closure.l0, if_neg (by simp)]
    rw [List.take_length] at h1 h2 h4
    exact .inr ⟨h1, r, o, rfl, h2, h3, h4⟩

/-- A set that is on its way: all reached, what is missing lies behind the open nodes. -/
structure Way (n : Nat) (ls : List api_Link) (of : List Int) (r : List Bool) (o : List Int) (S : Int → Prop) : Prop where
  fl : Fl1 n r S
  start : ∀ v ∈ of, S v
  sound : ∀ v, S v → (0 ≤ v ∧ v < n) ∧ Rch false ls of v
  nodup : o.Nodup
  open_ : ∀ v ∈ o, S v
  closed : ∀ v, S v → v ∉ o → ∀ c, api_Link.mk c v ∈ ls → S c

theorem clos_l2 {n : Nat} {ls : List api_Link} (g : GoodG n ls) {of : List Int} {r : List Bool} {o : List Int} {S : Int → Prop} {x : Int} (hw : Way n ls of r (o ++ [x]) S) :
    ∃ r' o' S', depgraph_closure.l2 (consOf ls x) FUEL r o 0 = some (r', o') ∧ Way n ls of r' o' S' ∧ 2 * (n - r'.count true) + o'.length < 2 * (n - r.count true) + (o ++ [x]).length := by
  have hn := g.n128
  have hl := g.len
  have hcl := consOf_le ls x
  have hx := hw.open_ x (by simp)
  have hxo : x ∉ o := by
    have := hw.nodup
    rw [List.nodup_append] at this
    exact fun h => this.2.2 x h x (by simp) rfl
  have hmem : ∀ c ∈ consOf ls x, 0 ≤ c ∧ c < n := fun c hc => g.c0 _ (mem_consOf.1 hc)
  have hrx := (hw.sound x hx).2
  refine loop_c (L := fun k (s : List Bool × List Int) i => depgraph_closure.l2 (consOf ls x) k s.1 s.2 i) (consOf ls x).length
    (fun i s => ∃ S', Fl1 n s.1 S' ∧ (∀ v, S v → S' v) ∧ (∀ v, S' v → (0 ≤ v ∧ v < n) ∧ Rch false ls of v) ∧ s.2.Nodup ∧ (∀ v ∈ s.2, S' v) ∧ x ∉ s.2 ∧ (∀ v, S' v → v ∉ s.2 → v ≠ x → ∀ c, api_Link.mk c v ∈ ls → S' c) ∧ (∀ c ∈ (consOf ls x).take i, S' c) ∧ 2 * (n - s.1.count true) + s.2.length ≤ 2 * (n - r.count true) + o.length)
    (fun q => ∃ r' o' S', q = some (r', o') ∧ Way n ls of r' o' S' ∧ 2 * (n - r'.count true) + o'.length < 2 * (n - r.count true) + (o ++ [x]).length) ?_ ?_ FUEL 0 (r, o) (Nat.zero_le _) (FUEL_pos (by omega))
    ⟨S, hw.fl, fun _ h => h, hw.sound, by have := hw.nodup; rw [List.nodup_append] at this; exact this.1, fun v hv => hw.open_ v (by simp [hv]), hxo, fun v h1 h2 h3 => hw.closed v h1 (by simp [h2, h3]), by simp, Nat.le_refl _⟩
  · rintro k ⟨r1, o1⟩ i hi ⟨S1, i1, i2, i3, i4, i5, i6, i7, i8, i9⟩
    simp only at i1 i4 i5 i6 i7 i9 ⊢
    have hc := hmem _ (List.getElem_mem hi)
    have hlink := mem_consOf.1 (List.getElem_mem hi)
    generalize hcc : (consOf ls x)[i] = c at *
    rw [depgraph_closure.l2, if_pos (by simp; omega), idx_get hi, hcc]
    simp only [Option.bind_some]
    by_cases hs : S1 c
    · rw [i1.true_ hc.1 hc.2 hs]
      refine .inl ⟨(r1, o1), ⟨S1, i1, i2, i3, i4, i5, i6, i7, fun d hd => ?_, i9⟩, by rw [wi_succ (by omega)]; rfl⟩
      rcases (mem_take_succ hi).1 hd with h | h
      · exact i8 d h
      · rw [hcc] at h; subst h; exact hs
    · rw [i1.false_ hc.1 hc.2 hs]
      simp only [Option.bind_some, Bool.not_false, if_true]
      have hol : o1.length ≤ n := by
        have := nodup_le i4 (s := below n) (fun y hy => mem_below.2 (i3 y (i5 y hy)).1)
        rwa [below_length] at this
      have hco : c ∉ o1 := fun h => hs (i5 c h)
      have hcx : c ≠ x := fun e => hs (i2 c (e ▸ hx))
      rw [app_ok (by simp; omega)]
      have hcount := count_upd (i1.false_ hc.1 hc.2 hs)
      have hcle : (upd r1 c true).count true ≤ n := by
        have := List.count_le_length (a := true) (l := upd r1 c true)
        rwa [upd_length, i1.len] at this
      refine .inl ⟨(upd r1 c true, o1 ++ [c]), ⟨fun v => v = c ∨ S1 v, i1.set hc.1, fun v h => .inr (i2 v h), ?_, ?_, ?_, ?_, ?_, ?_, ?_⟩, by rw [wi_succ (by omega)]; rfl⟩
      · rintro v (rfl | h)
        · refine ⟨hc, ?_⟩
          obtain ⟨a, ha, e⟩ := hrx
          refine ⟨a, ha, .inr ?_⟩
          simp only [Bool.false_eq_true, if_false] at e ⊢
          rcases e with e | e
          · subst e; exact .one hlink
          · exact .more hlink e
        · exact i3 v h
      · rw [List.nodup_append]
        refine ⟨i4, by simp, fun a ha b hb => ?_⟩
        simp only [List.mem_singleton] at hb
        subst hb
        exact fun e => hco (e ▸ ha)
      · intro v hv
        rcases List.mem_append.1 hv with h | h
        · exact .inr (i5 v h)
        · exact .inl (List.mem_singleton.1 h)
      · simp only [List.mem_append, List.mem_singleton, not_or]; exact ⟨i6, fun e => hcx e.symm⟩
      · rintro v (rfl | h) h2 h3 d hd
        · exact absurd (by simp) h2
        · simp only [List.mem_append, List.mem_singleton, not_or] at h2
          exact .inr (i7 v h h2.1 h3 d hd)
      · intro d hd
        rcases (mem_take_succ hi).1 hd with h | h
        · exact .inr (i8 d h)
        · rw [hcc] at h; exact .inl h
      · rw [hcount] at hcle ⊢
        rw [List.length_append, List.length_singleton]; omega
  · rintro k ⟨r1, o1⟩ ⟨S1, i1, i2, i3, i4, i5, i6, i7, i8, i9⟩
    simp only at i1 i4 i5 i6 i7 i9 ⊢
    rw [depgraph_closure.l2, if_neg (by simp)]
    rw [List.take_length] at i8
    refine ⟨r1, o1, S1, rfl, ⟨i1, fun v hv => i2 v (hw.start v hv), i3, i4, i5, fun v h1 h2 c hc => ?_⟩, by rw [List.length_append, List.length_singleton]; omega⟩
    by_cases e : v = x
    · subst e; exact i8 c (mem_consOf.2 hc)
    · exact i7 v h1 h2 e c hc

theorem rch_closed {ls : List api_Link} {of : List Int} {S : Int → Prop} (h0 : ∀ v ∈ of, S v) (h1 : ∀ v, S v → ∀ c, api_Link.mk c v ∈ ls → S c) : ∀ v, Rch false ls of v → S v := by
  rintro v ⟨a, ha, e⟩
  simp only [Bool.false_eq_true, if_false] at e
  rcases e with rfl | e
  · exact h0 _ ha
  · induction e with
    | one h => exact h1 _ (h0 _ ha) _ h
    | more h _ ih => exact h1 _ (ih ha) _ h

theorem clos_l1 {n : Nat} {ls : List api_Link} (g : GoodG n ls) {adj : List (List Int)} (ha : ∀ v, 0 ≤ v → v < (n : Int) → idx adj v = some (consOf ls v)) {of : List Int} {r0 : List Bool} {o0 : List Int} {S0 : Int → Prop} (h0 : Way n ls of r0 o0 S0) :
    ∃ r, depgraph_closure.l1 adj FUEL r0 o0 = some r ∧ Fl1 n r (Rch false ls of) := by
  have hn := g.n128
  have hol : ∀ {r o S}, Way n ls of r o S → o.length ≤ n := fun {r o S} hw => by
    have := nodup_le hw.nodup (s := below n) (fun y hy => mem_below.2 (hw.sound y (hw.open_ y hy)).1)
    rwa [below_length] at this
  have h00 := hol h0
  refine loop_m (L := fun k (s : List Bool × List Int) => depgraph_closure.l1 adj k s.1 s.2) (fun s => ∃ S, Way n ls of s.1 s.2 S) (fun s => 2 * (n - s.1.count true) + s.2.length) (fun q => ∃ r, q = some r ∧ Fl1 n r (Rch false ls of)) ?_ FUEL (r0, o0) ⟨S0, h0⟩ (FUEL_pos (by show 2 * (n - r0.count true) + o0.length ≤ _; omega))
  rintro k ⟨r, o⟩ ⟨S, hw⟩
  simp only at hw ⊢
  have hlen := hol hw
  rw [depgraph_closure.l1]
  by_cases hz : 0 < o.length
  · rw [if_pos (by simp only [decide_eq_true_eq]; omega)]
    have e : wi ((o.length : Int) - 1) = ((o.length - 1 : Nat) : Int) := by rw [wi_id (by omega) (by omega)]; omega
    have hdec : o = o.take (o.length - 1) ++ [o[o.length - 1]] := by
      have := List.take_append_drop (o.length - 1) o
      rw [List.drop_eq_getElem_cons (by omega), List.drop_of_length_le (by omega)] at this
      exact this.symm
    rw [e, idx_get (by omega), slc_front (by omega)]
    simp only [Option.bind_some]
    have hx := (hw.sound _ (hw.open_ o[o.length - 1] (List.getElem_mem _))).1
    rw [ha _ hx.1 hx.2]
    simp only [Option.bind_some]
    have hw' := hw
    rw [hdec] at hw'
    obtain ⟨r', o', S', q1, q2, q3⟩ := clos_l2 g hw'
    rw [q1]
    rw [← hdec] at q3
    exact .inl ⟨(r', o'), ⟨S', q2⟩, q3, rfl⟩
  · rw [if_neg (by simp only [decide_eq_true_eq]; omega)]
    have ho : o = [] := List.eq_nil_of_length_eq_zero (by omega)
    subst ho
    exact .inr ⟨r, rfl, hw.fl.congr (fun v _ _ => ⟨fun h => (hw.sound v h).2, rch_closed hw.start (fun v h c hc => hw.closed v h (by simp) c hc) v⟩)⟩

theorem closure_good {n : Nat} {ls : List api_Link} (g : GoodG n ls) {adj : List (List Int)} (ha : ∀ v, 0 ≤ v → v < (n : Int) → idx adj v = some (consOf ls v)) (of : List Int) (hof : of.length ≤ maxLen) :
    depgraph_closure.f (n : Int) adj of = some (if of.any (badV n) = true then ([], 1) else (upto n (Rch false ls of), 0)) := by
  have hn := g.n128
  unfold depgraph_closure.f
  rw [mk_ok (by omega)]
  simp only [Option.bind_some]
  rcases clos_l0 hn of hof with ⟨h1, h2⟩ | ⟨h1, r, o, h2, h3, h4, h5⟩
  · rw [h2, if_pos h1]; rfl
  · rw [h2, h1]
    simp only [Option.bind_some, Fl.go]
    have hin : ∀ v ∈ of, 0 ≤ v ∧ v < (n : Int) := fun v hv => by
      rw [List.any_eq_false] at h1
      have := h1 v hv
      rw [Bool.not_eq_true] at this
      exact badV_iff.1 this
    obtain ⟨r', q1, q2⟩ := clos_l1 g ha (of := of) (r0 := r) (o0 := o) (S0 := fun v => v ∈ of) ⟨h3, fun v h => h, fun v h => ⟨hin v h, ⟨v, h, .inl rfl⟩⟩, h4, fun v h => (h5 v).1 h, fun v h1 h2 => absurd ((h5 v).2 h1) h2⟩
    rw [q1]
    simp only [Option.bind_some]
    rw [clos_l3 hn q2]
    rfl

noncomputable def clres (down : Bool) (p : Int) (ls : List api_Link) (of : List Int) : List Int × Int := if vcode p ls = 0 then (if of.any (badV p) = true then ([], 1) else (upto p.toNat (Rch down ls of), 0)) else ([], vcode p ls)
theorem clres_good {down : Bool} {n : Nat} {ls : List api_Link} (g : GoodG n ls) (of : List Int) : clres down (n : Int) ls of = if of.any (badV n) = true then ([], 1) else (upto n (Rch down ls of), 0) := by
  unfold clres; rw [if_pos (good_vcode g)]; rfl
theorem clres_bad {down : Bool} {p : Int} {ls : List api_Link} (h : ¬ vcode p ls = 0) (of : List Int) : clres down p ls of = ([], vcode p ls) := by
  unfold clres; rw [if_neg h]
theorem clres_len (down : Bool) (p : Int) (ls : List api_Link) (of : List Int) : (clres down p ls of).1.length ≤ 128 := by
  by_cases hv : vcode p ls = 0
  · obtain ⟨n, rfl, g⟩ := vcode_good hv
    rw [clres_good g]
    split
    · simp
    · have := upto_len n (Rch down ls of); have := g.n128; simp only; omega
  · rw [clres_bad hv]; simp

theorem consumers_ok (p : Int) (ls : List api_Link) (of : List Int) (h : ls.length ≤ maxLen) (hof : of.length ≤ maxLen) : depgraph_Consumers.f p ls of = some (clres false p ls of) := by
  unfold depgraph_Consumers.f
  rw [validate_ok p ls h, Option.bind_some]
  by_cases hv : vcode p ls = 0
  · obtain ⟨n, rfl, g⟩ := vcode_good hv
    rw [if_neg (by simp [hv]), clres_good g]
    obtain ⟨adj, cnt, ha, _, _, hac⟩ := adjacent_ok g
    rw [ha, Option.bind_some]
    rw [closure_good g (fun v v0 v1 => (hac v v0 v1).1) of hof]
    rfl
  · rw [if_pos (by simpa using hv), clres_bad hv]

theorem suppliers_ok (p : Int) (ls : List api_Link) (of : List Int) (h : ls.length ≤ maxLen) (hof : of.length ≤ maxLen) : depgraph_Suppliers.f p ls of = some (clres true p ls of) := by
  unfold depgraph_Suppliers.f
  rw [validate_ok p ls h, Option.bind_some]
  by_cases hv : vcode p ls = 0
  · obtain ⟨n, rfl, g⟩ := vcode_good hv
    have hl := g.len
    rw [if_neg (by simp [hv]), clres_good g, reversed_ok ls (by omega), Option.bind_some]
    obtain ⟨adj, cnt, ha, _, _, hac⟩ := adjacent_ok (good_revL g)
    rw [ha, Option.bind_some]
    rw [closure_good (good_revL g) (fun v v0 v1 => (hac v v0 v1).1) of hof, upto_congr (fun v _ _ => rch_rev)]
    rfl
  · rw [if_pos (by simpa using hv), clres_bad hv]

/-! ### the reference: rounds over the links -/

theorem refclos_l0 {n : Nat} (hn : n ≤ 128) (of : List Int) (hof : of.length ≤ maxLen) :
    (of.any (badV n) = true ∧ ref24_closure.l0 (n : Int) of FUEL (List.replicate n false) 0 = some (.out ([], 1))) ∨
    (of.any (badV n) = false ∧ ∃ r, ref24_closure.l0 (n : Int) of FUEL (List.replicate n false) 0 = some (.nxt r) ∧ Fl1 n r (fun v => v ∈ of)) := by
  rw [maxLen_eq] at hof
  refine loop_c (L := fun k (s : List Bool) i => ref24_closure.l0 (n : Int) of k s i) of.length (fun i s => (of.take i).any (badV n) = false ∧ Fl1 n s (fun v => v ∈ of.take i))
    (fun x => (of.any (badV n) = true ∧ x = some (.out ([], 1))) ∨ (of.any (badV n) = false ∧ ∃ r, x = some (.nxt r) ∧ Fl1 n r (fun v => v ∈ of))) ?_ ?_ FUEL 0 _ (Nat.zero_le _) (FUEL_pos (by omega)) ⟨by simp, (Fl1.empty n).congr (by simp)⟩
  · rintro k r i hi ⟨h1, h2⟩
    rw [ref24_closure.l0, if_pos (by simp; omega), idx_get hi]
    simp only [Option.bind_some]
    by_cases hb : badV n of[i] = true
    · rw [if_pos (show ((decide (of[i] < 0)) || (decide ((n : Int) ≤ of[i]))) = true from hb)]
      exact .inr (.inl ⟨List.any_eq_true.2 ⟨_, List.getElem_mem hi, hb⟩, rfl⟩)
    · rw [if_neg (show ¬ ((decide (of[i] < 0)) || (decide ((n : Int) ≤ of[i]))) = true from hb)]
      rw [Bool.not_eq_true] at hb
      obtain ⟨v0, v1⟩ := badV_iff.1 hb
      obtain ⟨b, e, _⟩ := h2.say _ v0 v1
      rw [e]
      simp only [Option.bind_some]
      refine .inl ⟨upd r of[i] true, ⟨(any_take_false hi).2 ⟨h1, hb⟩, (h2.set v0).congr (fun v _ _ => by rw [mem_take_succ hi]; exact or_comm)⟩, by rw [wi_succ (by omega)]⟩
  · rintro k r ⟨h1, h2⟩
    rw [ref24_closure.l0, if_neg (by simp)]
    rw [List.take_length] at h1 h2
    exact .inr ⟨h1, r, rfl, h2⟩

/-- From, to: along a link. -/
def fr (down : Bool) (l : api_Link) : Int := if down = true then l.Consumer else l.Supplier
def to (down : Bool) (l : api_Link) : Int := if down = true then l.Supplier else l.Consumer

theorem refclos_l2 {n : Nat} {ls : List api_Link} (g : GoodG n ls) (down : Bool) {of : List Int} {r : List Bool} {S : Int → Prop} (hf : Fl1 n r S) (hs : ∀ v, S v → (0 ≤ v ∧ v < (n : Int)) → Rch down ls of v) :
    ∃ r' S', ref24_closure.l2 ls down FUEL r 0 = some r' ∧ Fl1 n r' S' ∧ (∀ v, S v → S' v) ∧ (∀ v, S' v → (0 ≤ v ∧ v < (n : Int)) → Rch down ls of v) ∧ ((r' = r ∧ ∀ l ∈ ls, S (fr down l) → S (to down l)) ∨ r.count true + 1 ≤ r'.count true) := by
  have hl := g.len
  refine loop_c (L := fun k (s : List Bool) i => ref24_closure.l2 ls down k s i) ls.length
    (fun i s => ∃ S', Fl1 n s S' ∧ (∀ v, S v → S' v) ∧ (∀ v, S' v → (0 ≤ v ∧ v < (n : Int)) → Rch down ls of v) ∧ ((s = r ∧ (∀ v : Int, 0 ≤ v → v < n → (S' v ↔ S v)) ∧ ∀ l ∈ ls.take i, S (fr down l) → S (to down l)) ∨ r.count true + 1 ≤ s.count true))
    (fun q => ∃ r' S', q = some r' ∧ Fl1 n r' S' ∧ (∀ v, S v → S' v) ∧ (∀ v, S' v → (0 ≤ v ∧ v < (n : Int)) → Rch down ls of v) ∧ ((r' = r ∧ ∀ l ∈ ls, S (fr down l) → S (to down l)) ∨ r.count true + 1 ≤ r'.count true)) ?_ ?_ FUEL 0 r (Nat.zero_le _) (FUEL_pos (by omega))
    ⟨S, hf, fun _ h => h, hs, .inl ⟨rfl, fun _ _ _ => Iff.rfl, by simp⟩⟩
  · rintro k s i hi ⟨S1, i1, i2, i3, i4⟩
    have hm := List.getElem_mem hi
    have hc := g.c0 _ hm
    have hsu := g.s0 _ hm
    have hfr : 0 ≤ fr down ls[i] ∧ fr down ls[i] < (n : Int) := by unfold fr; split <;> assumption
    have hto : 0 ≤ to down ls[i] ∧ to down ls[i] < (n : Int) := by unfold to; split <;> assumption
    obtain ⟨bf, ef, hbf⟩ := i1.say _ hfr.1 hfr.2
    obtain ⟨bt, et, hbt⟩ := i1.say _ hto.1 hto.2
    have step : ref24_closure.l2 ls down (k + 1) s (i : Int) = ref24_closure.l2 ls down k (if bf = true then upd s (to down ls[i]) true else s) ((i + 1 : Nat) : Int) := by
      rw [ref24_closure.l2, if_pos (by simp; omega), idx_get hi]
      simp only [Option.bind_some]
      rw [wi_succ (by omega)]
      cases down
      · simp only [fr, to, Bool.false_eq_true, if_false] at ef et ⊢
        simp only [Option.bind_some, Bool.false_eq_true, if_false, Bool.not_false, if_true]
        rw [ef]
        simp only [Option.bind_some]
        cases bf
        · rfl
        · simp only [if_true]
          rw [et]; rfl
      · simp only [fr, to, if_true] at ef et ⊢
        rw [ef]
        simp only [Option.bind_some]
        cases bf
        · rfl
        · simp only [if_true]
          rw [et]; rfl
    rw [step]
    have rch : S1 (fr down ls[i]) → Rch down ls of (to down ls[i]) := fun h => by
      obtain ⟨a, ha, e⟩ := i3 _ h hfr
      refine ⟨a, ha, .inr ?_⟩
      cases down
      · simp only [fr, to, Bool.false_eq_true, if_false] at e ⊢
        have hlk : api_Link.mk ls[i].Consumer ls[i].Supplier ∈ ls := hm
        rcases e with e | e
        · rw [← e]; exact .one hlk
        · exact .more hlk e
      · simp only [fr, to, if_true] at e ⊢
        have hlk : api_Link.mk ls[i].Consumer ls[i].Supplier ∈ ls := hm
        rcases e with e | e
        · rw [← e]; exact .one hlk
        · exact e.trans (.one hlk)
    cases bf
    · refine .inl ⟨s, ⟨S1, i1, i2, i3, ?_⟩, rfl⟩
      rcases i4 with ⟨q1, q2, q3⟩ | q
      · refine .inl ⟨q1, q2, fun l hl' h => ?_⟩
        rcases (mem_take_succ hi).1 hl' with h' | h'
        · exact q3 l h' h
        · subst h'
          have := hbf.2 ((q2 _ hfr.1 hfr.2).2 h)
          cases this
      · exact .inr q
    · have hsf := hbf.1 rfl
      refine .inl ⟨_, ⟨fun v => v = to down ls[i] ∨ S1 v, i1.set hto.1, fun v h => .inr (i2 v h), ?_, ?_⟩, by simp⟩
      · rintro v (rfl | h) hv
        · exact rch hsf
        · exact i3 v h hv
      · cases bt
        · have hcount := count_upd et
          rcases i4 with ⟨q1, q2, q3⟩ | q
          · right; rw [hcount, q1]; omega
          · right; rw [hcount]; omega
        · have hst := hbt.1 rfl
          rw [upd_same et]
          rcases i4 with ⟨q1, q2, q3⟩ | q
          · refine .inl ⟨q1, fun v v0 v1 => ⟨fun h => ?_, fun h => .inr ((q2 v v0 v1).2 h)⟩, fun l hl' h => ?_⟩
            · rcases h with rfl | h
              · exact (q2 _ hto.1 hto.2).1 hst
              · exact (q2 v v0 v1).1 h
            · rcases (mem_take_succ hi).1 hl' with h' | h'
              · exact q3 l h' h
              · subst h'; exact (q2 _ hto.1 hto.2).1 hst
          · exact .inr q
  · rintro k s ⟨S1, i1, i2, i3, i4⟩
    rw [ref24_closure.l2, if_neg (by simp)]
    rw [List.take_length] at i4
    refine ⟨s, S1, rfl, i1, i2, i3, ?_⟩
    rcases i4 with ⟨q1, q2, q3⟩ | q
    · exact .inl ⟨q1, q3⟩
    · exact .inr q

theorem rch_closed2 {n : Nat} {ls : List api_Link} (g : GoodG n ls) {down : Bool} {of : List Int} {S : Int → Prop} (h0 : ∀ v ∈ of, S v) (h1 : ∀ l ∈ ls, S (fr down l) → S (to down l)) : ∀ v, Rch down ls of v → S v := by
  rintro v ⟨a, ha, e⟩
  cases down
  · simp only [Bool.false_eq_true, if_false] at e
    rcases e with rfl | e
    · exact h0 _ ha
    · induction e with
      | one h => exact h1 _ h (h0 _ ha)
      | more h _ ih => exact h1 _ h (ih ha)
  · simp only [if_true] at e
    rcases e with rfl | e
    · exact h0 _ ha
    · have key : ∀ {a b : Int}, Path ls a b → S a → S b := by
        intro a b hp
        induction hp with
        | one h => exact fun hs => h1 _ h hs
        | more h _ ih => exact fun hs => ih (h1 _ h hs)
      exact key e (h0 _ ha)

theorem refclosure_good {n : Nat} {ls : List api_Link} (g : GoodG n ls) (down : Bool) (of : List Int) (hof : of.length ≤ maxLen) :
    ((mk (n : Int) false).bind fun y17 => (ref24_closure.l0 (n : Int) of FUEL y17 0 : Option (Fl ((List Int) × Int) ((List Bool)))).bind fun o28 => o28.go fun v27 => (ref24_closure.l1 (n : Int) ls down FUEL v27 0 : Option ((List Bool))).bind fun v85 => (ref24_closure.l3 (n : Int) v85 FUEL [] 0 : Option ((List Int))).bind fun v210 => some (v210, 0)) = some (if of.any (badV n) = true then ([], 1) else (upto n (Rch down ls of), 0)) := by
  have hn := g.n128
  rw [mk_ok (by omega), Option.bind_some]
  rcases refclos_l0 hn of hof with ⟨h1, h2⟩ | ⟨h1, r, h2, h3⟩
  · rw [h2, if_pos h1]; rfl
  · rw [h2, h1, Option.bind_some]
    have key : ∃ r', ref24_closure.l1 (n : Int) ls down FUEL r 0 = some r' ∧ Fl1 n r' (Rch down ls of) := by
      refine loop_c (L := fun k (s : List Bool) i => ref24_closure.l1 (n : Int) ls down k s i) n
        (fun i s => ∃ S, Fl1 n s S ∧ (∀ v ∈ of, S v) ∧ (∀ v, S v → (0 ≤ v ∧ v < (n : Int)) → Rch down ls of v) ∧ ((∀ l ∈ ls, S (fr down l) → S (to down l)) ∨ (i + 1 ≤ s.count true ∧ of ≠ [])))
        (fun q => ∃ r', q = some r' ∧ Fl1 n r' (Rch down ls of)) ?_ ?_ FUEL 0 r (Nat.zero_le _) (FUEL_pos (by omega)) ⟨fun v => v ∈ of, h3, fun _ h => h, fun v h _ => ⟨v, h, .inl rfl⟩, ?_⟩
      · rintro k s i hi ⟨S, i1, i2, i3, i4⟩
        rw [ref24_closure.l1, if_pos (by simp; omega)]
        obtain ⟨r', S', q1, q2, q3, q4, q5⟩ := refclos_l2 g down i1 i3
        rw [q1]
        rcases i4 with c | ⟨c, ne⟩
        · rcases q5 with ⟨e, _⟩ | q5
          · subst e
            exact .inl ⟨r', ⟨S, i1, i2, i3, .inl c⟩, by rw [wi_succ (by omega)]; rfl⟩
          · -- a closed set does not grow
            have hc := rch_closed2 g i2 c
            refine .inl ⟨r', ⟨S', q2, fun v h => q3 v (i2 v h), q4, .inl fun l hl h => ?_⟩, by rw [wi_succ (by omega)]; rfl⟩
            have hfr : 0 ≤ fr down l ∧ fr down l < (n : Int) := by unfold fr; split; exact g.c0 _ hl; exact g.s0 _ hl
            exact q3 _ (c l hl (hc _ (q4 _ h hfr)))
        · rcases q5 with ⟨e, cl⟩ | q5
          · subst e
            exact .inl ⟨r', ⟨S, i1, i2, i3, .inl cl⟩, by rw [wi_succ (by omega)]; rfl⟩
          · exact .inl ⟨r', ⟨S', q2, fun v h => q3 v (i2 v h), q4, .inr ⟨by omega, ne⟩⟩, by rw [wi_succ (by omega)]; rfl⟩
      · rintro k s ⟨S, i1, i2, i3, i4⟩
        rw [ref24_closure.l1, if_neg (by simp)]
        rcases i4 with c | ⟨c, _⟩
        · have hc := rch_closed2 g i2 c
          exact ⟨s, rfl, i1.congr (fun v v0 v1 => ⟨fun h => i3 v h ⟨v0, v1⟩, hc v⟩)⟩
        · have := List.count_le_length (a := true) (l := s)
          rw [i1.len] at this
          omega
      · by_cases ne : of = []
        · subst ne; exact .inl (fun l hl h => by simp at h)
        · refine .inr ⟨?_, ne⟩
          obtain ⟨x, hx⟩ := List.exists_mem_of_ne_nil of ne
          rw [List.any_eq_false] at h1
          have hb := h1 x hx
          rw [Bool.not_eq_true] at hb
          obtain ⟨x0, x1⟩ := badV_iff.1 hb
          have := h3.true_ x0 x1 hx
          rw [idx_nat x0] at this
          have := List.count_pos_iff.2 (List.mem_of_getElem? this)
          omega
    obtain ⟨r', q1, q2⟩ := key
    show (ref24_closure.l1 (n : Int) ls down FUEL r 0).bind _ = _
    rw [q1, Option.bind_some, refclos_l3 hn q2]
    rfl

theorem refclosure_ok (p : Int) (ls : List api_Link) (of : List Int) (down : Bool) (h : ls.length ≤ maxLen) (hof : of.length ≤ maxLen) : ref24_closure.f p ls of down = some (clres down p ls of) := by
  unfold ref24_closure.f
  rw [basic_ok p ls h, Option.bind_some]
  by_cases hv : vcode p ls = 0
  · obtain ⟨n, rfl, g⟩ := vcode_good hv
    rw [if_neg (by simp [hv]), clres_good g]
    exact refclosure_good g down of hof
  · rw [if_pos (by simpa using hv), clres_bad hv]

theorem refsuppliers_ok (p : Int) (ls : List api_Link) (of : List Int) (h : ls.length ≤ maxLen) (hof : of.length ≤ maxLen) : ref24_Suppliers.f p ls of = some (clres true p ls of) := by
  unfold ref24_Suppliers.f
  rw [refclosure_ok p ls of true h hof]; rfl
theorem refconsumers_ok (p : Int) (ls : List api_Link) (of : List Int) (h : ls.length ≤ maxLen) (hof : of.length ≤ maxLen) : ref24_Consumers.f p ls of = some (clres false p ls of) := by
  unfold ref24_Consumers.f
  rw [refclosure_ok p ls of false h hof]; rfl

end Go.Proofs.Ytphgandhncmaoaa.Sim
