/-
  Plain lemmas: a cycle of both programs.
-/
import Derived.Test.YtphgandhncmaoaaG4
namespace Go.Proofs.Ytphgandhncmaoaa.Sim
open Go
set_option linter.unusedVariables false

/-- A loop that looks for the first element with P and answers by its index. -/
theorem search_i {α ρ : Type} {L : Nat → Int → Option (Fl ρ Unit)} (xs : List α) (P : α → Bool) (v : Int → ρ) (hlen : xs.length ≤ maxLen)
    (hL : ∀ k (i : Nat), L (k + 1) (i : Int) = if decide ((i : Int) < (xs.length : Int)) = true then (idx xs (i : Int)).bind fun x => if P x = true then some (.out (v (i : Int))) else L k (wi ((i : Int) + 1)) else some (.nxt ())) :
    (∃ i, ∃ h : i < xs.length, P xs[i] = true ∧ (∀ j, ∀ hj : j < i, P (xs[j]'(by omega)) = false) ∧ L FUEL 0 = some (.out (v (i : Int)))) ∨ ((∀ x ∈ xs, P x = false) ∧ L FUEL 0 = some (.nxt ())) := by
  rw [maxLen_eq] at hlen
  refine loop_c (L := fun k (_ : Unit) i => L k i) xs.length (fun i _ => ∀ j, ∀ hj : j < i, ∀ hx : j < xs.length, P xs[j] = false) (fun o => (∃ i, ∃ h : i < xs.length, P xs[i] = true ∧ (∀ j, ∀ hj : j < i, P (xs[j]'(by omega)) = false) ∧ o = some (.out (v (i : Int)))) ∨ ((∀ x ∈ xs, P x = false) ∧ o = some (.nxt ()))) ?_ ?_ FUEL 0 () (Nat.zero_le _) (FUEL_pos (by omega)) (fun j hj => by omega)
  · intro k s i hi hI
    rw [hL, if_pos (by simp; omega), idx_get hi]
    simp only [Option.bind_some]
    by_cases hp : P xs[i] = true
    · rw [if_pos hp]
      exact .inr (.inl ⟨i, hi, hp, fun j hj => hI j hj (by omega), rfl⟩)
    · rw [if_neg hp]
      refine .inl ⟨(), fun j hj hx => ?_, by rw [wi_succ (by omega)]⟩
      by_cases e : j = i
      · subst e; simpa using hp
      · exact hI j (by omega) hx
  · intro k s hI
    rw [hL, if_neg (by simp)]
    refine .inr ⟨fun x hx => ?_, rfl⟩
    obtain ⟨j, hj, rfl⟩ := List.getElem_of_mem hx
    exact hI j hj hj

theorem findIdx_first {α : Type} {xs : List α} {P : α → Bool} {i : Nat} (h : i < xs.length) (h1 : P xs[i] = true) (h2 : ∀ j, ∀ hj : j < i, P (xs[j]'(by omega)) = false) : xs.findIdx P = i :=
  (List.findIdx_eq h).2 ⟨h1, h2⟩

theorem index_ok (xs : List Int) (v : Int) (h : xs.length ≤ maxLen) : slices_Index_int_int.f xs v = some (if v ∈ xs then ((xs.findIdx (fun x => decide (x = v)) : Nat) : Int) else -1) := by
  unfold slices_Index_int_int.f
  rcases search_i (L := slices_Index_int_int.l0 xs v) xs (fun x => v == x) (fun i => i) h (fun k i => by rw [slices_Index_int_int.l0]) with ⟨i, hi, h1, h2, h3⟩ | ⟨h1, h2⟩
  · rw [h3]
    have hv : v = xs[i] := by simpa using h1
    have hf : xs.findIdx (fun x => decide (x = v)) = i := findIdx_first hi (by simp [hv]) (fun j hj => by have := h2 j hj; simp only [beq_eq_false_iff_ne, ne_eq] at this; simpa using fun e => this e.symm)
    rw [hf, if_pos (by rw [hv]; exact List.getElem_mem hi)]
    rfl
  · rw [h2, if_neg (fun hm => by have := h1 v hm; simp at this)]
    rfl

theorem indexB_ok (xs : List Bool) (h : xs.length ≤ maxLen) : (∃ i : Nat, slices_Index_bool_bool.f xs true = some (i : Int) ∧ idx xs (i : Int) = some true ∧ ∀ j : Int, 0 ≤ j → j < i → idx xs j = some false) ∨ (slices_Index_bool_bool.f xs true = some (-1) ∧ ∀ x ∈ xs, x = false) := by
  unfold slices_Index_bool_bool.f
  rcases search_i (L := slices_Index_bool_bool.l0 xs true) xs (fun x => true == x) (fun i => i) h (fun k i => by rw [slices_Index_bool_bool.l0]) with ⟨i, hi, h1, h2, h3⟩ | ⟨h1, h2⟩
  · refine .inl ⟨i, by rw [h3]; rfl, by rw [idx_get hi]; simpa using h1.symm, fun j j0 j1 => ?_⟩
    obtain ⟨m, rfl⟩ := Int.eq_ofNat_of_zero_le j0
    rw [idx_get (by omega)]
    have := h2 m (by omega)
    simpa using this
  · exact .inr ⟨by rw [h2]; rfl, fun x hx => by have := h1 x hx; simpa using this⟩

theorem clone_ok (xs : List Int) (h : xs.length ≤ 4294967296) : slices_Clone_int_int.f xs = some xs := by
  unfold slices_Clone_int_int.f
  rw [app_ok (by simp; omega)]; rfl

/-! ### the least remaining supplier -/

def mn (n : Nat) (ls : List api_Link) (out : List Int) (v : Int) : Int := ls.foldl (fun a l => if l.Consumer = v ∧ l.Supplier ∉ out then min a l.Supplier else a) (n : Int)

theorem mn_snoc (n : Nat) (ls : List api_Link) (out : List Int) (v : Int) (l : api_Link) : mn n (ls ++ [l]) out v = if l.Consumer = v ∧ l.Supplier ∉ out then min (mn n ls out v) l.Supplier else mn n ls out v := by
  unfold mn; rw [List.foldl_append]; rfl

theorem mn_cases (n : Nat) (out : List Int) (v : Int) : ∀ (ls : List api_Link) (a : Int), (ls.foldl (fun a l => if l.Consumer = v ∧ l.Supplier ∉ out then min a l.Supplier else a) a = a ∨ ∃ s, api_Link.mk v s ∈ ls ∧ s ∉ out ∧ ls.foldl (fun a l => if l.Consumer = v ∧ l.Supplier ∉ out then min a l.Supplier else a) a = s) ∧
    ls.foldl (fun a l => if l.Consumer = v ∧ l.Supplier ∉ out then min a l.Supplier else a) a ≤ a ∧ ∀ s, api_Link.mk v s ∈ ls → s ∉ out → ls.foldl (fun a l => if l.Consumer = v ∧ l.Supplier ∉ out then min a l.Supplier else a) a ≤ s
  | [], a => ⟨.inl rfl, Int.le_refl _, by simp⟩
  | l :: t, a => by
    rw [List.foldl_cons]
    obtain ⟨h1, h2, h3⟩ := mn_cases n out v t (if l.Consumer = v ∧ l.Supplier ∉ out then min a l.Supplier else a)
    by_cases hc : l.Consumer = v ∧ l.Supplier ∉ out
    · rw [if_pos hc] at h1 h2 h3 ⊢
      refine ⟨?_, by omega, fun s hs ho => ?_⟩
      · rcases h1 with h1 | ⟨s, q1, q2, q3⟩
        · by_cases e : a ≤ l.Supplier
          · exact .inl (by omega)
          · exact .inr ⟨l.Supplier, by rw [← hc.1]; exact List.mem_cons_self .., hc.2, by omega⟩
        · exact .inr ⟨s, List.mem_cons_of_mem _ q1, q2, q3⟩
      · rcases List.mem_cons.1 hs with e | hs
        · subst e; simp only at h2 ⊢; omega
        · exact h3 s hs ho
    · rw [if_neg hc] at h1 h2 h3 ⊢
      refine ⟨?_, h2, fun s hs ho => ?_⟩
      · rcases h1 with h1 | ⟨s, q1, q2, q3⟩
        · exact .inl h1
        · exact .inr ⟨s, List.mem_cons_of_mem _ q1, q2, q3⟩
      · rcases List.mem_cons.1 hs with e | hs
        · subst e; exact absurd ⟨rfl, ho⟩ hc
        · exact h3 s hs ho

theorem mn_link {n : Nat} {ls : List api_Link} (g : GoodG n ls) {v : Int} (h0 : 0 ≤ v) (h1 : v < n) (hv : v ∉ ord n ls) : api_Link.mk v (mn n ls (ord n ls) v) ∈ ls ∧ mn n ls (ord n ls) v ∉ ord n ls := by
  obtain ⟨s, hs, ho⟩ := ord_stuck g h0 h1 hv
  obtain ⟨q1, q2, q3⟩ := mn_cases n (ord n ls) v ls (n : Int)
  rcases q1 with q1 | ⟨s', r1, r2, r3⟩
  · have := q3 s hs ho
    have := (g.s0 _ hs).2
    simp only at this
    omega
  · unfold mn; rw [r3]; exact ⟨r1, r2⟩

/-! ### the walk -/

def walkTo (f : Int → Int) : Nat → List Int → Int → List Int
  | 0, _, _ => []
  | k + 1, walk, p => if p ∈ walk then walk.drop (walk.findIdx (fun x => decide (x = p))) else walkTo f k (walk ++ [p]) (f p)

structure WI (n : Nat) (R : Int → Prop) (f : Int → Int) (walk : List Int) (p : Int) : Prop where
  nodup : walk.Nodup
  mem : ∀ x ∈ walk, (0 ≤ x ∧ x < n) ∧ R x
  here : (0 ≤ p ∧ p < n) ∧ R p
  chain : ∀ j, ∀ h : j + 1 < walk.length, walk[j + 1] = f (walk[j]'(by omega))
  last : ∀ h : 0 < walk.length, p = f (walk[walk.length - 1]'(by omega))

theorem WI.len {n : Nat} {R : Int → Prop} {f : Int → Int} {walk : List Int} {p : Int} (h : WI n R f walk p) : walk.length ≤ n := by
  have := nodup_le h.nodup (fun x hx => mem_below.2 (h.mem x hx).1)
  rwa [below_length] at this
theorem WI.step {n : Nat} {R : Int → Prop} {f : Int → Int} (hstep : ∀ x : Int, (0 ≤ x ∧ x < n) → R x → (0 ≤ f x ∧ f x < n) ∧ R (f x)) {walk : List Int} {p : Int} (h : WI n R f walk p) (hp : p ∉ walk) : WI n R f (walk ++ [p]) (f p) := by
  refine ⟨?_, fun x hx => ?_, hstep p h.here.1 h.here.2, fun j hj => ?_, fun hl => ?_⟩
  · rw [List.nodup_append]
    refine ⟨h.nodup, by simp, fun a ha b hb => ?_⟩
    simp only [List.mem_singleton] at hb
    subst hb
    exact fun e => hp (e ▸ ha)
  · rcases List.mem_append.1 hx with hx | hx
    · exact h.mem x hx
    · simp only [List.mem_singleton] at hx; subst hx; exact h.here
  · rw [List.length_append, List.length_singleton] at hj
    by_cases e : j + 1 < walk.length
    · rw [List.getElem_append_left e, List.getElem_append_left (by omega)]; exact h.chain j e
    · have e2 : j + 1 = walk.length := by omega
      rw [List.getElem_append_right (by omega), List.getElem_append_left (by omega)]
      simp only [show j + 1 - walk.length = 0 from by omega, List.getElem_cons_zero]
      rw [h.last (by omega)]
      congr 2
      omega
  · simp

structure CycRes (ls : List api_Link) (c : List Int) : Prop where
  ne : 0 < c.length
  nodup : c.Nodup
  link : ∀ j, ∀ h : j < c.length, api_Link.mk c[j] (c[(j + 1) % c.length]'(Nat.mod_lt _ (by omega))) ∈ ls

theorem walkTo_res {n : Nat} {ls : List api_Link} {R : Int → Prop} {f : Int → Int} (hstep : ∀ x : Int, (0 ≤ x ∧ x < n) → R x → (0 ≤ f x ∧ f x < n) ∧ R (f x)) (hl : ∀ x : Int, (0 ≤ x ∧ x < n) → R x → api_Link.mk x (f x) ∈ ls) : ∀ (k : Nat) (walk : List Int) (p : Int), WI n R f walk p → n < k + walk.length → CycRes ls (walkTo f k walk p)
  | 0, walk, p, h, hk => by have := h.len; omega
  | k + 1, walk, p, h, hk => by
    rw [walkTo]
    split
    · rename_i hp
      have hi : walk.findIdx (fun x => decide (x = p)) < walk.length := List.findIdx_lt_length_of_exists ⟨p, hp, by simp⟩
      generalize hd : walk.findIdx (fun x => decide (x = p)) = d at *
      have hpd : walk[d] = p := by
        have := List.findIdx_getElem (xs := walk) (p := fun x => decide (x = p)) (w := by omega)
        simp only [decide_eq_true_eq] at this
        simpa only [hd] using this
      refine ⟨by simp; omega, List.Sublist.nodup (List.drop_sublist d walk) h.nodup, fun j hj => ?_⟩
      have hj' := hj
      rw [List.length_drop] at hj'
      have hm := h.mem walk[d + j] (List.getElem_mem (by omega))
      rw [List.getElem_drop]
      have := hl walk[d + j] hm.1 hm.2
      by_cases e : j + 1 < (walk.drop d).length
      · have e2 : (j + 1) % (walk.drop d).length = j + 1 := Nat.mod_eq_of_lt e
        simp only [e2, List.getElem_drop]
        rw [List.length_drop] at e
        have := h.chain (d + j) (by omega)
        rw [show walk[d + (j + 1)] = f walk[d + j] from this]
        assumption
      · have e1 : j + 1 = (walk.drop d).length := by omega
        have e2 : (j + 1) % (walk.drop d).length = 0 := by rw [e1]; exact Nat.mod_self _
        simp only [e2, List.getElem_drop, Nat.add_zero, hpd]
        rw [h.last (by omega)]
        rw [List.length_drop] at e1
        have e3 : walk[walk.length - 1] = walk[d + j] := by congr 1; omega
        rw [e3]; exact this
    · rename_i hp
      exact walkTo_res hstep hl k _ _ (h.step hstep hp) (by simp; omega)

/-! ### the programs -/

theorem cycle_l0 {n : Nat} (hn : n ≤ 128) : ∃ r, depgraph_Cycle.l0 (List.replicate n false) FUEL (List.replicate n false) 0 = some r ∧ r.length = n ∧ ∀ v : Int, 0 ≤ v → v < n → idx r v = some true := by
  refine loop_c (L := fun k (s : List Bool) i => depgraph_Cycle.l0 (List.replicate n false) k s i) n (fun i s => s.length = n ∧ ∀ v : Int, 0 ≤ v → v < i → idx s v = some true) (fun o => ∃ r, o = some r ∧ r.length = n ∧ ∀ v : Int, 0 ≤ v → v < n → idx r v = some true) ?_ ?_ FUEL 0 _ (Nat.zero_le _) (FUEL_pos (by omega)) ⟨by simp, fun v h0 h1 => by omega⟩
  · rintro k s i hi ⟨h1, h2⟩
    rw [depgraph_Cycle.l0, if_pos (by simp; omega), idx_get (xs := s) (by omega)]
    simp only [Option.bind_some]
    refine .inl ⟨upd s (i : Int) true, ⟨by rw [upd_length]; exact h1, fun v v0 v1 => ?_⟩, by rw [wi_succ (by omega)]⟩
    rw [idx_upd (xs := s) (by omega) v0 (by omega)]
    by_cases e : (i : Int) = v
    · rw [if_pos e]
    · rw [if_neg e]; exact h2 v v0 (by omega)
  · rintro k s ⟨h1, h2⟩
    rw [depgraph_Cycle.l0, if_neg (by simp)]
    exact ⟨s, rfl, h1, h2⟩

theorem cycle_l1 {n : Nat} (hn : n ≤ 128) {out : List Int} (ho : out.length ≤ n) (hr : ∀ v ∈ out, 0 ≤ v ∧ v < (n : Int)) {r0 : List Bool} (h0 : r0.length = n) (h1 : ∀ v : Int, 0 ≤ v → v < n → idx r0 v = some true) : ∃ r, depgraph_Cycle.l1 out FUEL r0 0 = some r ∧ r.length = n ∧ ∀ v : Int, 0 ≤ v → v < n → idx r v = some (decide (v ∉ out)) := by
  refine loop_c (L := fun k (s : List Bool) i => depgraph_Cycle.l1 out k s i) out.length (fun i s => s.length = n ∧ ∀ v : Int, 0 ≤ v → v < n → idx s v = some (decide (v ∉ out.take i))) (fun o => ∃ r, o = some r ∧ r.length = n ∧ ∀ v : Int, 0 ≤ v → v < n → idx r v = some (decide (v ∉ out))) ?_ ?_ FUEL 0 r0 (Nat.zero_le _) (FUEL_pos (by omega)) ⟨h0, fun v v0 v1 => by rw [h1 v v0 v1]; simp⟩
  · rintro k s i hi ⟨q1, q2⟩
    have hm := hr _ (List.getElem_mem hi)
    rw [depgraph_Cycle.l1, if_pos (by simp; omega), idx_get hi]
    simp only [Option.bind_some]
    rw [q2 _ hm.1 hm.2]
    simp only [Option.bind_some]
    refine .inl ⟨upd s out[i] false, ⟨by rw [upd_length]; exact q1, fun v v0 v1 => ?_⟩, by rw [wi_succ (by omega)]⟩
    rw [idx_upd (xs := s) hm.1 v0 (by omega)]
    by_cases e : out[i] = v
    · rw [if_pos e, decide_eq_false (fun h => h ((mem_take_succ hi).2 (.inr e.symm)))]
    · rw [if_neg e, q2 v v0 v1]
      congr 1
      rw [decide_eq_decide, mem_take_succ hi, not_or]
      exact ⟨fun h => ⟨h, fun h2 => e h2.symm⟩, fun h => h.1⟩
  · rintro k s ⟨q1, q2⟩
    rw [depgraph_Cycle.l1, if_neg (by simp)]
    rw [List.take_length] at q2
    exact ⟨s, rfl, q1, q2⟩

theorem cycle_l2 {n : Nat} (hn : n ≤ 128) : ∃ r, depgraph_Cycle.l2 (n : Int) (List.replicate n 0) FUEL (List.replicate n 0) 0 = some r ∧ r.length = n ∧ ∀ v : Int, 0 ≤ v → v < n → idx r v = some (n : Int) := by
  refine loop_c (L := fun k (s : List Int) i => depgraph_Cycle.l2 (n : Int) (List.replicate n 0) k s i) n (fun i s => s.length = n ∧ ∀ v : Int, 0 ≤ v → v < i → idx s v = some (n : Int)) (fun o => ∃ r, o = some r ∧ r.length = n ∧ ∀ v : Int, 0 ≤ v → v < n → idx r v = some (n : Int)) ?_ ?_ FUEL 0 _ (Nat.zero_le _) (FUEL_pos (by omega)) ⟨by simp, fun v h0 h1 => by omega⟩
  · rintro k s i hi ⟨h1, h2⟩
    rw [depgraph_Cycle.l2, if_pos (by simp; omega), idx_get (xs := s) (by omega)]
    simp only [Option.bind_some]
    refine .inl ⟨upd s (i : Int) (n : Int), ⟨by rw [upd_length]; exact h1, fun v v0 v1 => ?_⟩, by rw [wi_succ (by omega)]⟩
    rw [idx_upd (xs := s) (by omega) v0 (by omega)]
    by_cases e : (i : Int) = v
    · rw [if_pos e]
    · rw [if_neg e]; exact h2 v v0 (by omega)
  · rintro k s ⟨h1, h2⟩
    rw [depgraph_Cycle.l2, if_neg (by simp)]
    exact ⟨s, rfl, h1, h2⟩

theorem cycle_l3 {n : Nat} {ls : List api_Link} (g : GoodG n ls) {out : List Int} {r : List Bool} (hr : r.length = n) (hv : ∀ v : Int, 0 ≤ v → v < n → idx r v = some (decide (v ∉ out))) {x0 : List Int} (h0 : x0.length = n) (h1 : ∀ v : Int, 0 ≤ v → v < n → idx x0 v = some (n : Int)) :
    ∃ x, depgraph_Cycle.l3 ls r FUEL x0 0 = some x ∧ x.length = n ∧ ∀ v : Int, 0 ≤ v → v < n → idx x v = some (mn n ls out v) := by
  have hl := g.len
  refine loop_c (L := fun k (s : List Int) i => depgraph_Cycle.l3 ls r k s i) ls.length (fun i s => s.length = n ∧ ∀ v : Int, 0 ≤ v → v < n → idx s v = some (mn n (ls.take i) out v)) (fun o => ∃ x, o = some x ∧ x.length = n ∧ ∀ v : Int, 0 ≤ v → v < n → idx x v = some (mn n ls out v)) ?_ ?_ FUEL 0 x0 (Nat.zero_le _) (FUEL_pos (by omega)) ⟨h0, fun v v0 v1 => by rw [h1 v v0 v1]; rfl⟩
  · rintro k s i hi ⟨q1, q2⟩
    have hm := List.getElem_mem hi
    have hc := g.c0 _ hm
    have hs := g.s0 _ hm
    rw [depgraph_Cycle.l3, if_pos (by simp; omega), idx_get hi]
    simp only [Option.bind_some]
    rw [hv _ hs.1 hs.2]
    simp only [Option.bind_some]
    by_cases ho : ls[i].Supplier ∈ out
    · rw [if_neg (by simp [ho])]
      refine .inl ⟨s, ⟨q1, fun v v0 v1 => ?_⟩, by rw [wi_succ (by omega)]; rfl⟩
      rw [List.take_succ_eq_append_getElem hi, mn_snoc, if_neg (fun h => h.2 ho)]
      exact q2 v v0 v1
    · rw [if_pos (by simp [ho]), q2 _ hc.1 hc.2]
      simp only [Option.bind_some]
      refine .inl ⟨upd s ls[i].Consumer (min (mn n (ls.take i) out ls[i].Consumer) ls[i].Supplier), ⟨by rw [upd_length]; exact q1, fun v v0 v1 => ?_⟩, by rw [wi_succ (by omega)]⟩
      rw [idx_upd (xs := s) hc.1 v0 (by omega), List.take_succ_eq_append_getElem hi, mn_snoc]
      by_cases e : ls[i].Consumer = v
      · subst e; rw [if_pos rfl, if_pos ⟨rfl, ho⟩]
      · rw [if_neg e, if_neg (fun h => e h.1)]; exact q2 v v0 v1
  · rintro k s ⟨q1, q2⟩
    rw [depgraph_Cycle.l3, if_neg (by simp)]
    rw [List.take_length] at q2
    exact ⟨s, rfl, q1, q2⟩

/-- The nodes on or behind a cycle, and the step of the walk. -/
theorem mn_step {n : Nat} {ls : List api_Link} (g : GoodG n ls) (x : Int) (h : 0 ≤ x ∧ x < n) (hx : x ∉ ord n ls) : (0 ≤ mn n ls (ord n ls) x ∧ mn n ls (ord n ls) x < n) ∧ mn n ls (ord n ls) x ∉ ord n ls := by
  obtain ⟨h1, h2⟩ := mn_link g h.1 h.2 hx
  exact ⟨g.s0 _ h1, h2⟩

theorem cycle_l4 {n : Nat} {ls : List api_Link} (g : GoodG n ls) {x : List Int} (hx : ∀ v : Int, 0 ≤ v → v < n → idx x v = some (mn n ls (ord n ls) v)) {p : Int} (h0 : 0 ≤ p) (h1 : p < n) (hp : p ∉ ord n ls) :
    depgraph_Cycle.l4 x FUEL [] p = some (walkTo (mn n ls (ord n ls)) (n + 1) [] p, 0) := by
  have hn := g.n128
  refine loop_m (L := fun k (s : List Int × Int) => depgraph_Cycle.l4 x k s.1 s.2) (fun s => WI n (fun v => v ∉ ord n ls) (mn n ls (ord n ls)) s.1 s.2 ∧ walkTo (mn n ls (ord n ls)) (n + 1) [] p = walkTo (mn n ls (ord n ls)) (n + 1 - s.1.length) s.1 s.2) (fun s => n - s.1.length)
    (fun o => o = some (walkTo (mn n ls (ord n ls)) (n + 1) [] p, 0)) ?_ FUEL ([], p) ⟨⟨by simp, by simp, ⟨⟨h0, h1⟩, hp⟩, fun j h => by simp at h, fun h => by simp at h⟩, rfl⟩ (FUEL_pos (by show n - 0 ≤ _; omega))
  rintro k ⟨walk, q⟩ ⟨hi, he⟩
  simp only at hi he ⊢
  have hlen := hi.len
  rw [depgraph_Cycle.l4, index_ok walk q (by rw [maxLen_eq]; omega)]
  simp only [Option.bind_some]
  have hw : walkTo (mn n ls (ord n ls)) ((n - walk.length) + 1) walk q = if q ∈ walk then walk.drop (walk.findIdx (fun x => decide (x = q))) else walkTo (mn n ls (ord n ls)) (n - walk.length) (walk ++ [q]) (mn n ls (ord n ls) q) := by rw [walkTo]
  rw [show n + 1 - walk.length = (n - walk.length) + 1 from by omega, hw] at he
  by_cases hm : q ∈ walk
  · rw [if_pos hm] at he ⊢
    rw [if_pos (by simp)]
    have hle : walk.findIdx (fun x => decide (x = q)) ≤ walk.length := List.findIdx_le_length
    rw [slc_back hle]
    simp only [Option.bind_some]
    rw [clone_ok _ (by simp; omega)]
    refine .inr ?_
    rw [he]; rfl
  · rw [if_neg hm] at he ⊢
    rw [if_neg (by decide), app_ok (by simp; omega)]
    simp only [Option.bind_some]
    rw [hx q hi.here.1.1 hi.here.1.2]
    simp only [Option.bind_some]
    have hi' := hi.step (fun x a b => mn_step g x a b) hm
    have hl' := hi'.len
    rw [List.length_append, List.length_singleton] at hl'
    refine .inl ⟨(walk ++ [q], mn n ls (ord n ls) q), ⟨hi', ?_⟩, by show n - (walk ++ [q]).length < n - walk.length; rw [List.length_append, List.length_singleton]; omega, rfl⟩
    have e3 : n - walk.length = n + 1 - (walk ++ [q]).length := by rw [List.length_append, List.length_singleton]; omega
    rw [he, e3]

noncomputable def first (n : Nat) (ls : List api_Link) : Int := ((below n).find? (fun v => decide (v ∉ ord n ls))).getD 0

theorem first_of {n : Nat} {ls : List api_Link} {v : Int} (h0 : 0 ≤ v) (h1 : v < n) (h2 : v ∉ ord n ls) (h3 : ∀ u : Int, 0 ≤ u → u < v → u ∈ ord n ls) : first n ls = v := by
  unfold first
  rcases find_below (fun v => decide (v ∉ ord n ls)) n with ⟨h4, h5⟩ | ⟨u, h4, h5, h6, h7, h8⟩
  · have := h4 v h0 h1; simp [h2] at this
  · rw [h8]
    rcases Int.lt_trichotomy u v with h | h | h
    · have := h3 u h4 h; simp [this] at h6
    · exact h
    · have := h7 v h0 h; simp [h2] at this

noncomputable def cyc (n : Nat) (ls : List api_Link) : List Int := walkTo (mn n ls (ord n ls)) (n + 1) [] (first n ls)
noncomputable def cres (p : Int) (ls : List api_Link) : List Int × Int := if vcode p ls = 0 then (if (ord p.toNat ls).length < p.toNat then (cyc p.toNat ls, 0) else ([], 6)) else ([], vcode p ls)

theorem cres_good {n : Nat} {ls : List api_Link} (g : GoodG n ls) : cres (n : Int) ls = if (ord n ls).length < n then (cyc n ls, 0) else ([], 6) := by
  unfold cres; rw [if_pos (good_vcode g)]; rfl
theorem cres_bad {p : Int} {ls : List api_Link} (h : ¬ vcode p ls = 0) : cres p ls = ([], vcode p ls) := by
  unfold cres; rw [if_neg h]

theorem cycle_ok (p : Int) (ls : List api_Link) (h : ls.length ≤ maxLen) : depgraph_Cycle.f p ls = some (cres p ls) := by
  unfold depgraph_Cycle.f
  rw [validate_ok p ls h]
  simp only [Option.bind_some]
  by_cases hv : vcode p ls = 0
  · obtain ⟨n, rfl, g⟩ := vcode_good hv
    have hn := g.n128
    rw [if_neg (by simp [hv]), cres_good g, mk_ok (by omega)]
    simp only [Option.bind_some]
    obtain ⟨r1, e1, a1, a2⟩ := cycle_l0 (n := n) hn
    rw [e1, sort_ok g]
    simp only [Option.bind_some]
    obtain ⟨r2, e2, b1, b2⟩ := cycle_l1 hn (ord_le n ls) (ord_run n ls).1.facts.2.1 a1 a2
    rw [e2, mk_ok (by omega)]
    simp only [Option.bind_some]
    obtain ⟨r3, e3, c1, c2⟩ := cycle_l2 (n := n) hn
    rw [e3]
    simp only [Option.bind_some]
    obtain ⟨r4, e4, d1, d2⟩ := cycle_l3 g b1 b2 c1 c2
    rw [e4]
    simp only [Option.bind_some]
    rcases indexB_ok r2 (by rw [maxLen_eq]; omega) with ⟨i, q1, q2, q3⟩ | ⟨q1, q2⟩
    · rw [q1, Option.bind_some]
      have hi := idx_hi q2
      rw [b2 (i : Int) (by omega) (by omega)] at q2
      injection q2 with q2
      have q2' : (i : Int) ∉ ord n ls := by simpa using q2
      rw [if_neg (by simp), cycle_l4 g d2 (by omega) (by omega) q2']
      have hstep : first n ls = (i : Int) := first_of (by omega) (by omega) q2' (fun u u0 u1 => by
        have := q3 u u0 u1
        rw [b2 u u0 (by omega)] at this
        injection this with this
        simpa using this)
      rw [if_pos (Classical.byContradiction fun hno => q2' (ord_full hno (by omega) (by omega)))]
      unfold cyc
      rw [hstep]
    · rw [q1]
      simp only [Option.bind_some]
      rw [if_pos (by decide), if_neg]
      intro hc
      obtain ⟨u, u0, u1, hu⟩ := ord_short g hc
      have h5 := b2 u u0 u1
      obtain ⟨x, hx, hm⟩ := idx_of (xs := r2) u0 (by omega)
      rw [h5] at hx
      injection hx with hx
      have := q2 x hm
      rw [← hx] at this
      simp [hu] at this
  · rw [if_pos (by simpa using hv), cres_bad hv]

theorem refcycle_l3 {n : Nat} {ls : List api_Link} (g : GoodG n ls) {gone : List Bool} {out : List Int} (hs : Says n gone out) (v : Int) : ref24_Cycle.l3 ls (out, gone) v FUEL (n : Int) 0 = some (mn n ls out v) := by
  have hl := g.len
  refine loop_c (L := fun k (s : Int) i => ref24_Cycle.l3 ls (out, gone) v k s i) ls.length (fun i s => s = mn n (ls.take i) out v) (fun o => o = some (mn n ls out v)) ?_ ?_ FUEL 0 _ (Nat.zero_le _) (FUEL_pos (by omega)) rfl
  · rintro k s i hi rfl
    have hsx := g.s0 _ (List.getElem_mem hi)
    rw [ref24_Cycle.l3, if_pos (by simp; omega), idx_get hi]
    simp only [Option.bind_some]
    refine .inl ⟨_, rfl, ?_⟩
    rw [wi_succ (by omega), List.take_succ_eq_append_getElem hi, mn_snoc]
    by_cases e : ls[i].Consumer = v
    · rw [if_pos (by simp [e]), hs.2 _ hsx.1 hsx.2]
      simp only [Option.bind_some]
      by_cases ho : ls[i].Supplier ∈ out
      · rw [if_neg (by simp [ho]), if_neg (fun h => h.2 ho)]; rfl
      · rw [if_pos (c := ls[i].Consumer = v ∧ ls[i].Supplier ∉ out) ⟨e, ho⟩]
        by_cases hlt : ls[i].Supplier < mn n (ls.take i) out v
        · rw [if_pos (by simp [ho, hlt]), Int.min_eq_right (by omega)]; rfl
        · rw [if_neg (by simp [ho]; omega), Int.min_eq_left (by omega)]; rfl
    · rw [if_neg (by simp [e]), if_neg (fun h => e h.1)]; rfl
  · rintro k s rfl
    rw [ref24_Cycle.l3, if_neg (by simp), List.take_length]

theorem refcycle_l1 {n : Nat} {ls : List api_Link} (g : GoodG n ls) {gone : List Bool} (hs : Says n gone (ord n ls)) {p : Int} (h0 : 0 ≤ p) (h1 : p < n) (hp : p ∉ ord n ls) :
    ref24_Cycle.l1 (n : Int) ls (ord n ls, gone) FUEL p [] = some (walkTo (mn n ls (ord n ls)) (n + 1) [] p, 0) := by
  have hn := g.n128
  refine loop_m (L := fun k (s : List Int × Int) => ref24_Cycle.l1 (n : Int) ls (ord n ls, gone) k s.2 s.1) (fun s => WI n (fun v => v ∉ ord n ls) (mn n ls (ord n ls)) s.1 s.2 ∧ walkTo (mn n ls (ord n ls)) (n + 1) [] p = walkTo (mn n ls (ord n ls)) (n + 1 - s.1.length) s.1 s.2) (fun s => n - s.1.length)
    (fun o => o = some (walkTo (mn n ls (ord n ls)) (n + 1) [] p, 0)) ?_ FUEL ([], p) ⟨⟨by simp, by simp, ⟨⟨h0, h1⟩, hp⟩, fun j h => by simp at h, fun h => by simp at h⟩, rfl⟩ (FUEL_pos (by show n - 0 ≤ _; omega))
  rintro k ⟨walk, q⟩ ⟨hi, he⟩
  simp only at hi he ⊢
  have hlen := hi.len
  rw [ref24_Cycle.l1]
  have hw : walkTo (mn n ls (ord n ls)) ((n - walk.length) + 1) walk q = if q ∈ walk then walk.drop (walk.findIdx (fun x => decide (x = q))) else walkTo (mn n ls (ord n ls)) (n - walk.length) (walk ++ [q]) (mn n ls (ord n ls) q) := by rw [walkTo]
  rw [show n + 1 - walk.length = (n - walk.length) + 1 from by omega, hw] at he
  have inner : ref24_Cycle.l2 q walk FUEL 0 = some (if q ∈ walk then .out (.out (walk.drop (walk.findIdx (fun x => decide (x = q))), 0)) else .nxt ()) := by
    rcases search_i (L := ref24_Cycle.l2 q walk) walk (fun x => x == q) (fun i => (.out (walk.drop i.toNat, 0) : Fl ((List Int) × Int) (Int × (List Int)))) (by rw [maxLen_eq]; omega) (fun k i => by
        rw [ref24_Cycle.l2]
        by_cases hb : (i : Int) < (walk.length : Int)
        · rw [if_pos (decide_eq_true hb), if_pos (decide_eq_true hb), idx_get (by omega)]
          simp only [Option.bind_some]
          rw [slc_back (by omega)]
          simp only [Option.bind_some]
          rw [app_ok (by simp; omega)]
          rfl
        · rw [if_neg (by simpa using hb), if_neg (by simpa using hb)]) with ⟨i, hi', h1, h2, h3⟩ | ⟨h1, h2⟩
    · have hv : walk[i] = q := by simpa using h1
      have hstep : walk.findIdx (fun x => decide (x = q)) = i := findIdx_first hi' (by simp [hv]) (fun j hj => by have := h2 j hj; simpa using this)
      rw [h3, hstep, if_pos (by rw [← hv]; exact List.getElem_mem hi')]
      rfl
    · rw [h2, if_neg (fun hm => by have := h1 q hm; simp at this)]
  rw [inner]
  simp only [Option.bind_some]
  by_cases hm : q ∈ walk
  · rw [if_pos hm] at he ⊢
    refine .inr ?_
    rw [he]; rfl
  · rw [if_neg hm] at he ⊢
    simp only [Fl.go]
    rw [app_ok (by simp; omega)]
    simp only [Option.bind_some]
    rw [refcycle_l3 g hs q]
    simp only [Option.bind_some]
    have hi' := hi.step (fun x a b => mn_step g x a b) hm
    have hl' := hi'.len
    rw [List.length_append, List.length_singleton] at hl'
    refine .inl ⟨(walk ++ [q], mn n ls (ord n ls) q), ⟨hi', ?_⟩, by show n - (walk ++ [q]).length < n - walk.length; rw [List.length_append, List.length_singleton]; omega, rfl⟩
    have e3 : n - walk.length = n + 1 - (walk ++ [q]).length := by rw [List.length_append, List.length_singleton]; omega
    rw [he, e3]

theorem refcycle_ok (p : Int) (ls : List api_Link) (h : ls.length ≤ maxLen) : ref24_Cycle.f p ls = some (cres p ls) := by
  unfold ref24_Cycle.f
  rw [basic_ok p ls h]
  simp only [Option.bind_some]
  by_cases hv : vcode p ls = 0
  · obtain ⟨n, rfl, g⟩ := vcode_good hv
    have hn := g.n128
    obtain ⟨gone, e, hs⟩ := remove_ok g
    rw [if_neg (by simp [hv]), cres_good g, e]
    simp only [Option.bind_some]
    have hle := ord_le n ls
    by_cases hc : (ord n ls).length < n
    · rw [if_neg (by simp only [beq_iff_eq]; omega), if_pos hc]
      obtain ⟨u, u0, u1, hu⟩ := ord_short g hc
      have key : ∃ i : Nat, ref24_Cycle.l0 (ord n ls, gone) FUEL 0 = some (i : Int) ∧ (i : Int) < n ∧ (i : Int) ∉ ord n ls ∧ ∀ v : Int, 0 ≤ v → v < i → v ∈ ord n ls := by
        refine loop_m (L := fun k (s : Nat) => ref24_Cycle.l0 (ord n ls, gone) k (s : Int)) (fun s => (s : Int) ≤ u ∧ ∀ v : Int, 0 ≤ v → v < s → v ∈ ord n ls) (fun s => n - s) (fun o => ∃ i : Nat, o = some (i : Int) ∧ (i : Int) < n ∧ (i : Int) ∉ ord n ls ∧ ∀ v : Int, 0 ≤ v → v < i → v ∈ ord n ls) ?_ FUEL 0 ⟨by omega, fun v a b => by omega⟩ (FUEL_pos (by omega))
        rintro k s ⟨i1, i2⟩
        rw [ref24_Cycle.l0, hs.2 (s : Int) (by omega) (by omega)]
        simp only [Option.bind_some]
        by_cases hm : (s : Int) ∈ ord n ls
        · rw [if_pos (by simp [hm])]
          have hne : (s : Int) ≠ u := fun e => hu (e ▸ hm)
          refine .inl ⟨s + 1, ⟨by omega, fun v v0 v1 => ?_⟩, by omega, by rw [wi_succ (by omega)]⟩
          by_cases e : v = s
          · subst e; exact hm
          · exact i2 v v0 (by omega)
        · rw [if_neg (by simp [hm])]
          exact .inr ⟨s, rfl, by omega, hm, i2⟩
      obtain ⟨i, q1, q2, q3, q4⟩ := key
      rw [q1]
      simp only [Option.bind_some]
      rw [refcycle_l1 g hs (by omega) q2 q3]
      unfold cyc
      rw [first_of (by omega) q2 q3 q4]
    · rw [if_pos (by simp only [beq_iff_eq]; omega), if_neg hc]
  · rw [if_pos (by simpa using hv), cres_bad hv]

theorem cyc_res {n : Nat} {ls : List api_Link} (g : GoodG n ls) (hc : (ord n ls).length < n) : CycRes ls (cyc n ls) := by
  obtain ⟨u, u0, u1, hu⟩ := ord_short g hc
  unfold cyc first
  rcases find_below (fun v => decide (v ∉ ord n ls)) n with ⟨h4, h5⟩ | ⟨v, h4, h5, h6, h7, h8⟩
  · have := h4 u u0 u1; simp [hu] at this
  · rw [h8]
    have hv : v ∉ ord n ls := by simpa using h6
    exact walkTo_res (fun x a b => mn_step g x a b) (fun x a b => (mn_link g a.1 a.2 b).1) (n + 1) [] v ⟨by simp, by simp, ⟨⟨h4, h5⟩, hv⟩, fun j h => by simp at h, fun h => by simp at h⟩ (by simp)

theorem walkTo_len (f : Int → Int) : ∀ (k : Nat) (walk : List Int) (p : Int), (walkTo f k walk p).length ≤ k + walk.length
  | 0, walk, p => by simp [walkTo]
  | k + 1, walk, p => by
    rw [walkTo]
    split
    · simp; omega
    · have := walkTo_len f k (walk ++ [p]) (f p)
      simp at this; omega
theorem cres_len (p : Int) (ls : List api_Link) : (cres p ls).1.length ≤ 4294967296 := by
  unfold cres
  split
  · rename_i hv
    obtain ⟨n, rfl, g⟩ := vcode_good hv
    have := g.n128
    split
    · have := walkTo_len (mn n ls (ord n ls)) (n + 1) [] (first n ls)
      unfold cyc
      simp only [Int.toNat_natCast] at *
      simp at this; omega
    · simp
  · simp

end Go.Proofs.Ytphgandhncmaoaa.Sim
