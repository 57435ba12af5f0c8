/-
  Texts of this session, part 6 of 6: the words of the walk, plain functions with the same answers as the Go functions and the proofs of it, plain lemmas. No condition.
  They are, one behind the other: G0 G1 QLaw24Graph G2 G3 G4 S1 S2 S3 S4 S5 QLaw31Durations S6 S7 S9 PuMore.
-/
import Derived.Test.YthmjgadmadlpkaaProg
import Derived.Test.YthmjgadmadlpkaaZResumeMoreWorkersOnIndependentDevices5

namespace Go.Proofs.Ythmjgadmadlpkaa.Sim
open Go
set_option linter.unusedVariables false

/-! ### loops -/

theorem loop_m {σ ρ : Type} {L : Nat → σ → Option ρ} (I : σ → Prop) (μ : σ → Nat) (Q : Option ρ → Prop)
    (step : ∀ k s, I s → (∃ s', I s' ∧ μ s' < μ s ∧ L (k + 1) s = L k s') ∨ Q (L (k + 1) s)) : ∀ (fuel : Nat) (s : σ), I s → μ s < fuel → Q (L fuel s)
  | 0, s, _, h => absurd h (by omega)
  | k + 1, s, hi, h => by
    rcases step k s hi with ⟨s', h1, h2, h3⟩ | h1
    · rw [h3]; exact loop_m I μ Q step k s' h1 (by omega)
    · exact h1

/-- A loop that counts up to n. -/
theorem loop_c {σ ρ : Type} {L : Nat → σ → Int → Option ρ} (n : Nat) (I : Nat → σ → Prop) (Q : Option ρ → Prop)
    (step : ∀ k s i, i < n → I i s → (∃ s', I (i + 1) s' ∧ L (k + 1) s (i : Int) = L k s' ((i + 1 : Nat) : Int)) ∨ Q (L (k + 1) s (i : Int)))
    (fin : ∀ k s, I n s → Q (L (k + 1) s (n : Int))) : ∀ (fuel i : Nat) (s : σ), i ≤ n → n - i < fuel → I i s → Q (L fuel s (i : Int))
  | 0, i, s, _, h, _ => absurd h (by omega)
  | k + 1, i, s, h0, h, hi => by
    rcases Nat.lt_or_ge i n with hl | hl
    · rcases step k s i hl hi with ⟨s', h1, h3⟩ | h1
      · rw [h3]; exact loop_c n I Q step fin k (i + 1) s' hl (by omega) h1
      · exact h1
    · have : i = n := by omega
      subst this
      exact fin k s hi

theorem FUEL_pos {n : Nat} (h : n ≤ 9223372036854775807) : n < FUEL := by unfold FUEL; omega

/-! ### numbers -/

theorem wi_id {x : Int} (h0 : -9223372036854775808 ≤ x) (h1 : x < 9223372036854775808) : wi x = x := by
  unfold wi; simp only [IntKind.wrap, IntKind.bits, IntKind.signed, Bool.true_and]; split <;> rename_i h <;> simp at h <;> omega
theorem wu_eq (x : Int) : wu x = x % 18446744073709551616 := by
  unfold wu; simp only [IntKind.wrap, IntKind.bits, IntKind.signed, Bool.false_and]; rfl
theorem wu_id {x : Int} (h0 : 0 ≤ x) (h1 : x < 18446744073709551616) : wu x = x := by rw [wu_eq]; omega
theorem wu_range (x : Int) : 0 ≤ wu x ∧ wu x < 18446744073709551616 := by rw [wu_eq]; omega
theorem maxLen_eq : maxLen = 9223372036854775807 := rfl
theorem wi_succ {i : Nat} (h : i < 9223372036854775807) : wi ((i : Int) + 1) = ((i + 1 : Nat) : Int) := by rw [wi_id (by omega) (by omega)]; rfl

/-! ### lists -/

theorem idx_get {α : Type} {xs : List α} {i : Nat} (h : i < xs.length) : idx xs (i : Int) = some xs[i] := by
  unfold idx; rw [if_pos (by omega)]; simp [h]
theorem idx_nat {α : Type} {xs : List α} {i : Int} (h0 : 0 ≤ i) : idx xs i = xs[i.toNat]? := by
  unfold idx; rw [if_pos h0]
theorem idx_of {α : Type} {xs : List α} {i : Int} (h0 : 0 ≤ i) (h1 : i < (xs.length : Int)) : ∃ x, idx xs i = some x ∧ x ∈ xs := by
  obtain ⟨n, rfl⟩ := Int.eq_ofNat_of_zero_le h0
  have hn : n < xs.length := by omega
  exact ⟨xs[n], idx_get hn, List.getElem_mem hn⟩
theorem idx_upd {α : Type} {xs : List α} {i j : Int} {x : α} (hi : 0 ≤ i) (hj : 0 ≤ j) (hl : j < (xs.length : Int)) : idx (upd xs i x) j = if i = j then some x else idx xs j := by
  rw [idx_nat hj, idx_nat hj]
  unfold upd
  rw [List.getElem?_set]
  by_cases e : i = j
  · subst e; rw [if_pos rfl, if_pos rfl, if_pos (by omega)]
  · rw [if_neg e, if_neg (by omega)]
theorem idx_upd_some {α : Type} {xs : List α} {i j : Int} {x y : α} (hi : 0 ≤ i) (h : idx xs j = some y) : idx (upd xs i x) j = some (if i = j then x else y) := by
  rw [idx_upd hi (idx_lo h) (idx_hi h)]
  split <;> simp [h]

theorem app_ok {α : Type} {xs ys : List α} (h : xs.length + ys.length ≤ 4294967296) : app xs ys = some (xs ++ ys) := by
  unfold app; rw [if_pos h]
theorem mk_ok {α : Type} {n : Nat} {x : α} (h : n ≤ 4294967296) : mk (n : Int) x = some (List.replicate n x) := by
  unfold mk; rw [if_pos (by omega)]; rfl
theorem idx_replicate {α : Type} {n : Nat} {x : α} {i : Int} (h0 : 0 ≤ i) (h1 : i < (n : Int)) : idx (List.replicate n x) i = some x := by
  rw [idx_nat h0, List.getElem?_replicate, if_pos (by omega)]
theorem slc_front {α : Type} {xs : List α} {h : Nat} (hh : h ≤ xs.length) : slc xs 0 (h : Int) = some (xs.take h) := by
  unfold slc; rw [if_pos (by omega)]; simp
theorem slc_back {α : Type} {xs : List α} {l : Nat} (hl : l ≤ xs.length) : slc xs (l : Int) (xs.length : Int) = some (xs.drop l) := by
  unfold slc; rw [if_pos (by omega)]; simp

/-- A list without repetitions inside another one is not longer. -/
theorem nodup_le {α : Type} [DecidableEq α] : ∀ {l s : List α}, l.Nodup → (∀ x ∈ l, x ∈ s) → l.length ≤ s.length
  | [], _, _, _ => by simp
  | a :: t, s, hn, hs => by
    have ha := hs a (List.mem_cons_self ..)
    rw [List.nodup_cons] at hn
    have := nodup_le (l := t) (s := s.erase a) hn.2 (fun x hx => by
      have : x ≠ a := fun e => hn.1 (e ▸ hx)
      exact (List.mem_erase_of_ne this).2 (hs x (List.mem_cons_of_mem _ hx)))
    rw [List.length_erase_of_mem ha] at this
    have : 0 < s.length := List.length_pos_of_mem ha
    simp only [List.length_cons]; omega

/-- The numbers below n. -/
def below (n : Nat) : List Int := (List.range n).map (fun (i : Nat) => (i : Int))
theorem mem_below {n : Nat} {x : Int} : x ∈ below n ↔ 0 ≤ x ∧ x < n := by
  unfold below
  simp only [List.mem_map, List.mem_range]
  constructor
  · rintro ⟨a, h, rfl⟩; omega
  · rintro ⟨h0, h1⟩; exact ⟨x.toNat, by omega, by omega⟩
theorem below_length (n : Nat) : (below n).length = n := by simp [below]
theorem below_succ (n : Nat) : below (n + 1) = below n ++ [(n : Int)] := by simp [below, List.range_succ]
theorem below_nodup (n : Nat) : (below n).Nodup := by
  induction n with
  | zero => simp [below]
  | succ n ih =>
    rw [below_succ, List.nodup_append]
    refine ⟨ih, by simp, fun a ha b hb => ?_⟩
    have := (mem_below.1 ha).2
    simp only [List.mem_singleton] at hb
    omega

end Go.Proofs.Ythmjgadmadlpkaa.Sim

namespace Go.Proofs.Ythmjgadmadlpkaa.Sim
open Go
set_option linter.unusedVariables false

def hf (q : List Int) (i : Nat) : Int := q.getD i 0
theorem hf_get {q : List Int} {i : Nat} (h : i < q.length) : hf q i = q[i] := by simp [hf, h]
theorem idx_hf {q : List Int} {i : Nat} (h : i < q.length) : idx q (i : Int) = some (hf q i) := by rw [idx_get h, hf_get h]

def sw (q : List Int) (i j : Nat) : List Int := (q.set i (hf q j)).set j (hf q i)
theorem sw_length (q : List Int) (i j : Nat) : (sw q i j).length = q.length := by simp [sw]
theorem hf_sw {q : List Int} {i j : Nat} (hi : i < q.length) (hj : j < q.length) (k : Nat) : hf (sw q i j) k = if k = j then hf q i else if k = i then hf q j else hf q k := by
  unfold sw
  simp only [hf, List.getD_eq_getElem?_getD, List.getElem?_set, List.length_set]
  by_cases e1 : k = j
  · subst e1; simp [hj]
  · rw [if_neg (fun h => e1 h.symm), if_neg e1]
    by_cases e2 : k = i
    · subst e2; simp [hi]
    · rw [if_neg (fun h => e2 h.symm), if_neg e2]
theorem sw_perm {q : List Int} {i j : Nat} (hi : i < q.length) (hj : j < q.length) : (sw q i j).Perm q := by
  unfold sw
  rw [hf_get hi, hf_get hj]
  exact List.set_set_perm hi hj

theorem swap_ok {q : List Int} {i j : Nat} (hi : i < q.length) (hj : j < q.length) : depgraph_queue_Swap.f q (i : Int) (j : Int) = some (sw q i j) := by
  unfold depgraph_queue_Swap.f
  rw [idx_hf hj, idx_hf hi]
  simp only [Option.bind_some]
  have : (upd q (i : Int) (hf q j)).length = q.length := upd_length _ _ _
  rw [idx_get (by omega)]
  rfl
theorem less_ok {q : List Int} {i j : Nat} (hi : i < q.length) (hj : j < q.length) : depgraph_queue_Less.f q (i : Int) (j : Int) = some (decide (hf q i < hf q j)) := by
  unfold depgraph_queue_Less.f
  rw [idx_hf hj, idx_hf hi]
  rfl

/-- A heap on the first n places. -/
def Heap (q : List Int) (n : Nat) : Prop := ∀ k, 0 < k → k < n → hf q ((k - 1) / 2) ≤ hf q k

theorem Heap.min {q : List Int} {n : Nat} (h : Heap q n) : ∀ k, k < n → hf q 0 ≤ hf q k := by
  intro k
  induction k using Nat.strongRecOn with
  | _ k ih =>
    intro hk
    rcases Nat.eq_zero_or_pos k with rfl | h0
    · omega
    · have h1 := ih ((k - 1) / 2) (by omega) (by omega)
      have h2 := h k h0 hk
      omega

structure UpI (q : List Int) (j : Nat) : Prop where
  lt : j < q.length
  a : ∀ k, 0 < k → k < q.length → k ≠ j → hf q ((k - 1) / 2) ≤ hf q k
  b : ∀ k, 0 < k → k < q.length → (k - 1) / 2 = j → 0 < j → hf q ((j - 1) / 2) ≤ hf q k

theorem up_par {j : Nat} (h : j < 4294967296) : wi (Int.tdiv (wi ((j : Int) - 1)) 2) = (((j - 1) / 2 : Nat) : Int) := by
  rw [wi_id (x := (j : Int) - 1) (by omega) (by omega)]
  rcases Nat.eq_zero_or_pos j with rfl | h0
  · rw [show Int.tdiv (((0 : Nat) : Int) - 1) 2 = 0 from by decide]; exact wi_id (by omega) (by omega)
  · rw [Int.tdiv_eq_ediv_of_nonneg (by omega), wi_id (by omega) (by omega)]; omega

theorem up_ok (q : List Int) (j : Nat) (hl : q.length ≤ 4294967296) (h : UpI q j) : ∃ q', heap_up.f ⟨q⟩ (j : Int) = some ⟨q'⟩ ∧ q'.Perm q ∧ Heap q' q'.length := by
  unfold heap_up.f
  show ∃ q', (fun k (s : List Int × Nat) => heap_up.l0 k s.1 (s.2 : Int)) FUEL (q, j) = some ⟨q'⟩ ∧ _
  refine loop_m (L := fun k (s : List Int × Nat) => heap_up.l0 k s.1 (s.2 : Int)) (fun s => UpI s.1 s.2 ∧ s.1.Perm q) (fun s => s.2) (fun o => ∃ q', o = some ⟨q'⟩ ∧ q'.Perm q ∧ Heap q' q'.length) ?_ FUEL (q, j) ⟨h, List.Perm.refl _⟩ (FUEL_pos (by have := h.lt; show j ≤ _; omega))
  rintro k ⟨q1, j⟩ ⟨hi, hp⟩
  simp only at hi hp ⊢
  have hlen := hp.length_eq
  have hjl := hi.lt
  rw [heap_up.l0, up_par (by omega)]
  by_cases e : (j - 1) / 2 = j
  · have hj0 : j = 0 := by omega
    subst hj0
    refine .inr ⟨q1, by simp, hp, fun k h0 h1 => hi.a k h0 h1 (by omega)⟩
  · have hj0 : 0 < j := by omega
    rw [if_neg (by simp; omega), less_ok (by omega) (by omega)]
    simp only [Option.bind_some]
    by_cases hc : hf q1 j < hf q1 ((j - 1) / 2)
    · refine .inl ⟨(sw q1 ((j - 1) / 2) j, (j - 1) / 2), ⟨?_, (sw_perm (by omega) (by omega)).trans hp⟩, by show (j - 1) / 2 < j; omega, ?_⟩
      · have hs := fun k => hf_sw (q := q1) (i := (j - 1) / 2) (j := j) (by omega) (by omega) k
        refine ⟨by rw [sw_length]; omega, fun k h0 h1 hk => ?_, fun k h0 h1 hk hp0 => ?_⟩
        · rw [sw_length] at h1
          simp only at hk
          rw [hs, hs]
          by_cases e1 : k = j
          · subst e1
            rw [if_neg (by omega), if_pos rfl, if_pos rfl]; omega
          · rw [if_neg e1, if_neg hk]
            by_cases e2 : (k - 1) / 2 = j
            · rw [if_pos e2]; exact hi.b k h0 h1 e2 hj0
            · rw [if_neg e2]
              by_cases e3 : (k - 1) / 2 = (j - 1) / 2
              · rw [if_pos e3]
                have := hi.a k h0 h1 e1
                rw [e3] at this; omega
              · rw [if_neg e3]; exact hi.a k h0 h1 e1
        · rw [sw_length] at h1
          simp only at hk hp0 ⊢
          rw [hs, hs, if_neg (by omega), if_neg (by omega)]
          have hpar := hi.a ((j - 1) / 2) hp0 (by omega) (by omega)
          by_cases e1 : k = j
          · rw [if_pos e1]; exact hpar
          · rw [if_neg e1, if_neg (by omega)]
            have := hi.a k h0 h1 e1
            rw [hk] at this; omega
      · rw [decide_eq_true hc]
        simp only [Bool.not_true, Bool.false_eq_true, if_false]
        rw [swap_ok (by omega) (by omega)]
        rfl
    · refine .inr ⟨q1, ?_, hp, fun k h0 h1 => ?_⟩
      · rw [decide_eq_false hc]; simp
      · by_cases e1 : k = j
        · subst e1; omega
        · exact hi.a k h0 h1 e1

theorem push_ok (q : List Int) (x : Int) (hl : q.length < 4294967296) (h : Heap q q.length) : ∃ q', heap_Push.f ⟨q⟩ x = some ⟨q'⟩ ∧ q'.Perm (x :: q) ∧ Heap q' q'.length := by
  unfold heap_Push.f depgraph_queue_Push.f depgraph_queue_Len.f
  rw [app_ok (by simp; omega)]
  simp only [Option.bind_some]
  have hlen : (q ++ [x]).length = q.length + 1 := by simp
  have e : wi (((q ++ [x]).length : Int) - 1) = ((q.length : Nat) : Int) := by rw [hlen, wi_id (by omega) (by omega)]; omega
  rw [e]
  have hh : ∀ k, k < q.length → hf (q ++ [x]) k = hf q k := by
    intro k hk; rw [hf_get hk, hf_get (by omega)]; simp [hk]
  obtain ⟨q', h1, h2, h3⟩ := up_ok (q ++ [x]) q.length (by omega) ⟨by omega, fun k h0 h1 hk => by
    rw [hh k (by omega), hh _ (by omega)]; exact h k h0 (by omega), fun k h0 h1 hk _ => by omega⟩
  rw [h1]
  exact ⟨q', rfl, h2.trans (List.perm_append_singleton x q), h3⟩

structure DownI (q : List Int) (n i : Nat) : Prop where
  le : n ≤ q.length
  a : ∀ k, 0 < k → k < n → (k - 1) / 2 ≠ i → hf q ((k - 1) / 2) ≤ hf q k
  b : ∀ k, 0 < k → k < n → (k - 1) / 2 = i → 0 < i → hf q ((i - 1) / 2) ≤ hf q k

theorem down_ok (q : List Int) (n : Nat) (hl : q.length ≤ 4294967296) (h : DownI q n 0) : ∃ q' i, heap_down.l0 (n : Int) FUEL q 0 = some (i, q') ∧ q'.Perm q ∧ Heap q' n ∧ ∀ k, n ≤ k → hf q' k = hf q k := by
  show ∃ q' i, (fun k (s : List Int × Nat) => heap_down.l0 (n : Int) k s.1 (s.2 : Int)) FUEL (q, 0) = some (i, q') ∧ _
  refine loop_m (L := fun k (s : List Int × Nat) => heap_down.l0 (n : Int) k s.1 (s.2 : Int)) (fun s => DownI s.1 n s.2 ∧ s.1.Perm q ∧ (s.2 < n ∨ s.2 = 0) ∧ ∀ k, n ≤ k → hf s.1 k = hf q k) (fun s => n - s.2)
    (fun o => ∃ q' i, o = some (i, q') ∧ q'.Perm q ∧ Heap q' n ∧ ∀ k, n ≤ k → hf q' k = hf q k) ?_ FUEL (q, 0) ⟨h, List.Perm.refl _, .inr rfl, fun _ _ => rfl⟩ (FUEL_pos (by have := h.le; show n - 0 ≤ _; omega))
  rintro k ⟨q1, i⟩ ⟨hi, hp, hin, hk⟩
  simp only at hi hp hin hk ⊢
  have hlen := hp.length_eq
  have hle := hi.le
  rw [heap_down.l0]
  have e1 : wi (2 * (i : Int)) = ((2 * i : Nat) : Int) := by rw [wi_id (by omega) (by omega)]; omega
  have e2 : wi (((2 * i : Nat) : Int) + 1) = ((2 * i + 1 : Nat) : Int) := wi_succ (by omega)
  have e3 : wi (((2 * i + 1 : Nat) : Int) + 1) = ((2 * i + 2 : Nat) : Int) := wi_succ (by omega)
  rw [e1, e2, e3]
  by_cases hc : n ≤ 2 * i + 1
  · rw [if_pos (by simp; omega)]
    refine .inr ⟨q1, _, rfl, hp, fun k h0 h1 => ?_, hk⟩
    exact hi.a k h0 h1 (by omega)
  · rw [if_neg (by simp; omega)]
    -- the smaller child
    have hj : ∃ j, (j = 2 * i + 1 ∨ j = 2 * i + 2) ∧ j < n ∧ (∀ k, 0 < k → k < n → (k - 1) / 2 = i → hf q1 j ≤ hf q1 k) ∧
        ((if decide (((2 * i + 2 : Nat) : Int) < (n : Int)) = true then (depgraph_queue_Less.f q1 ((2 * i + 2 : Nat) : Int) ((2 * i + 1 : Nat) : Int)).bind fun r46 => some r46 else some false).bind fun t50 => if t50 = true then (some ((2 * i + 2 : Nat) : Int)) else (some ((2 * i + 1 : Nat) : Int)) : Option Int) = some (j : Int) := by
      by_cases h2 : 2 * i + 2 < n
      · rw [if_pos (by simp; omega), less_ok (by omega) (by omega)]
        simp only [Option.bind_some]
        by_cases h3 : hf q1 (2 * i + 2) < hf q1 (2 * i + 1)
        · refine ⟨2 * i + 2, .inr rfl, h2, fun k h0 h1 hk => ?_, by rw [decide_eq_true h3]; rfl⟩
          have : k = 2 * i + 1 ∨ k = 2 * i + 2 := by omega
          rcases this with rfl | rfl <;> omega
        · refine ⟨2 * i + 1, .inl rfl, by omega, fun k h0 h1 hk => ?_, by rw [decide_eq_false h3]; rfl⟩
          have : k = 2 * i + 1 ∨ k = 2 * i + 2 := by omega
          rcases this with rfl | rfl <;> omega
      · rw [if_neg (by simp; omega)]
        refine ⟨2 * i + 1, .inl rfl, by omega, fun k h0 h1 hk => ?_, rfl⟩
        have : k = 2 * i + 1 := by omega
        subst this; omega
    obtain ⟨j, hj1, hj2, hj3, hj4⟩ := hj
    rw [hj4]
    simp only [Option.bind_some]
    rw [less_ok (by omega) (by omega)]
    simp only [Option.bind_some]
    by_cases h5 : hf q1 j < hf q1 i
    · refine .inl ⟨(sw q1 i j, j), ⟨?_, (sw_perm (by omega) (by omega)).trans hp, .inl hj2, fun k hk' => ?_⟩, by show n - j < n - i; omega, ?_⟩
      · have hs := fun k => hf_sw (q := q1) (i := i) (j := j) (by omega) (by omega) k
        refine ⟨by rw [sw_length]; exact hle, fun k h0 h1 hk' => ?_, fun k h0 h1 hk' _ => ?_⟩
        · simp only at hk'
          rw [hs, hs, if_neg hk']
          by_cases e4 : (k - 1) / 2 = i
          · rw [if_pos e4]
            by_cases e5 : k = j
            · rw [if_pos e5]; omega
            · rw [if_neg e5, if_neg (by omega)]; exact hj3 k h0 h1 e4
          · rw [if_neg e4]
            by_cases e5 : k = j
            · omega
            · rw [if_neg e5]
              by_cases e6 : k = i
              · rw [if_pos e6]; subst e6
                exact hi.b j (by omega) hj2 (by omega) h0
              · rw [if_neg e6]; exact hi.a k h0 h1 e4
        · simp only at hk' ⊢
          rw [hs, hs, if_neg (by omega), if_pos (by omega), if_neg (by omega), if_neg (by omega)]
          have := hi.a k h0 h1 (by omega)
          rw [hk'] at this; exact this
      · simp only
        rw [hf_sw (by omega) (by omega), if_neg (by omega), if_neg (by omega)]; exact hk k hk'
      · rw [decide_eq_true h5]
        simp only [Bool.not_true, Bool.false_eq_true, if_false]
        rw [swap_ok (by omega) (by omega)]
        rfl
    · rw [decide_eq_false h5]
      refine .inr ⟨q1, _, rfl, hp, fun k h0 h1 => ?_, hk⟩
      by_cases e4 : (k - 1) / 2 = i
      · rw [e4]; have := hj3 k h0 h1 e4; omega
      · exact hi.a k h0 h1 e4

theorem pop_ok (q : List Int) (hl : q.length ≤ 4294967296) (h0 : 0 < q.length) (h : Heap q q.length) : ∃ q' x, heap_Pop.f ⟨q⟩ = some (⟨q'⟩, x) ∧ (x :: q').Perm q ∧ Heap q' q'.length ∧ ∀ y ∈ q, x ≤ y := by
  unfold heap_Pop.f depgraph_queue_Len.f heap_down.f depgraph_queue_Pop.f
  simp only [Option.bind_some]
  obtain ⟨n, hn⟩ : ∃ n, q.length = n + 1 := ⟨q.length - 1, by omega⟩
  have e : wi ((q.length : Int) - 1) = ((n : Nat) : Int) := by rw [wi_id (by omega) (by omega)]; omega
  rw [e, show (0 : Int) = ((0 : Nat) : Int) from rfl, swap_ok (by omega) (by omega)]
  simp only [Option.bind_some]
  have hs := fun k => hf_sw (q := q) (i := 0) (j := n) (by omega) (by omega) k
  obtain ⟨q', i, h1, h2, h3, h4⟩ := down_ok (sw q 0 n) n (by rw [sw_length]; exact hl) ⟨by rw [sw_length]; omega, fun k k0 k1 hk => by
    rw [hs, hs, if_neg (by omega), if_neg hk, if_neg (by omega), if_neg (by omega)]; exact h k k0 (by omega), fun k _ _ _ hh => by omega⟩
  have hlen : q'.length = n + 1 := by rw [h2.length_eq, sw_length]; exact hn
  simp only [Int.natCast_zero] at h1 ⊢
  rw [h1]
  simp only [Option.bind_some]
  have e2 : wi ((q'.length : Int) - 1) = ((n : Nat) : Int) := by rw [hlen, wi_id (by omega) (by omega)]; omega
  rw [e2, idx_hf (by omega)]
  have := slc_front (xs := q') (h := n) (by omega)
  rw [this]
  simp only [Option.bind_some]
  have hx : hf q' n = hf q 0 := by rw [h4 n (Nat.le_refl _), hs, if_pos rfl]
  have hdec : q' = q'.take n ++ [hf q' n] := by
    rw [hf_get (by omega)]
    have := List.take_append_drop n q'
    rw [List.drop_eq_getElem_cons (by omega), List.drop_of_length_le (by omega)] at this
    exact this.symm
  refine ⟨_, _, rfl, ?_, ?_, ?_⟩
  · have hp := h2.trans (sw_perm (q := q) (i := 0) (j := n) (by omega) (by omega))
    refine (List.perm_append_singleton _ _).symm.trans ?_
    rw [← hdec]; exact hp
  · intro k k0 k1
    rw [List.length_take, Nat.min_eq_left (by omega)] at k1
    have hh : ∀ k, k < n → hf (q'.take n) k = hf q' k := by
      intro k hk; rw [hf_get (by rw [List.length_take]; omega), hf_get (by omega)]; simp
    rw [hh _ (by omega), hh _ k1]
    exact h3 k k0 k1
  · intro y hy
    rw [hx]
    obtain ⟨k, hk, rfl⟩ := List.getElem_of_mem hy
    rw [← hf_get hk]
    exact h.min k hk

end Go.Proofs.Ythmjgadmadlpkaa.Sim

namespace Go.Proofs.Ythmjgadmadlpkaa.Sim
open Go
set_option linter.unusedVariables false
set_option linter.unusedSimpArgs false

/-! ### law24_Graph: function 15 -/
def law24_Graph.l1 (m0_0 : List api_Link) (v83 : Int × Int) : Nat → Bool → Int → Option (Bool)
  | 0, _, _ => none
  | k125 + 1, m1_0, m1_1 => if decide (m1_1 < (m0_0.length : Int)) = true then ((if m1_0 = true then (idx m0_0 m1_1).bind fun x137 => some (!decide (x137 = (api_Link.mk v83.1 v83.2))) else some false).bind fun t143 => law24_Graph.l1 m0_0 v83 k125 t143 (wi (m1_1 + 1))) else (some m1_0)
def law24_Graph.l0 (p1 : List api_Link) (p2 : Bool) (r4 : Int) (r16 : Int) : Nat → (List api_Link) → Int → Option ((List api_Link))
  | 0, _, _ => none
  | k34 + 1, m0_0, m0_1 => if ((decide (m0_1 < (p1.length : Int))) && (decide (m0_1 < 40))) = true then (((idx p1 m0_1).bind fun x58 => (help_Mod.f x58.Consumer r4).bind fun r60 => (help_Mod.f x58.Supplier r4).bind fun r62 => (if p2 = true then (if (r60 == r62) = true then (some (.out m0_0)) else (if decide ((Int.tmod (wi ((wi (7 * r60)) + r16)) 13) < (Int.tmod (wi ((wi (7 * r62)) + r16)) 13)) = true then (some (.nxt (r62, r60))) else (some (.nxt (r60, r62))))) else (some (.nxt (r60, r62))) : Option (Fl ((List api_Link)) (Int × Int))).bind fun o84 => o84.go fun v83 => (law24_Graph.l1 m0_0 v83 FUEL true 0 : Option (Bool)).bind fun v120 => if v120 = true then ((app m0_0 [(api_Link.mk v83.1 v83.2)]).bind fun y177 => some y177) else (some m0_0) : Option ((List api_Link))).bind fun v55 => law24_Graph.l0 p1 p2 r4 r16 k34 v55 (wi (m0_1 + 1))) else (some m0_0)
def law24_Graph.f (p0 : Int) (p1 : List api_Link) (p2 : Bool) : Option (Int × (List api_Link)) := (help_Mod.f p0 14).bind fun r4 => if decide (r4 < 2) = true then (some (r4, [])) else ((help_Mod.f p0 13).bind fun r16 => (law24_Graph.l0 p1 p2 r4 r16 FUEL [] 0 : Option ((List api_Link))).bind fun v26 => some (r4, v26))
set_option maxRecDepth 100000 in
set_option maxHeartbeats 4000000 in
theorem law24_Graph.calls {p0 : Int} {p1 : List api_Link} {A1 : Option Addr} {cap1 : Nat} {C1 : Nat → Prop} {p2 : Bool} {w : World} {g : Nat → Nat} {out : Int × (List api_Link)} (N : Nat) (r1 : Nat) (hp1 : RdS kd_api_Link w g C1 A1 cap1 p1) (hC1 : ∀ c, C1 c → c < N) (hr1 : r1 + 2 ≤ N) (H : law24_Graph.f p0 p1 p2 = some out) :
    Calls Try.prog 15 #[.int .i64 p0, .slice A1 p1.length cap1, .bool p2] w (fun e w' => ∃ v, e = .returned v ∧ ∃ (g' : Nat → Nat) (A_r1 : Option Addr) (cap_r1 : Nat), v = .tuple #[.int .i64 out.1, .slice A_r1 out.2.length cap_r1] ∧ OwS kd_api_Link 43 w' g' r1 A_r1 cap_r1 out.2 ∧ Fr (fun q => (r1 ≤ q ∧ q < r1 + 2) ∨ N ≤ q) w g w' g') := by
  unfold law24_Graph.f at H
  refine calls_enter Try.func15 rfl Try.ntmps15 rfl (fun a hS => ?_)
  replace hS : Sl 90 a [(0, .int .i64 p0), (1, .slice A1 p1.length cap1), (2, .bool p2)] := hS
  have hF : Fr (fun q => (r1 ≤ q ∧ q < r1 + 2) ∨ N ≤ q) w g w g := Fr.refl _ _ _
  refine c_pure [(0, .int .i64 p0), (1, .slice A1 p1.length cap1), (2, .bool p2)] (fun R hR => st_val hS rfl rfl rfl (r_assign hS rfl rfl) fun a1 hS1 => st_val hS1 rfl rfl rfl (r_assign hS1 rfl rfl) fun a2 hS2 => wpList_nil (hR _ (hS2.re ⟨rfl, rfl, rfl, trivial⟩))) ?_
  clear hS
  clear a
  intro a hS
  obtain ⟨r4, hr5, H⟩ := bind_el H
  refine c_region (fun K hK => ?_)
  refine st_val hS rfl rfl rfl (r_move hS rfl rfl) fun a3 hS3 => ?_
  refine st_enter hS3 rfl rfl rfl (r_call hS3 rfl rfl (by kernel_rfl)) (help_Mod.calls (p0 := p0) (p1 := 14) (g := g) (N + 8)   hr5) ?_
  rintro _ a6 w7 ⟨g7, rfl, F7⟩ hS6
  replace hp1 := RdS.fr hp1 F7 (by decide) (fun q (hq : C1 q) (hm : N + 8 ≤ q) => by have := hC1 q hq; omega)
  replace hF := hF.trans F7 (fun c' (hm : N + 8 ≤ c') => by show (r1 ≤ c' ∧ c' < r1 + 2) ∨ N ≤ c'; omega)
  refine st_val hS6 rfl rfl rfl (r_assign hS6 rfl rfl) fun a8 hS8 => wpList_nil (hK _ _ ?_)
  replace hS : Sl 90 _ [(0, .int .i64 p0), (1, .slice A1 p1.length cap1), (2, .bool p2), (8, .int .i64 r4)] := hS8.re ⟨rfl, rfl, rfl, rfl, trivial⟩
  clear hK K
  try clear hS3 hS6 hS8
  obtain ⟨a, ha⟩ : ∃ a', a' = a8 := ⟨_, rfl⟩
  rw [← ha] at hS ⊢; clear ha
  refine wp_seq ?_
  refine c_pure [(0, .int .i64 p0), (1, .slice A1 p1.length cap1), (2, .bool p2), (8, .int .i64 r4), (20, .bool (decide (r4 < 2)))] (fun R hR => st_val hS rfl rfl rfl (r_move hS rfl rfl) fun a9 hS9 => st_val hS9 rfl rfl rfl (r_bin hS9 rfl rfl rfl b_lss) fun a10 hS10 => wpList_nil (hR _ (hS10.re ⟨rfl, rfl, rfl, rfl, rfl, trivial⟩))) ?_
  clear hS
  clear a
  intro a hS
  refine c_cond hS rfl (fun hb11 => ?_) (fun hb11 => ?_)
  · replace H := ite_t hb11 H
    refine c_pure [(6, .int .i64 r4), (7, .slice none 0 0)] (fun R hR => st_val hS rfl rfl rfl (r_move hS rfl rfl) fun a12 hS12 => st_val hS12 rfl rfl rfl (r_assign hS12 rfl rfl) fun a13 hS13 => st_val hS13 rfl rfl rfl (r_assign hS13 rfl rfl) fun a14 hS14 => wpList_nil (hR _ (hS14.re ⟨rfl, rfl, trivial⟩))) ?_
    clear hS
    clear a
    intro a hS
    refine wp_ret ?_
    have e := Option.some.inj H
    subst e
    repeat (with_reducible first | refine then_ret ?_ | refine inBlock_ret ?_)
    exact c_ret2 hS Try.results15 rfl rfl ⟨_, rfl, g7, none, 0, rfl, OwS.nil kd_api_Link 43 w7 g7 r1, hF⟩
  · replace H := ite_f hb11 H
    refine wp_skip ?_
    change Code.wp _ _ _ _ _
    obtain ⟨r16, hr17, H⟩ := bind_el H
    refine c_region (fun K hK => ?_)
    refine st_val hS rfl rfl rfl (r_move hS rfl rfl) fun a15 hS15 => ?_
    refine st_enter hS15 rfl rfl rfl (r_call hS15 rfl rfl (by kernel_rfl)) (help_Mod.calls (p0 := p0) (p1 := 13) (g := g7) (N + 8)   hr17) ?_
    rintro _ a18 w19 ⟨g19, rfl, F19⟩ hS18
    replace hp1 := RdS.fr hp1 F19 (by decide) (fun q (hq : C1 q) (hm : N + 8 ≤ q) => by have := hC1 q hq; omega)
    replace hF := hF.trans F19 (fun c' (hm : N + 8 ≤ c') => by show (r1 ≤ c' ∧ c' < r1 + 2) ∨ N ≤ c'; omega)
    refine st_val hS18 rfl rfl rfl (r_assign hS18 rfl rfl) fun a20 hS20 => wpList_nil (hK _ _ ?_)
    replace hS : Sl 90 _ [(1, .slice A1 p1.length cap1), (2, .bool p2), (8, .int .i64 r4), (9, .int .i64 r16)] := hS20.re ⟨rfl, rfl, rfl, rfl, trivial⟩
    clear hK K
    try clear hS15 hS18 hS20
    obtain ⟨a, ha⟩ : ∃ a', a' = a20 := ⟨_, rfl⟩
    rw [← ha] at hS ⊢; clear ha
    refine c_pure [(1, .slice A1 p1.length cap1), (2, .bool p2), (8, .int .i64 r4), (9, .int .i64 r16), (10, .slice none 0 0)] (fun R hR => st_val hS rfl rfl rfl (r_assign hS rfl rfl) fun a21 hS21 => wpList_nil (hR _ (hS21.re ⟨rfl, rfl, rfl, rfl, rfl, trivial⟩))) ?_
    clear hS
    clear a
    intro a hS
    obtain ⟨v26, H, Hl28⟩ := bind_el H
    refine c_cut (fun a w22 => ∃ (g22 : Nat → Nat), ∃ (A23 : Option Addr), ∃ (cap24 : Nat), Sl 90 a [(8, .int .i64 r4), (10, .slice A23 v26.length cap24)] ∧ OwS kd_api_Link 43 w22 g22 (N + 6) A23 cap24 v26 ∧ Fr (fun q => (r1 ≤ q ∧ q < r1 + 2) ∨ N ≤ q) w g w22 g22) ?_ ?_
    · refine c_pure [(1, .slice A1 p1.length cap1), (2, .bool p2), (8, .int .i64 r4), (9, .int .i64 r16), (10, .slice none 0 0), (11, .int .i64 0)] (fun R hR => st_val hS rfl rfl rfl (r_assign hS rfl rfl) fun a29 hS29 => wpList_nil (hR _ (hS29.re ⟨rfl, rfl, rfl, rfl, rfl, rfl, trivial⟩))) ?_
      clear hS
      clear a
      intro a hS
      refine wp_block ?_
      refine wp_loop_ghost (fun kq => fun a w30 => ∃ (m0_0 : List api_Link), ∃ (m0_1 : Int), ∃ (g30 : Nat → Nat), ∃ (A31 : Option Addr), ∃ (cap32 : Nat), law24_Graph.l0 p1 p2 r4 r16 kq m0_0 m0_1 = some v26 ∧ Sl 90 a [(1, .slice A1 p1.length cap1), (2, .bool p2), (8, .int .i64 r4), (9, .int .i64 r16), (10, .slice A31 m0_0.length cap32), (11, .int .i64 m0_1)] ∧ OwS kd_api_Link 43 w30 g30 (N + 6) A31 cap32 m0_0 ∧ RdS kd_api_Link w30 g30 C1 A1 cap1 p1 ∧ Fr (fun q => (r1 ≤ q ∧ q < r1 + 2) ∨ N ≤ q) w g w30 g30) FUEL ?_ ?_
      · exact ⟨[], 0, g19, none, 0, H, hS.re ⟨rfl, rfl, rfl, rfl, rfl, rfl, trivial⟩, OwS.nil kd_api_Link 43 w19 g19 (N + 6), hp1, hF⟩
      · clear H
        clear hp1 hF
        clear hS
        rintro k34 a w30 ⟨m0_0, m0_1, g30, A31, cap32, hpre0, hS, h33, hp1, hF⟩
        have H := hpre0
        clear hpre0
        cases k34 with
        | zero => exact absurd H (by simp [law24_Graph.l0])
        | succ k34 =>
          rw [law24_Graph.l0] at H
          refine wp_seq ?_
          refine c_region (fun K hK => ?_)
          refine st_val hS rfl rfl rfl (r_move hS rfl rfl) fun a35 hS35 => st_val hS35 rfl rfl rfl (r_move hS35 rfl rfl) fun a36 hS36 => st_val hS36 rfl rfl rfl (r_len (e := 43) (sz := 2) (by_ := 16) hS36 rfl rfl (by kernel_rfl)) fun a37 hS37 => st_val hS37 rfl rfl rfl (r_bin hS37 rfl rfl rfl b_lss) fun a38 hS38 => st_val hS38 rfl rfl rfl (r_move hS38 rfl rfl) fun a39 hS39 => ?_
          refine g_join (N := 90) 3 [(1, .slice A1 p1.length cap1), (2, .bool p2), (8, .int .i64 r4), (9, .int .i64 r16), (10, .slice A31 m0_0.length cap32), (11, .int .i64 m0_1), (31, .bool ((decide (m0_1 < (p1.length : Int))) && (decide (m0_1 < 40))))] ?_ (fun hk => ?_)
          rotate_left
          · rcases Bool.eq_false_or_eq_true (decide (m0_1 < (p1.length : Int))) with hb40 | hb40
            · refine st_valW hS39 (want_on hS39 rfl rfl rfl hb40) rfl rfl (r_move hS39 rfl rfl) fun a43 hS43 => st_valW hS43 (want_on hS43 rfl rfl rfl hb40) rfl rfl (r_bin hS43 rfl rfl rfl b_lss) fun a44 hS44 => st_val hS44 rfl rfl rfl (r_pickT hS44 rfl rfl rfl hb40) fun a45 hS45 => hk _ (hS45.re ⟨rfl, rfl, rfl, rfl, rfl, rfl, (by rw [hb40]; rfl), trivial⟩)
            · refine st_off hS39 (want_off hS39 rfl rfl rfl hb40) rfl rfl fun a46 hS46 => st_off hS46 (want_off hS46 rfl rfl rfl hb40) rfl rfl fun a47 hS47 => st_val hS47 rfl rfl rfl (r_pickF hS47 rfl rfl rfl hb40) fun a48 hS48 => hk _ (hS48.re ⟨rfl, rfl, rfl, rfl, rfl, rfl, (by rw [hb40]; rfl), trivial⟩)
          intro a49 hS49
          refine wpList_nil (hK _ _ ?_)
          replace hS : Sl 90 _ [(1, .slice A1 p1.length cap1), (2, .bool p2), (8, .int .i64 r4), (9, .int .i64 r16), (10, .slice A31 m0_0.length cap32), (11, .int .i64 m0_1), (31, .bool ((decide (m0_1 < (p1.length : Int))) && (decide (m0_1 < 40))))] := hS49.re ⟨rfl, rfl, rfl, rfl, rfl, rfl, rfl, trivial⟩
          clear hK K
          try clear hS35 hS36 hS37 hS38 hS39 hS49
          obtain ⟨a, ha⟩ : ∃ a', a' = a49 := ⟨_, rfl⟩
          rw [← ha] at hS ⊢; clear ha
          refine c_cond hS rfl (fun hb50 => ?_) (fun hb50 => ?_)
          · replace H := ite_t hb50 H
            refine wp_skip ?_
            change Code.wp _ _ _ _ _
            obtain ⟨v55, H, Hl57⟩ := bind_el H
            refine c_cut (fun a w51 => ∃ (g51 : Nat → Nat), ∃ (A52 : Option Addr), ∃ (cap53 : Nat), Sl 90 a [(1, .slice A1 p1.length cap1), (2, .bool p2), (8, .int .i64 r4), (9, .int .i64 r16), (10, .slice A52 v55.length cap53), (11, .int .i64 m0_1)] ∧ OwS kd_api_Link 43 w51 g51 (N + 6) A52 cap53 v55 ∧ RdS kd_api_Link w51 g51 C1 A1 cap1 p1 ∧ Fr (fun q => (r1 ≤ q ∧ q < r1 + 2) ∨ N ≤ q) w g w51 g51) ?_ ?_
            · refine wp_block ?_
              obtain ⟨x58, hx59, H⟩ := bind_el H
              obtain ⟨r60, hr61, H⟩ := bind_el H
              obtain ⟨r62, hr63, H⟩ := bind_el H
              refine c_draw (fun K hK => d_start (fun q => N + 8 ≤ q) g30 [] 16 #[false, false, false, false, false, false, false, false, false, false, false, false, false, false, false, false] (by kernel_rfl) rfl rfl (fun w64 hw64 => ?_))
              have F64 : Fr (fun _ => False) w30 g30 w64 g30 := by rw [hw64]; exact Fr.drew _ _ _
              replace h33 := OwS.fr h33 F64 (fun _ _ h => h)
              replace hp1 := RdS.fr hp1 F64 (by decide) (fun _ _ h => h)
              replace hF := hF.trans F64 (fun _ h => h.elim)
              have hC : Fr (fun q => N + 8 ≤ q) w64 g30 w64 g30 := Fr.refl _ _ _
              refine d_pure hS 0 #[true, false, false, false, false, false, false, false, false, false, false, false, false, false, false, false] rfl rfl rfl rfl (by kernel_rfl) (fun _ _ _ h => h) (fun _ => (r_move hS rfl rfl)) fun a65 hS65 => d_pure hS65 1 #[true, true, false, false, false, false, false, false, false, false, false, false, false, false, false, false] rfl rfl rfl rfl (by kernel_rfl) (fun _ _ _ h => h) (fun _ => (r_move hS65 rfl rfl)) fun a66 hS66 => d_pure hS66 2 #[true, true, true, false, false, false, false, false, false, false, false, false, false, false, false, false] rfl rfl rfl rfl (by kernel_rfl) (fun _ _ _ h => h) (fun _ => (r_index (e := 43) (sz := 2) (by_ := 16) hS66 rfl rfl rfl (by kernel_rfl) (RdS.some_ hp1 hx59) (idx_lo hx59) (idx_hi hx59))) fun a67 hS67 => d_pure hS67 3 #[true, true, true, true, false, false, false, false, false, false, false, false, false, false, false, false] rfl rfl rfl rfl (by kernel_rfl) (fun _ _ _ h => h) (fun _ => (r_fieldE (off := 0) hS67 rfl rfl (by kernel_rfl))) fun a68 hS68 => d_take hS68 4 #[true, true, true, true, true, false, false, false, false, false, false, false, false, false, false, false] rfl rfl rfl rfl (by kernel_rfl) (fun _ _ _ h => h) ⟨_, hC⟩ (fun w' g' Fz => (r_load1 (n := 1) hS68 rfl rfl (by kernel_rfl) (RdS.cell (i := m0_1) (sz := 2) (j := 0) (RdS.fr hp1 Fz (by decide) (fun q (hq : C1 q) (hm : N + 8 ≤ q) => by have := hC1 q hq; omega)) hx59 rfl))) fun a69 hS69 => d_pure hS69 5 #[true, true, true, true, true, true, false, false, false, false, false, false, false, false, false, false] rfl rfl rfl rfl (by kernel_rfl) (fun _ _ _ h => h) (fun _ => (r_move hS69 rfl rfl)) fun a70 hS70 => d_pure hS70 7 #[true, true, true, true, true, true, false, true, false, false, false, false, false, false, false, false] rfl rfl rfl rfl (by kernel_rfl) (fun _ _ _ h => h) (fun _ => (r_move hS70 rfl rfl)) fun a71 hS71 => d_pure hS71 8 #[true, true, true, true, true, true, false, true, true, false, false, false, false, false, false, false] rfl rfl rfl rfl (by kernel_rfl) (fun _ _ _ h => h) (fun _ => (r_move hS71 rfl rfl)) fun a72 hS72 => d_pure hS72 9 #[true, true, true, true, true, true, false, true, true, true, false, false, false, false, false, false] rfl rfl rfl rfl (by kernel_rfl) (fun _ _ _ h => h) (fun _ => (r_index (e := 43) (sz := 2) (by_ := 16) hS72 rfl rfl rfl (by kernel_rfl) (RdS.some_ hp1 hx59) (idx_lo hx59) (idx_hi hx59))) fun a73 hS73 => d_pure hS73 10 #[true, true, true, true, true, true, false, true, true, true, true, false, false, false, false, false] rfl rfl rfl rfl (by kernel_rfl) (fun _ _ _ h => h) (fun _ => (r_fieldE (off := 1) hS73 rfl rfl (by kernel_rfl))) fun a74 hS74 => d_take hS74 11 #[true, true, true, true, true, true, false, true, true, true, true, true, false, false, false, false] rfl rfl rfl rfl (by kernel_rfl) (fun _ _ _ h => h) ⟨_, hC⟩ (fun w' g' Fz => (r_load1 (n := 1) hS74 rfl rfl (by kernel_rfl) (RdS.cell (i := m0_1) (sz := 2) (j := 1) (RdS.fr hp1 Fz (by decide) (fun q (hq : C1 q) (hm : N + 8 ≤ q) => by have := hC1 q hq; omega)) hx59 rfl))) fun a75 hS75 => d_pure hS75 12 #[true, true, true, true, true, true, false, true, true, true, true, true, true, false, false, false] rfl rfl rfl rfl (by kernel_rfl) (fun _ _ _ h => h) (fun _ => (r_move hS75 rfl rfl)) fun a76 hS76 => ?_
              refine d_one 6 #[true, true, true, true, true, true, true, true, true, true, true, true, true, false, false, false] rfl (by kernel_rfl) (arm_call hS76 rfl rfl rfl (r_call hS76 rfl rfl (by kernel_rfl)) (help_Mod.calls (p0 := x58.Consumer) (p1 := r4) (g := g30) (N + 8)   hr61) (fun _ _ ⟨g', _, Fz⟩ _ => ⟨g', hC.trans Fz (fun c' (hm : N + 8 ≤ c') => by show N + 8 ≤ c'; omega)⟩) ?_)
              rintro _ a77 w78 ⟨g78, rfl, F78⟩ hS77
              have hC78 := hC.trans F78 (fun c' (hm : N + 8 ≤ c') => by show N + 8 ≤ c'; omega)
              replace h33 := OwS.fr h33 F78 (fun c' hc (hm : N + 8 ≤ c') => by omega)
              replace hp1 := RdS.fr hp1 F78 (by decide) (fun q (hq : C1 q) (hm : N + 8 ≤ q) => by have := hC1 q hq; omega)
              replace hF := hF.trans F78 (fun c' (hm : N + 8 ≤ c') => by show (r1 ≤ c' ∧ c' < r1 + 2) ∨ N ≤ c'; omega)
              refine d_one 13 #[true, true, true, true, true, true, true, true, true, true, true, true, true, true, false, false] rfl (by kernel_rfl) (arm_call hS77 rfl rfl rfl (r_call hS77 rfl rfl (by kernel_rfl)) (help_Mod.calls (p0 := x58.Supplier) (p1 := r4) (g := g78) (N + 8)   hr63) (fun _ _ ⟨g', _, Fz⟩ _ => ⟨g', hC78.trans Fz (fun c' (hm : N + 8 ≤ c') => by show N + 8 ≤ c'; omega)⟩) ?_)
              rintro _ a79 w80 ⟨g80, rfl, F80⟩ hS79
              have hC80 := hC78.trans F80 (fun c' (hm : N + 8 ≤ c') => by show N + 8 ≤ c'; omega)
              replace h33 := OwS.fr h33 F80 (fun c' hc (hm : N + 8 ≤ c') => by omega)
              replace hp1 := RdS.fr hp1 F80 (by decide) (fun q (hq : C1 q) (hm : N + 8 ≤ q) => by have := hC1 q hq; omega)
              replace hF := hF.trans F80 (fun c' (hm : N + 8 ≤ c') => by show (r1 ≤ c' ∧ c' < r1 + 2) ∨ N ≤ c'; omega)
              refine d_pure hS79 14 #[true, true, true, true, true, true, true, true, true, true, true, true, true, true, true, false] rfl rfl rfl rfl (by kernel_rfl) (fun _ _ _ h => h) (fun _ => (r_assign hS79 rfl rfl)) fun a81 hS81 => d_pure hS81 15 #[true, true, true, true, true, true, true, true, true, true, true, true, true, true, true, true] rfl rfl rfl rfl (by kernel_rfl) (fun _ _ _ h => h) (fun _ => (r_assign hS81 rfl rfl)) fun a82 hS82 => d_done (by kernel_rfl) (hK _ _ ?_)
              replace hS : Sl 90 _ [(1, .slice A1 p1.length cap1), (2, .bool p2), (8, .int .i64 r4), (9, .int .i64 r16), (10, .slice A31 m0_0.length cap32), (11, .int .i64 m0_1), (12, .int .i64 r60), (13, .int .i64 r62)] := hS82.re ⟨rfl, rfl, rfl, rfl, rfl, rfl, rfl, rfl, trivial⟩
              clear hK K hC
              try clear hS65 hS66 hS67 hS68 hS69 hS70 hS71 hS72 hS73 hS74 hS75 hS76 hS77 hS79 hS81 hS82
              obtain ⟨a, ha⟩ : ∃ a', a' = a82 := ⟨_, rfl⟩
              rw [← ha] at hS ⊢; clear ha
              obtain ⟨o84, H, Hl85⟩ := bind_el H
              refine c_cut (fun a w' => ∃ (v83 : Int × Int), o84 = .nxt v83 ∧ w80 = w' ∧ Sl 90 a [(1, .slice A1 p1.length cap1), (2, .bool p2), (8, .int .i64 r4), (9, .int .i64 r16), (10, .slice A31 m0_0.length cap32), (11, .int .i64 m0_1), (12, .int .i64 v83.1), (13, .int .i64 v83.2)]) ?_ ?_
              · refine c_pure [(1, .slice A1 p1.length cap1), (2, .bool p2), (8, .int .i64 r4), (9, .int .i64 r16), (10, .slice A31 m0_0.length cap32), (11, .int .i64 m0_1), (12, .int .i64 r60), (13, .int .i64 r62), (48, .bool p2)] (fun R hR => st_val hS rfl rfl rfl (r_move hS rfl rfl) fun a86 hS86 => wpList_nil (hR _ (hS86.re ⟨rfl, rfl, rfl, rfl, rfl, rfl, rfl, rfl, rfl, trivial⟩))) ?_
                clear hS
                clear a
                intro a hS
                refine c_cond hS rfl (fun hb87 => ?_) (fun hb87 => ?_)
                · replace H := ite_t hb87 H
                  refine wp_seq ?_
                  refine c_pure [(1, .slice A1 p1.length cap1), (2, .bool p2), (8, .int .i64 r4), (9, .int .i64 r16), (10, .slice A31 m0_0.length cap32), (11, .int .i64 m0_1), (12, .int .i64 r60), (13, .int .i64 r62), (51, .bool (r60 == r62))] (fun R hR => st_val hS rfl rfl rfl (r_move hS rfl rfl) fun a88 hS88 => st_val hS88 rfl rfl rfl (r_move hS88 rfl rfl) fun a89 hS89 => st_val hS89 rfl rfl rfl (r_bin hS89 rfl rfl rfl b_eql) fun a90 hS90 => wpList_nil (hR _ (hS90.re ⟨rfl, rfl, rfl, rfl, rfl, rfl, rfl, rfl, rfl, trivial⟩))) ?_
                  clear hS
                  clear a
                  intro a hS
                  refine c_cond hS rfl (fun hb91 => ?_) (fun hb91 => ?_)
                  · replace H := ite_t hb91 H
                    refine wp_exit ?_
                    have e := Option.some.inj H
                    subst e
                    replace H := Fl.go_out Hl85
                    have e := Option.some.inj H
                    subst e
                    exact ⟨g80, A31, cap32, hS.re ⟨rfl, rfl, rfl, rfl, rfl, rfl, trivial⟩, h33, hp1, hF⟩
                  · replace H := ite_f hb91 H
                    refine wp_skip ?_
                    change Code.wp _ _ _ _ _
                    refine c_pure [(1, .slice A1 p1.length cap1), (2, .bool p2), (8, .int .i64 r4), (9, .int .i64 r16), (10, .slice A31 m0_0.length cap32), (11, .int .i64 m0_1), (12, .int .i64 r60), (13, .int .i64 r62), (62, .bool (decide ((Int.tmod (wi ((wi (7 * r60)) + r16)) 13) < (Int.tmod (wi ((wi (7 * r62)) + r16)) 13))))] (fun R hR => st_val hS rfl rfl rfl (r_move hS rfl rfl) fun a92 hS92 => st_val hS92 rfl rfl rfl (r_bin hS92 rfl rfl rfl b_mul) fun a93 hS93 => st_val hS93 rfl rfl rfl (r_move hS93 rfl rfl) fun a94 hS94 => st_val hS94 rfl rfl rfl (r_bin hS94 rfl rfl rfl b_add) fun a95 hS95 => st_val hS95 rfl rfl rfl (r_bin hS95 rfl rfl rfl (b_rem (by decide))) fun a96 hS96 => st_val hS96 rfl rfl rfl (r_move hS96 rfl rfl) fun a97 hS97 => st_val hS97 rfl rfl rfl (r_bin hS97 rfl rfl rfl b_mul) fun a98 hS98 => st_val hS98 rfl rfl rfl (r_move hS98 rfl rfl) fun a99 hS99 => st_val hS99 rfl rfl rfl (r_bin hS99 rfl rfl rfl b_add) fun a100 hS100 => st_val hS100 rfl rfl rfl (r_bin hS100 rfl rfl rfl (b_rem (by decide))) fun a101 hS101 => st_val hS101 rfl rfl rfl (r_bin hS101 rfl rfl rfl b_lss) fun a102 hS102 => wpList_nil (hR _ (hS102.re ⟨rfl, rfl, rfl, rfl, rfl, rfl, rfl, rfl, rfl, trivial⟩))) ?_
                    clear hS
                    clear a
                    intro a hS
                    refine c_cond hS rfl (fun hb103 => ?_) (fun hb103 => ?_)
                    · replace H := ite_t hb103 H
                      refine c_pure1 [(1, .slice A1 p1.length cap1), (2, .bool p2), (8, .int .i64 r4), (9, .int .i64 r16), (10, .slice A31 m0_0.length cap32), (11, .int .i64 m0_1), (12, .int .i64 r62), (13, .int .i64 r60)] (fun R hR => st_val hS rfl rfl rfl (r_move hS rfl rfl) fun a104 hS104 => st_val hS104 rfl rfl rfl (r_move hS104 rfl rfl) fun a105 hS105 => st_val hS105 rfl rfl rfl (r_assign hS105 rfl rfl) fun a106 hS106 => st_val hS106 rfl rfl rfl (r_assign hS106 rfl rfl) fun a107 hS107 => wpList_nil (hR _ (hS107.re ⟨rfl, rfl, rfl, rfl, rfl, rfl, rfl, rfl, trivial⟩))) ?_
                      clear hS
                      clear a
                      intro a hS
                      have e := Option.some.inj H
                      exact ⟨(r62, r60), e.symm, rfl, hS.re ⟨rfl, rfl, rfl, rfl, rfl, rfl, rfl, rfl, trivial⟩⟩
                    · replace H := ite_f hb103 H
                      refine wp_skip ?_
                      have e := Option.some.inj H
                      exact ⟨(r60, r62), e.symm, rfl, hS.re ⟨rfl, rfl, rfl, rfl, rfl, rfl, rfl, rfl, trivial⟩⟩
                · replace H := ite_f hb87 H
                  refine wp_skip ?_
                  have e := Option.some.inj H
                  exact ⟨(r60, r62), e.symm, rfl, hS.re ⟨rfl, rfl, rfl, rfl, rfl, rfl, rfl, rfl, trivial⟩⟩
              · clear H
                clear hS
                rintro a w' ⟨v83, hpre0, hw, hS⟩
                subst hpre0
                subst hw
                have H := Fl.go_nxt Hl85
                clear Hl85
                refine c_region (fun K hK => ?_)
                refine st_val hS rfl rfl rfl (r_move hS rfl rfl) fun a108 hS108 => st_val hS108 rfl rfl rfl (r_move hS108 rfl rfl) fun a109 hS109 => st_val hS109 rfl rfl rfl (r_build (parts := [(0, .int .i64 v83.1), (1, .int .i64 v83.2)]) (u := .agg #[.int .i64 v83.1, .int .i64 v83.2]) hS109 rfl rfl (fun _ => by kernel_rfl)) fun a110 hS110 => ?_
                refine st_eff hS110 rfl rfl rfl (e_alloc (cs := [.int .i64 0, .int .i64 0]) (N + 0) g80 hS110 rfl (by kernel_rfl)) ?_
                rintro _ a114 w115 g115 ⟨⟨b111, rfl, h112⟩, F115⟩ hS114
                replace h33 := OwS.fr h33 F115 (fun _ _ h => h)
                replace hp1 := RdS.fr hp1 F115 (by decide) (fun _ _ h => h)
                replace hF := hF.trans F115 (fun _ h => h.elim)
                refine st_effS hS114 rfl rfl (e_storeB (n := 2) (bb := true) (cs' := [.int .i64 v83.1, .int .i64 v83.2]) g115 hS114 rfl rfl rfl (by kernel_rfl) rfl rfl rfl h112 rfl rfl) ?_
                rintro a116 w117 g117 ⟨h112, F117⟩ hS116
                replace h33 := OwS.fr h33 F117 (fun c' hc (hm : c' = N + 0) => by omega)
                replace hp1 := RdS.fr hp1 F117 (by decide) (fun q (hq : C1 q) (hm : q = N + 0) => by have := hC1 q hq; omega)
                replace hF := hF.trans F117 (fun c' (hm : c' = N + 0) => by show (r1 ≤ c' ∧ c' < r1 + 2) ∨ N ≤ c'; omega)
                refine wpList_nil (hK _ _ ?_)
                replace hS : Sl 90 _ [(1, .slice A1 p1.length cap1), (2, .bool p2), (8, .int .i64 r4), (9, .int .i64 r16), (10, .slice A31 m0_0.length cap32), (11, .int .i64 m0_1), (14, .pointer (some ⟨b111, 0, none⟩))] := hS116.re ⟨rfl, rfl, rfl, rfl, rfl, rfl, rfl, trivial⟩
                clear hK K
                try clear hS108 hS109 hS110 hS114 hS116
                obtain ⟨a, ha⟩ : ∃ a', a' = a116 := ⟨_, rfl⟩
                rw [← ha] at hS ⊢; clear ha
                refine c_pure [(1, .slice A1 p1.length cap1), (2, .bool p2), (8, .int .i64 r4), (9, .int .i64 r16), (10, .slice A31 m0_0.length cap32), (11, .int .i64 m0_1), (14, .pointer (some ⟨b111, 0, none⟩)), (15, .bool true)] (fun R hR => st_val hS rfl rfl rfl (r_assign hS rfl rfl) fun a118 hS118 => wpList_nil (hR _ (hS118.re ⟨rfl, rfl, rfl, rfl, rfl, rfl, rfl, rfl, trivial⟩))) ?_
                clear hS
                clear a
                intro a hS
                obtain ⟨v120, H, Hl122⟩ := bind_el H
                refine c_cut (fun a w119 => ∃ (g119 : Nat → Nat), Sl 90 a [(1, .slice A1 p1.length cap1), (2, .bool p2), (8, .int .i64 r4), (9, .int .i64 r16), (10, .slice A31 m0_0.length cap32), (11, .int .i64 m0_1), (14, .pointer (some ⟨b111, 0, none⟩)), (15, .bool v120)] ∧ Bx w119 g119 (N + 0) b111 43 [.int .i64 v83.1, .int .i64 v83.2] ∧ OwS kd_api_Link 43 w119 g119 (N + 6) A31 cap32 m0_0 ∧ RdS kd_api_Link w119 g119 C1 A1 cap1 p1 ∧ Fr (fun q => (r1 ≤ q ∧ q < r1 + 2) ∨ N ≤ q) w g w119 g119) ?_ ?_
                · refine c_pure [(1, .slice A1 p1.length cap1), (2, .bool p2), (8, .int .i64 r4), (9, .int .i64 r16), (10, .slice A31 m0_0.length cap32), (11, .int .i64 m0_1), (14, .pointer (some ⟨b111, 0, none⟩)), (15, .bool true), (16, .int .i64 0)] (fun R hR => st_val hS rfl rfl rfl (r_assign hS rfl rfl) fun a123 hS123 => wpList_nil (hR _ (hS123.re ⟨rfl, rfl, rfl, rfl, rfl, rfl, rfl, rfl, rfl, trivial⟩))) ?_
                  clear hS
                  clear a
                  intro a hS
                  refine wp_block ?_
                  refine wp_loop_ghost (fun kq => fun a w124 => ∃ (m1_0 : Bool), ∃ (m1_1 : Int), ∃ (g124 : Nat → Nat), law24_Graph.l1 m0_0 v83 kq m1_0 m1_1 = some v120 ∧ Sl 90 a [(1, .slice A1 p1.length cap1), (2, .bool p2), (8, .int .i64 r4), (9, .int .i64 r16), (10, .slice A31 m0_0.length cap32), (11, .int .i64 m0_1), (14, .pointer (some ⟨b111, 0, none⟩)), (15, .bool m1_0), (16, .int .i64 m1_1)] ∧ Bx w124 g124 (N + 0) b111 43 [.int .i64 v83.1, .int .i64 v83.2] ∧ OwS kd_api_Link 43 w124 g124 (N + 6) A31 cap32 m0_0 ∧ RdS kd_api_Link w124 g124 C1 A1 cap1 p1 ∧ Fr (fun q => (r1 ≤ q ∧ q < r1 + 2) ∨ N ≤ q) w g w124 g124) FUEL ?_ ?_
                  · exact ⟨true, 0, g117, H, hS.re ⟨rfl, rfl, rfl, rfl, rfl, rfl, rfl, rfl, rfl, trivial⟩, h112, h33, hp1, hF⟩
                  · clear H
                    clear hp1 h33 h112 hF
                    clear hS
                    rintro k125 a w124 ⟨m1_0, m1_1, g124, hpre0, hS, h112, h33, hp1, hF⟩
                    have H := hpre0
                    clear hpre0
                    cases k125 with
                    | zero => exact absurd H (by simp [law24_Graph.l1])
                    | succ k125 =>
                      rw [law24_Graph.l1] at H
                      refine wp_seq ?_
                      refine c_pure [(1, .slice A1 p1.length cap1), (2, .bool p2), (8, .int .i64 r4), (9, .int .i64 r16), (10, .slice A31 m0_0.length cap32), (11, .int .i64 m0_1), (14, .pointer (some ⟨b111, 0, none⟩)), (15, .bool m1_0), (16, .int .i64 m1_1), (71, .bool (decide (m1_1 < (m0_0.length : Int))))] (fun R hR => st_val hS rfl rfl rfl (r_move hS rfl rfl) fun a126 hS126 => st_val hS126 rfl rfl rfl (r_move hS126 rfl rfl) fun a127 hS127 => st_val hS127 rfl rfl rfl (r_len (e := 43) (sz := 2) (by_ := 16) hS127 rfl rfl (by kernel_rfl)) fun a128 hS128 => st_val hS128 rfl rfl rfl (r_bin hS128 rfl rfl rfl b_lss) fun a129 hS129 => wpList_nil (hR _ (hS129.re ⟨rfl, rfl, rfl, rfl, rfl, rfl, rfl, rfl, rfl, rfl, trivial⟩))) ?_
                      clear hS
                      clear a
                      intro a hS
                      refine c_cond hS rfl (fun hb130 => ?_) (fun hb130 => ?_)
                      · replace H := ite_t hb130 H
                        refine wp_skip ?_
                        change Code.wp _ _ _ _ _
                        refine wp_seq ?_
                        refine wp_block ?_
                        obtain ⟨t143, ht144, H⟩ := bind_el H
                        refine c_draw1 (fun K hK => d_start (fun q => False) g124 [] 10 #[false, false, false, false, false, false, false, false, false, false] (by kernel_rfl) rfl rfl (fun w131 hw131 => ?_))
                        have F131 : Fr (fun _ => False) w124 g124 w131 g124 := by rw [hw131]; exact Fr.drew _ _ _
                        replace h112 := h112.fr F131 (fun h => h)
                        replace h33 := OwS.fr h33 F131 (fun _ _ h => h)
                        replace hp1 := RdS.fr hp1 F131 (by decide) (fun _ _ h => h)
                        replace hF := hF.trans F131 (fun _ h => h.elim)
                        have hC : Fr (fun q => False) w131 g124 w131 g124 := Fr.refl _ _ _
                        refine d_pure hS 0 #[true, false, false, false, false, false, false, false, false, false] rfl rfl rfl rfl (by kernel_rfl) (fun _ _ _ h => h) (fun _ => (r_move hS rfl rfl)) fun a132 hS132 => d_pure hS132 1 #[true, true, false, false, false, false, false, false, false, false] rfl rfl rfl rfl (by kernel_rfl) (fun _ _ _ h => h) (fun _ => (r_move hS132 rfl rfl)) fun a133 hS133 => ?_
                        refine d_join (N := 90) 1 #[true, true, true, true, true, true, true, true, true, false] [(1, .slice A1 p1.length cap1), (2, .bool p2), (8, .int .i64 r4), (9, .int .i64 r16), (10, .slice A31 m0_0.length cap32), (11, .int .i64 m0_1), (14, .pointer (some ⟨b111, 0, none⟩)), (15, .bool m1_0), (16, .int .i64 m1_1), (82, .bool t143)] ?_ (fun hk => ?_)
                        rotate_left
                        · rcases Bool.eq_false_or_eq_true (m1_0) with hb134 | hb134
                          · have H := ite_t hb134 ht144
                            obtain ⟨x147, hx148, H⟩ := bind_el H
                            have e153 := Option.some.inj H
                            refine d_pureW hS133 2 #[true, true, true, false, false, false, false, false, false, false] rfl (want_on hS133 rfl rfl rfl hb134) rfl rfl (by kernel_rfl) (fun _ _ _ h => h) (fun _ => (r_move hS133 rfl rfl)) fun a145 hS145 => d_pureW hS145 3 #[true, true, true, true, false, false, false, false, false, false] rfl (want_on hS145 rfl rfl rfl hb134) rfl rfl (by kernel_rfl) (fun _ _ _ h => h) (fun _ => (r_move hS145 rfl rfl)) fun a146 hS146 => d_pureW hS146 4 #[true, true, true, true, true, false, false, false, false, false] rfl (want_on hS146 rfl rfl rfl hb134) rfl rfl (by kernel_rfl) (fun _ _ _ h => h) (fun _ => (r_index (e := 43) (sz := 2) (by_ := 16) hS146 rfl rfl rfl (by kernel_rfl) (RdS.some_ (OwS.rd h33) hx148) (idx_lo hx148) (idx_hi hx148))) fun a149 hS149 => d_takeW hS149 5 #[true, true, true, true, true, true, false, false, false, false] rfl (want_on hS149 rfl rfl rfl hb134) rfl rfl (by kernel_rfl) (fun _ _ _ h => h) ⟨_, hC⟩ (fun w' g' Fz => (r_loadN (n := 2) (cs := [.int .i64 x147.Consumer, .int .i64 x147.Supplier]) hS149 rfl rfl (by kernel_rfl) rfl (RdS.cells_off (OwS.rd (OwS.fr h33 Fz (fun _ _ h => h))) hx148 0 2))) fun a150 hS150 => d_takeW hS150 6 #[true, true, true, true, true, true, true, false, false, false] rfl (want_on hS150 rfl rfl rfl hb134) rfl rfl (by kernel_rfl) (fun _ _ _ h => h) ⟨_, hC⟩ (fun w' g' Fz => (r_loadN (n := 2) (cs := [.int .i64 v83.1, .int .i64 v83.2]) hS150 rfl rfl (by kernel_rfl) rfl (Bx.cells_off (h112.fr Fz (fun h => h)) 0 2))) fun a151 hS151 => d_pureW hS151 7 #[true, true, true, true, true, true, true, true, false, false] rfl (want_on hS151 rfl rfl rfl hb134) rfl rfl (by kernel_rfl) (fun _ _ _ h => h) (fun _ => (r_stNe hS151 rfl rfl rfl (by kernel_rfl) (eqF_api_Link x147 (api_Link.mk v83.1 v83.2) _))) fun a152 hS152 => d_pure hS152 8 #[true, true, true, true, true, true, true, true, true, false] rfl rfl rfl rfl (by kernel_rfl) (fun _ _ _ h => h) (fun _ => (r_pickT hS152 rfl rfl rfl hb134)) fun a154 hS154 => hk _ (hS154.re ⟨rfl, rfl, rfl, rfl, rfl, rfl, rfl, rfl, rfl, (by rw [← e153]; rfl), trivial⟩)
                          · have H := ite_f hb134 ht144
                            have e155 := Option.some.inj H
                            refine d_off hS133 2 #[true, true, true, false, false, false, false, false, false, false] rfl (want_off hS133 rfl rfl rfl hb134) rfl rfl (by kernel_rfl) (fun _ _ _ h => h) fun a156 hS156 => d_off hS156 3 #[true, true, true, true, false, false, false, false, false, false] rfl (want_off hS156 rfl rfl rfl hb134) rfl rfl (by kernel_rfl) (fun _ _ _ h => h) fun a157 hS157 => d_off hS157 4 #[true, true, true, true, true, false, false, false, false, false] rfl (want_off hS157 rfl rfl rfl hb134) rfl rfl (by kernel_rfl) (fun _ _ _ h => h) fun a158 hS158 => d_off hS158 5 #[true, true, true, true, true, true, false, false, false, false] rfl (want_off hS158 rfl rfl rfl hb134) rfl rfl (by kernel_rfl) (fun _ _ _ h => h) fun a159 hS159 => d_off hS159 6 #[true, true, true, true, true, true, true, false, false, false] rfl (want_off hS159 rfl rfl rfl hb134) rfl rfl (by kernel_rfl) (fun _ _ _ h => h) fun a160 hS160 => d_off hS160 7 #[true, true, true, true, true, true, true, true, false, false] rfl (want_off hS160 rfl rfl rfl hb134) rfl rfl (by kernel_rfl) (fun _ _ _ h => h) fun a161 hS161 => d_pure hS161 8 #[true, true, true, true, true, true, true, true, true, false] rfl rfl rfl rfl (by kernel_rfl) (fun _ _ _ h => h) (fun _ => (r_pickF hS161 rfl rfl rfl hb134)) fun a162 hS162 => hk _ (hS162.re ⟨rfl, rfl, rfl, rfl, rfl, rfl, rfl, rfl, rfl, (by rw [← e155]; rfl), trivial⟩)
                        intro a163 hS163
                        refine d_pure hS163 9 #[true, true, true, true, true, true, true, true, true, true] rfl rfl rfl rfl (by kernel_rfl) (fun _ _ _ h => h) (fun _ => (r_assign hS163 rfl rfl)) fun a164 hS164 => d_done (by kernel_rfl) (hK _ _ ?_)
                        replace hS : Sl 90 _ [(1, .slice A1 p1.length cap1), (2, .bool p2), (8, .int .i64 r4), (9, .int .i64 r16), (10, .slice A31 m0_0.length cap32), (11, .int .i64 m0_1), (14, .pointer (some ⟨b111, 0, none⟩)), (15, .bool t143), (16, .int .i64 m1_1)] := hS164.re ⟨rfl, rfl, rfl, rfl, rfl, rfl, rfl, rfl, rfl, trivial⟩
                        clear hK K hC
                        try clear hS132 hS133 hS163 hS164
                        obtain ⟨a, ha⟩ : ∃ a', a' = a164 := ⟨_, rfl⟩
                        rw [← ha] at hS ⊢; clear ha
                        change Code.wp _ _ _ _ _
                        refine c_pure1 [(1, .slice A1 p1.length cap1), (2, .bool p2), (8, .int .i64 r4), (9, .int .i64 r16), (10, .slice A31 m0_0.length cap32), (11, .int .i64 m0_1), (14, .pointer (some ⟨b111, 0, none⟩)), (15, .bool t143), (16, .int .i64 (wi (m1_1 + 1)))] (fun R hR => st_val hS rfl rfl rfl (r_move hS rfl rfl) fun a165 hS165 => st_val hS165 rfl rfl rfl (r_bin hS165 rfl rfl rfl b_add) fun a166 hS166 => st_val hS166 rfl rfl rfl (r_assign hS166 rfl rfl) fun a167 hS167 => wpList_nil (hR _ (hS167.re ⟨rfl, rfl, rfl, rfl, rfl, rfl, rfl, rfl, rfl, trivial⟩))) ?_
                        clear hS
                        clear a
                        intro a hS
                        refine ⟨k125, Nat.lt_succ_self _, ?_⟩
                        exact ⟨t143, wi (m1_1 + 1), g124, H, hS.re ⟨rfl, rfl, rfl, rfl, rfl, rfl, rfl, rfl, rfl, trivial⟩, h112, h33, hp1, hF⟩
                      · replace H := ite_f hb130 H
                        refine wp_exit ?_
                        have e := Option.some.inj H
                        subst e
                        exact ⟨g124, hS.re ⟨rfl, rfl, rfl, rfl, rfl, rfl, rfl, rfl, trivial⟩, h112, h33, hp1, hF⟩
                · clear H
                  clear hp1 h33 h112 hF
                  clear hS
                  rintro a w119 ⟨g119, hS, h112, h33, hp1, hF⟩
                  have H := Hl122
                  clear Hl122
                  refine c_pure [(1, .slice A1 p1.length cap1), (2, .bool p2), (8, .int .i64 r4), (9, .int .i64 r16), (10, .slice A31 m0_0.length cap32), (11, .int .i64 m0_1), (14, .pointer (some ⟨b111, 0, none⟩)), (83, .bool v120)] (fun R hR => st_val hS rfl rfl rfl (r_move hS rfl rfl) fun a168 hS168 => wpList_nil (hR _ (hS168.re ⟨rfl, rfl, rfl, rfl, rfl, rfl, rfl, rfl, trivial⟩))) ?_
                  clear hS
                  clear a
                  intro a hS
                  refine c_cond hS rfl (fun hb169 => ?_) (fun hb169 => ?_)
                  · replace H := ite_t hb169 H
                    obtain ⟨y177, hy178, H⟩ := bind_el H
                    refine c_region1 (fun K hK => ?_)
                    refine st_val hS rfl rfl rfl (r_move hS rfl rfl) fun a170 hS170 => st_val hS170 rfl rfl rfl (r_loadN (n := 2) (cs := [.int .i64 v83.1, .int .i64 v83.2]) hS170 rfl rfl (by kernel_rfl) rfl (Bx.cells_off h112 0 2)) fun a171 hS171 => ?_
                    refine st_eff hS171 rfl rfl rfl (e_lit (e := 43) (parts := [(0, .agg #[.int .i64 v83.1, .int .i64 v83.2])]) (cs := [.int .i64 v83.1, .int .i64 v83.2]) kd_api_Link [(api_Link.mk v83.1 v83.2)] (N + 4) g119 hS171 rfl rfl (fun _ => by kernel_rfl) rfl (by decide) (Rows.cons (cs := [.int .i64 v83.1, .int .i64 v83.2]) rfl Rows.nil)) ?_
                    rintro _ a175 w176 g176 ⟨⟨A172, rfl, h173⟩, F176⟩ hS175
                    replace h112 := h112.fr F176 (fun h => h)
                    replace h33 := OwS.fr h33 F176 (fun _ _ h => h)
                    replace hp1 := RdS.fr hp1 F176 (by decide) (fun _ _ h => h)
                    replace hF := hF.trans F176 (fun _ h => h.elim)
                    refine st_eff hS175 rfl rfl rfl (e_append (e := 43) (sz := 2) (by_ := 16) (z := [.int .i64 0, .int .i64 0]) (kd := kd_api_Link) g176 hS175 rfl rfl rfl rfl (by kernel_rfl) (by kernel_rfl) rfl rfl rfl rfl h33 (OwD.rdx h173) (fun _ _ _ h => h) hy178) ?_
                    rintro _ a183 w184 g184 ⟨⟨A179, cap180, rfl, h181⟩, F184⟩ hS183
                    replace h112 := h112.fr F184 (fun (hm : N + 0 = N + 6) => by omega)
                    replace h173 := OwS.fr h173 F184 (fun c' hc (hm : c' = N + 6) => by omega)
                    replace hp1 := RdS.fr hp1 F184 (by decide) (fun q (hq : C1 q) (hm : q = N + 6) => by have := hC1 q hq; omega)
                    replace hF := hF.trans F184 (fun c' (hm : c' = N + 6) => by show (r1 ≤ c' ∧ c' < r1 + 2) ∨ N ≤ c'; omega)
                    refine st_val hS183 rfl rfl rfl (r_assign hS183 rfl rfl) fun a185 hS185 => wpList_nil (hK _ _ ?_)
                    replace hS : Sl 90 _ [(1, .slice A1 p1.length cap1), (2, .bool p2), (8, .int .i64 r4), (9, .int .i64 r16), (10, .slice A179 y177.length cap180), (11, .int .i64 m0_1)] := hS185.re ⟨rfl, rfl, rfl, rfl, rfl, rfl, trivial⟩
                    clear hK K
                    try clear hS170 hS171 hS175 hS183 hS185
                    obtain ⟨a, ha⟩ : ∃ a', a' = a185 := ⟨_, rfl⟩
                    rw [← ha] at hS ⊢; clear ha
                    have e := Option.some.inj H
                    subst e
                    exact ⟨g184, A179, cap180, hS.re ⟨rfl, rfl, rfl, rfl, rfl, rfl, trivial⟩, h181, hp1, hF⟩
                  · replace H := ite_f hb169 H
                    refine wp_skip ?_
                    have e := Option.some.inj H
                    subst e
                    exact ⟨g119, A31, cap32, hS.re ⟨rfl, rfl, rfl, rfl, rfl, rfl, trivial⟩, h33, hp1, hF⟩
            · clear H
              clear hp1 h33 hF
              clear hS
              rintro a w51 ⟨g51, A52, cap53, hS, h54, hp1, hF⟩
              have H := Hl57
              clear Hl57
              refine c_pure1 [(1, .slice A1 p1.length cap1), (2, .bool p2), (8, .int .i64 r4), (9, .int .i64 r16), (10, .slice A52 v55.length cap53), (11, .int .i64 (wi (m0_1 + 1)))] (fun R hR => st_val hS rfl rfl rfl (r_move hS rfl rfl) fun a186 hS186 => st_val hS186 rfl rfl rfl (r_bin hS186 rfl rfl rfl b_add) fun a187 hS187 => st_val hS187 rfl rfl rfl (r_assign hS187 rfl rfl) fun a188 hS188 => wpList_nil (hR _ (hS188.re ⟨rfl, rfl, rfl, rfl, rfl, rfl, trivial⟩))) ?_
              clear hS
              clear a
              intro a hS
              refine ⟨k34, Nat.lt_succ_self _, ?_⟩
              exact ⟨v55, wi (m0_1 + 1), g51, A52, cap53, H, hS.re ⟨rfl, rfl, rfl, rfl, rfl, rfl, trivial⟩, h54, hp1, hF⟩
          · replace H := ite_f hb50 H
            refine wp_exit ?_
            have e := Option.some.inj H
            subst e
            exact ⟨g30, A31, cap32, hS.re ⟨rfl, rfl, trivial⟩, h33, hF⟩
    · clear H
      clear hp1 hF
      clear hS
      rintro a w22 ⟨g22, A23, cap24, hS, h25, hF⟩
      have H := Hl28
      clear Hl28
      refine c_pure [(6, .int .i64 r4), (7, .slice A23 v26.length cap24)] (fun R hR => st_val hS rfl rfl rfl (r_move hS rfl rfl) fun a189 hS189 => st_val hS189 rfl rfl rfl (r_move hS189 rfl rfl) fun a190 hS190 => st_val hS190 rfl rfl rfl (r_assign hS190 rfl rfl) fun a191 hS191 => st_val hS191 rfl rfl rfl (r_assign hS191 rfl rfl) fun a192 hS192 => wpList_nil (hR _ (hS192.re ⟨rfl, rfl, trivial⟩))) ?_
      clear hS
      clear a
      intro a hS
      refine wp_ret ?_
      have e := Option.some.inj H
      subst e
      have F193 := Fr.recol2 w22 g22 (N + 6) r1
      replace h25 := h25.recol2 r1
      replace hF := hF.trans F193 (fun c' (hm : c' = N + 6 ∨ c' = N + 6 + 1) => by show (r1 ≤ c' ∧ c' < r1 + 2) ∨ N ≤ c'; omega)
      repeat (with_reducible first | refine then_ret ?_ | refine inBlock_ret ?_)
      exact c_ret2 hS Try.results15 rfl rfl ⟨_, rfl, (recol2 g22 (N + 6) r1), A23, cap24, rfl, h25, hF⟩


end Go.Proofs.Ythmjgadmadlpkaa.Sim

namespace Go.Proofs.Ythmjgadmadlpkaa.Sim
open Go
set_option linter.unusedVariables false

/-- A loop that looks for the first element with P. -/
theorem search_ok {α ρ : Type} {L : Nat → Int → Option (Fl ρ Unit)} (xs : List α) (P : α → Bool) (v : ρ) (hlen : xs.length ≤ maxLen)
    (hL : ∀ k (i : Nat), L (k + 1) (i : Int) = if decide ((i : Int) < (xs.length : Int)) = true then (idx xs (i : Int)).bind fun x => if P x = true then some (.out v) else L k (wi ((i : Int) + 1)) else some (.nxt ())) :
    L FUEL 0 = some (if xs.any P = true then .out v else .nxt ()) := by
  rw [maxLen_eq] at hlen
  refine loop_c (L := fun k (_ : Unit) i => L k i) xs.length (fun i _ => ∀ x ∈ xs.take i, P x = false) (fun o => o = some (if xs.any P = true then .out v else .nxt ())) ?_ ?_ FUEL 0 () (Nat.zero_le _) (FUEL_pos (by omega)) (by simp)
  · intro k s i hi hI
    simp only [hL]
    rw [if_pos (by simp; omega), idx_get hi]
    simp only [Option.bind_some]
    by_cases hp : P xs[i] = true
    · rw [if_pos hp]
      refine .inr ?_
      rw [if_pos (List.any_eq_true.2 ⟨_, List.getElem_mem hi, hp⟩)]
    · rw [if_neg hp]
      refine .inl ⟨(), ?_, by rw [wi_succ (by omega)]⟩
      intro x hx
      rw [List.take_succ_eq_append_getElem hi] at hx
      rcases List.mem_append.1 hx with h | h
      · exact hI x h
      · simp only [List.mem_singleton] at h; subst h; simpa using hp
  · intro k s hI
    simp only [hL]
    rw [if_neg (by simp)]
    rw [List.take_length] at hI
    rw [if_neg]
    intro h
    obtain ⟨x, h1, h2⟩ := List.any_eq_true.1 h
    rw [hI x h1] at h2; cases h2

/-! ### the checks -/

def badL (n : Int) (x : api_Link) : Bool := ((((decide (x.Consumer < 0)) || (decide (n ≤ x.Consumer))) || (decide (x.Supplier < 0))) || (decide (n ≤ x.Supplier)))
def vcode (n : Int) (ls : List api_Link) : Int :=
  if (((decide (n < 0)) || (decide (128 < n))) || (decide (1024 < (ls.length : Int)))) = true then 1 else if ls.any (badL n) = true then 1 else if ls.Nodup then 0 else 7

theorem nodup_take {α : Type} {xs : List α} (i : Nat) (h : xs.Nodup) : (xs.take i).Nodup := List.Sublist.nodup (List.take_sublist i xs) h

theorem nodup_step {α : Type} {xs : List α} {i : Nat} (hi : i < xs.length) (h : (xs.take i).Nodup) : (xs.take (i + 1)).Nodup ↔ xs[i] ∉ xs.take i := by
  rw [List.take_succ_eq_append_getElem hi, List.nodup_append]
  constructor
  · rintro ⟨_, _, h3⟩ hm
    exact h3 _ hm _ (by simp) rfl
  · intro hm
    refine ⟨h, by simp, fun a ha b hb => ?_⟩
    simp only [List.mem_singleton] at hb
    subst hb
    exact fun e => hm (e ▸ ha)

theorem validate_ok (n : Int) (ls : List api_Link) (h : ls.length ≤ maxLen) : depgraph_validate.f n ls = some (vcode n ls) := by
  unfold depgraph_validate.f vcode
  by_cases h0 : (((decide (n < 0)) || (decide (128 < n))) || (decide (1024 < (ls.length : Int)))) = true
  · rw [if_pos h0, if_pos h0]
  · rw [if_neg h0, if_neg h0]
    have hlen : ls.length ≤ 1024 := by simp at h0; omega
    rw [search_ok (L := depgraph_validate.l0 n ls) ls (badL n) 1 h (fun k i => by rw [depgraph_validate.l0]; rfl)]
    by_cases hb : ls.any (badL n) = true
    · rw [if_pos hb, if_pos hb]; rfl
    · rw [if_neg hb, if_neg hb]
      simp only [Option.bind_some, Fl.go]
      have key : depgraph_validate.l1 ls FUEL [] 0 = some (if ls.Nodup then .nxt () else .out 7) := by
        refine loop_c (L := fun k (s : List api_Link) i => depgraph_validate.l1 ls k s i) ls.length (fun i s => s = ls.take i ∧ (ls.take i).Nodup) (fun o => o = some (if ls.Nodup then .nxt () else .out 7)) ?_ ?_ FUEL 0 [] (Nat.zero_le _) (FUEL_pos (by omega)) (by simp)
        · rintro k s i hi ⟨rfl, hI⟩
          rw [depgraph_validate.l1, if_pos (by simp; omega), idx_get hi]
          simp only [Option.bind_some]
          by_cases hm : ls[i] ∈ ls.take i
          · rw [if_pos (by simpa using hm)]
            refine .inr ?_
            rw [if_neg (fun hn => (nodup_step hi hI).1 (nodup_take (i + 1) hn) hm)]
          · rw [if_neg (by simpa using hm)]
            refine .inl ⟨_, ⟨?_, (nodup_step hi hI).2 hm⟩, by rw [wi_succ (by omega)]⟩
            rw [List.take_succ_eq_append_getElem hi]
        · rintro k s ⟨rfl, hI⟩
          rw [depgraph_validate.l1, if_neg (by simp)]
          rw [List.take_length] at hI
          rw [if_pos hI]
      rw [key]
      by_cases hn : ls.Nodup
      · rw [if_pos hn, if_pos hn]; rfl
      · rw [if_neg hn, if_neg hn]; rfl

/-- What the checks let pass. -/
structure GoodG (n : Nat) (ls : List api_Link) : Prop where
  n128 : n ≤ 128
  len : ls.length ≤ 1024
  c0 : ∀ l ∈ ls, 0 ≤ l.Consumer ∧ l.Consumer < n
  s0 : ∀ l ∈ ls, 0 ≤ l.Supplier ∧ l.Supplier < n
  nodup : ls.Nodup

theorem vcode_good {p : Int} {ls : List api_Link} (h : vcode p ls = 0) : ∃ n : Nat, p = n ∧ GoodG n ls := by
  unfold vcode at h
  split at h
  · cases h
  · rename_i h0
    simp only [Bool.or_eq_true, decide_eq_true_eq, not_or] at h0
    split at h
    · cases h
    · rename_i hb
      split at h
      · rename_i hn
        refine ⟨p.toNat, by omega, by omega, by omega, fun l hl => ?_, fun l hl => ?_, hn⟩
        all_goals
          have : badL p l = false := by
            rw [Bool.not_eq_true, List.any_eq_false] at hb
            simpa using hb l hl
          simp [badL] at this
          omega
      · cases h
theorem good_vcode {n : Nat} {ls : List api_Link} (g : GoodG n ls) : vcode n ls = 0 := by
  unfold vcode
  rw [if_neg (by have := g.n128; have := g.len; simp; omega), if_neg, if_pos g.nodup]
  rw [Bool.not_eq_true, List.any_eq_false]
  intro l hl
  have := g.c0 l hl
  have := g.s0 l hl
  simp [badL]; omega

/-! ### the graphs of the statements -/

theorem mod_ok {x n : Int} (h0 : 0 < n) (h1 : n < 9223372036854775808) : ∃ r, help_Mod.f x n = some r ∧ 0 ≤ r ∧ r < n := by
  have hn := wu_id (x := n) (by omega) (by omega)
  have hx := wu_range x
  refine ⟨wi (Int.tmod (wu x) (wu n)), by unfold help_Mod.f; rw [if_neg (by rw [hn]; omega)], ?_⟩
  rw [hn, Int.tmod_eq_emod_of_nonneg hx.1]
  have h2 := Int.emod_nonneg (wu x) (show n ≠ 0 by omega)
  have h3 := Int.emod_lt_of_pos (wu x) h0
  rw [wi_id (by omega) (by omega)]
  exact ⟨h2, h3⟩

end Go.Proofs.Ythmjgadmadlpkaa.Sim

namespace Go.Proofs.Ythmjgadmadlpkaa.Sim
open Go
set_option linter.unusedVariables false

/-! ### consumers and counts -/

def consOf (ls : List api_Link) (s : Int) : List Int := (ls.filter (fun l => l.Supplier == s)).map (·.Consumer)
def rem (ls : List api_Link) (out : List Int) (c : Int) : Nat := ls.countP (fun l => (l.Consumer == c) && decide (l.Supplier ∉ out))

theorem mem_consOf {ls : List api_Link} {s c : Int} : c ∈ consOf ls s ↔ api_Link.mk c s ∈ ls := by
  unfold consOf
  simp only [List.mem_map, List.mem_filter, beq_iff_eq]
  constructor
  · rintro ⟨l, ⟨h1, h2⟩, rfl⟩; subst h2; exact h1
  · intro h; exact ⟨_, ⟨h, rfl⟩, rfl⟩

theorem rem_split {out : List Int} {x : Int} (hx : x ∉ out) : ∀ (ls : List api_Link) (c : Int), rem ls out c = rem ls (out ++ [x]) c + (consOf ls x).count c
  | [], c => by simp [rem, consOf]
  | l :: t, c => by
    have ih := rem_split hx t c
    unfold rem consOf at ih ⊢
    simp only [List.countP_cons, List.filter_cons]
    by_cases h1 : l.Consumer = c <;> by_cases h2 : l.Supplier = x <;> by_cases h4 : l.Supplier ∈ out <;> grind

theorem consOf_snoc (ls : List api_Link) (l : api_Link) (s : Int) : consOf (ls ++ [l]) s = if l.Supplier = s then consOf ls s ++ [l.Consumer] else consOf ls s := by
  unfold consOf
  by_cases h : l.Supplier = s <;> simp [List.filter_append, h]
theorem rem_snoc (ls : List api_Link) (l : api_Link) (c : Int) : rem (ls ++ [l]) [] c = rem ls [] c + if l.Consumer = c then 1 else 0 := by
  unfold rem
  by_cases h : l.Consumer = c <;> simp [List.countP_append, h]
theorem rem_le (ls : List api_Link) (out : List Int) (c : Int) : rem ls out c ≤ ls.length := List.countP_le_length
theorem consOf_le (ls : List api_Link) (s : Int) : (consOf ls s).length ≤ ls.length := by
  unfold consOf; rw [List.length_map]; exact List.length_filter_le _ _

theorem adjacent_ok {n : Nat} {ls : List api_Link} (g : GoodG n ls) : ∃ adj cnt, depgraph_adjacent.f (n : Int) ls = some (adj, cnt) ∧ adj.length = n ∧ cnt.length = n ∧ ∀ v, 0 ≤ v → v < (n : Int) → idx adj v = some (consOf ls v) ∧ idx cnt v = some (rem ls [] v : Int) := by
  have hn := g.n128
  have hl := g.len
  unfold depgraph_adjacent.f
  rw [mk_ok (by omega), mk_ok (by omega)]
  simp only [Option.bind_some]
  have key : ∃ adj cnt, depgraph_adjacent.l0 ls FUEL (List.replicate n []) (List.replicate n 0) 0 = some (adj, cnt) ∧ adj.length = n ∧ cnt.length = n ∧ ∀ v, 0 ≤ v → v < (n : Int) → idx adj v = some (consOf ls v) ∧ idx cnt v = some (rem ls [] v : Int) := by
    refine loop_c (L := fun k (s : List (List Int) × List Int) i => depgraph_adjacent.l0 ls k s.1 s.2 i) ls.length (fun i s => s.1.length = n ∧ s.2.length = n ∧ ∀ v, 0 ≤ v → v < (n : Int) → idx s.1 v = some (consOf (ls.take i) v) ∧ idx s.2 v = some (rem (ls.take i) [] v : Int))
      (fun o => ∃ adj cnt, o = some (adj, cnt) ∧ adj.length = n ∧ cnt.length = n ∧ ∀ v, 0 ≤ v → v < (n : Int) → idx adj v = some (consOf ls v) ∧ idx cnt v = some (rem ls [] v : Int)) ?_ ?_ FUEL 0 (_, _) (Nat.zero_le _) (FUEL_pos (by omega)) ?_
    · rintro k ⟨adj, cnt⟩ i hi ⟨h1, h2, h3⟩
      simp only at h1 h2 h3 ⊢
      have hm := List.getElem_mem hi
      have hc := g.c0 _ hm
      have hs := g.s0 _ hm
      rw [depgraph_adjacent.l0, if_pos (by simp; omega), idx_get hi]
      simp only [Option.bind_some]
      have hcl := consOf_le (ls.take i) ls[i].Supplier
      rw [List.length_take] at hcl
      have hrl := rem_le (ls.take i) [] ls[i].Consumer
      rw [List.length_take] at hrl
      rw [(h3 _ hs.1 hs.2).1]
      simp only [Option.bind_some]
      rw [app_ok (by simp only [List.length_singleton]; omega)]
      simp only [Option.bind_some]
      rw [(h3 _ hc.1 hc.2).2]
      simp only [Option.bind_some]
      refine .inl ⟨(upd adj ls[i].Supplier (consOf (ls.take i) ls[i].Supplier ++ [ls[i].Consumer]), upd cnt ls[i].Consumer ((rem (ls.take i) [] ls[i].Consumer + 1 : Nat) : Int)), ?_, by rw [wi_succ (by omega), wi_succ (by omega)]⟩
      refine ⟨by rw [upd_length]; exact h1, by rw [upd_length]; exact h2, fun v v0 v1 => ?_⟩
      rw [idx_upd (xs := adj) hs.1 v0 (by omega), idx_upd (xs := cnt) hc.1 v0 (by omega), List.take_succ_eq_append_getElem hi, consOf_snoc, rem_snoc]
      obtain ⟨q1, q2⟩ := h3 v v0 v1
      constructor
      · by_cases e : ls[i].Supplier = v
        · subst e; rw [if_pos rfl, if_pos rfl]
        · rw [if_neg e, if_neg e]; exact q1
      · by_cases e : ls[i].Consumer = v
        · subst e; rw [if_pos rfl, if_pos rfl]
        · rw [if_neg e, if_neg e]; exact q2
    · rintro k ⟨adj, cnt⟩ ⟨h1, h2, h3⟩
      simp only at h1 h2 h3 ⊢
      rw [depgraph_adjacent.l0, if_neg (by simp)]
      rw [List.take_length] at h3
      exact ⟨adj, cnt, rfl, h1, h2, h3⟩
    · refine ⟨by simp, by simp, fun v v0 v1 => ?_⟩
      simp only
      rw [idx_replicate v0 v1, idx_replicate v0 v1]
      simp [consOf, rem]
  obtain ⟨adj, cnt, h1, h2⟩ := key
  rw [h1]
  exact ⟨adj, cnt, rfl, h2⟩

/-! ### the order -/

def free (ls : List api_Link) (out : List Int) (v : Int) : Bool := decide (v ∉ out) && ls.all (fun l => !(l.Consumer == v) || decide (l.Supplier ∈ out))
def least (n : Nat) (ls : List api_Link) (out : List Int) : Option Int := (below n).find? (free ls out)

theorem free_iff {ls : List api_Link} {out : List Int} {v : Int} : free ls out v = true ↔ v ∉ out ∧ ∀ l ∈ ls, l.Consumer = v → l.Supplier ∈ out := by
  unfold free
  simp only [Bool.and_eq_true, decide_eq_true_eq, List.all_eq_true, Bool.or_eq_true, Bool.not_eq_true', beq_eq_false_iff_ne, ne_eq]
  constructor
  · rintro ⟨h1, h2⟩; exact ⟨h1, fun l hl e => (h2 l hl).resolve_left (fun h => h e)⟩
  · rintro ⟨h1, h2⟩; exact ⟨h1, fun l hl => by by_cases e : l.Consumer = v <;> simp [e, h2 l hl]⟩

theorem free_rem {ls : List api_Link} {out : List Int} {v : Int} : free ls out v = true ↔ v ∉ out ∧ rem ls out v = 0 := by
  rw [free_iff]
  unfold rem
  rw [List.countP_eq_zero]
  simp only [Bool.and_eq_true, beq_iff_eq, decide_eq_true_eq, not_and, Decidable.not_not]

theorem find_below (P : Int → Bool) : ∀ (n : Nat), ((∀ u : Int, 0 ≤ u → u < n → P u = false) ∧ (below n).find? P = none) ∨ ∃ v : Int, 0 ≤ v ∧ v < n ∧ P v = true ∧ (∀ u : Int, 0 ≤ u → u < v → P u = false) ∧ (below n).find? P = some v
  | 0 => .inl ⟨fun u h0 h1 => by omega, by simp [below]⟩
  | n + 1 => by
    rw [below_succ, List.find?_append]
    rcases find_below P n with ⟨h1, h2⟩ | ⟨v, h1, h2, h3, h4, h5⟩
    · rw [h2]
      by_cases hp : P (n : Int) = true
      · exact .inr ⟨n, by omega, by omega, hp, h1, by simp [hp]⟩
      · refine .inl ⟨fun u h0 h3 => ?_, by simp [hp]⟩
        by_cases e : u = n
        · subst e; simpa using hp
        · exact h1 u h0 (by omega)
    · exact .inr ⟨v, h1, by omega, h3, h4, by rw [h5]; rfl⟩

theorem least_of {n : Nat} {ls : List api_Link} {out : List Int} {v : Int} (h0 : 0 ≤ v) (h1 : v < n) (h2 : free ls out v = true) (h3 : ∀ u, 0 ≤ u → u < v → free ls out u = false) : least n ls out = some v := by
  rcases find_below (free ls out) n with ⟨h4, h5⟩ | ⟨u, h4, h5, h6, h7, h8⟩
  · rw [h4 v h0 h1] at h2; cases h2
  · have : u = v := by
      rcases Int.lt_trichotomy u v with h | h | h
      · rw [h3 u h4 h] at h6; cases h6
      · exact h
      · rw [h7 v h0 h] at h2; cases h2
    subst this; exact h8
theorem least_some {n : Nat} {ls : List api_Link} {out : List Int} {v : Int} (h : least n ls out = some v) : 0 ≤ v ∧ v < n ∧ free ls out v = true ∧ ∀ u, 0 ≤ u → u < v → free ls out u = false := by
  rcases find_below (free ls out) n with ⟨h4, h5⟩ | ⟨u, h4, h5, h6, h7, h8⟩
  · unfold least at h; rw [h5] at h; cases h
  · unfold least at h; rw [h8] at h; injection h with h; subst h; exact ⟨h4, h5, h6, h7⟩
theorem least_none {n : Nat} {ls : List api_Link} {out : List Int} : least n ls out = none ↔ ∀ u : Int, 0 ≤ u → u < n → free ls out u = false := by
  rcases find_below (free ls out) n with ⟨h4, h5⟩ | ⟨u, h4, h5, h6, h7, h8⟩
  · exact ⟨fun _ => h4, fun _ => h5⟩
  · refine ⟨fun h => ?_, fun h => ?_⟩
    · unfold least at h; rw [h8] at h; cases h
    · rw [h u h4 h5] at h6; cases h6

inductive Run (n : Nat) (ls : List api_Link) : List Int → Prop where
  | nil : Run n ls []
  | snoc {out : List Int} {v : Int} (h : Run n ls out) (hv : least n ls out = some v) : Run n ls (out ++ [v])

theorem Run.facts {n : Nat} {ls : List api_Link} {out : List Int} (h : Run n ls out) : out.Nodup ∧ (∀ v ∈ out, 0 ≤ v ∧ v < n) ∧ ∀ l ∈ ls, l.Consumer ∈ out → l.Supplier ∈ out := by
  induction h with
  | nil => simp
  | @snoc out v h hv ih =>
    obtain ⟨h1, h2, h3⟩ := ih
    obtain ⟨h4, h5, h6, h7⟩ := least_some hv
    obtain ⟨h8, h9⟩ := free_iff.1 h6
    refine ⟨?_, fun u hu => ?_, fun l hl hc => ?_⟩
    · rw [List.nodup_append]
      refine ⟨h1, by simp, fun a ha b hb => ?_⟩
      simp only [List.mem_singleton] at hb
      subst hb
      exact fun e => h8 (e ▸ ha)
    · rcases List.mem_append.1 hu with hu | hu
      · exact h2 u hu
      · simp only [List.mem_singleton] at hu; subst hu; exact ⟨h4, h5⟩
    · rcases List.mem_append.1 hc with hc | hc
      · exact List.mem_append.2 (.inl (h3 l hl hc))
      · simp only [List.mem_singleton] at hc
        exact List.mem_append.2 (.inl (h9 l hl hc))
theorem Run.length_le {n : Nat} {ls : List api_Link} {out : List Int} (h : Run n ls out) : out.length ≤ n := by
  have := nodup_le h.facts.1 (fun x hx => mem_below.2 (h.facts.2.1 x hx))
  rwa [below_length] at this

def greedy (n : Nat) (ls : List api_Link) : Nat → List Int → List Int
  | 0, out => out
  | k + 1, out => match least n ls out with
    | none => out
    | some v => greedy n ls k (out ++ [v])
def ord (n : Nat) (ls : List api_Link) : List Int := greedy n ls (n + 1) []

theorem Run.greedy {n : Nat} {ls : List api_Link} {out : List Int} (h : Run n ls out) (k : Nat) : Sim.greedy n ls (k + out.length) [] = Sim.greedy n ls k out := by
  induction h generalizing k with
  | nil => rfl
  | @snoc out v h hv ih =>
    have := ih (k + 1)
    rw [show k + 1 + out.length = k + (out ++ [v]).length from by simp; omega] at this
    rw [this, Sim.greedy, hv]
theorem Run.ord {n : Nat} {ls : List api_Link} {out : List Int} (h : Run n ls out) (hn : least n ls out = none) : out = Sim.ord n ls := by
  have h1 := h.length_le
  have h2 := h.greedy (n + 1 - out.length)
  rw [show n + 1 - out.length + out.length = n + 1 from by omega] at h2
  unfold Sim.ord
  rw [h2, show n + 1 - out.length = (n - out.length) + 1 from by omega, Sim.greedy, hn]
theorem greedy_run {n : Nat} {ls : List api_Link} : ∀ (k : Nat) (out : List Int), Run n ls out → n < k + out.length → Run n ls (greedy n ls k out) ∧ least n ls (greedy n ls k out) = none
  | 0, out, h, hk => by have := h.length_le; omega
  | k + 1, out, h, hk => by
    rw [greedy]
    split
    · rename_i hn; exact ⟨h, hn⟩
    · rename_i v hv; exact greedy_run k _ (h.snoc hv) (by simp; omega)
theorem ord_run (n : Nat) (ls : List api_Link) : Run n ls (ord n ls) ∧ least n ls (ord n ls) = none := greedy_run _ _ .nil (by simp)
/-! ### the program's way -/

structure Que (n : Nat) (q : List Int) (P : Int → Prop) : Prop where
  heap : Heap q q.length
  nodup : q.Nodup
  mem : ∀ v, v ∈ q ↔ 0 ≤ v ∧ v < (n : Int) ∧ P v

theorem Que.len {n : Nat} {q : List Int} {P : Int → Prop} (h : Que n q P) : q.length ≤ n := by
  have := nodup_le h.nodup (fun x hx => mem_below.2 ⟨((h.mem x).1 hx).1, ((h.mem x).1 hx).2.1⟩)
  rwa [below_length] at this
theorem Que.congr {n : Nat} {q : List Int} {P Q : Int → Prop} (h : Que n q P) (hpq : ∀ v, 0 ≤ v → v < (n : Int) → (P v ↔ Q v)) : Que n q Q :=
  ⟨h.heap, h.nodup, fun v => by rw [h.mem]; constructor <;> rintro ⟨a, b, c⟩; exact ⟨a, b, (hpq v a b).1 c⟩; exact ⟨a, b, (hpq v a b).2 c⟩⟩
theorem Que.push {n : Nat} {q : List Int} {P : Int → Prop} (h : Que n q P) (hn : n ≤ 128) {x : Int} (h0 : 0 ≤ x) (h1 : x < n) (hx : ¬ P x) : ∃ q', heap_Push.f ⟨q⟩ x = some ⟨q'⟩ ∧ Que n q' (fun v => v = x ∨ P v) := by
  have hl := h.len
  obtain ⟨q', e, hp, hh⟩ := push_ok q x (by omega) h.heap
  refine ⟨q', e, hh, ?_, fun v => ?_⟩
  · rw [hp.nodup_iff, List.nodup_cons]
    exact ⟨fun hm => hx ((h.mem x).1 hm).2.2, h.nodup⟩
  · rw [hp.mem_iff, List.mem_cons, h.mem]
    constructor
    · rintro (rfl | ⟨a, b, c⟩)
      · exact ⟨h0, h1, .inl rfl⟩
      · exact ⟨a, b, .inr c⟩
    · rintro ⟨a, b, rfl | c⟩
      · exact .inl rfl
      · exact .inr ⟨a, b, c⟩

theorem sort_l0 {n : Nat} (hn : n ≤ 128) {adj : List (List Int)} {cnt : List Int} (hc : cnt.length = n) : ∃ q, depgraph_sort.l0 (adj, cnt) FUEL [] 0 = some q ∧ Que n q (fun v => idx cnt v = some 0) := by
  refine loop_c (L := fun k (s : List Int) i => depgraph_sort.l0 (adj, cnt) k s i) n (fun i s => Que n s (fun v => v < (i : Int) ∧ idx cnt v = some 0)) (fun o => ∃ q, o = some q ∧ Que n q (fun v => idx cnt v = some 0)) ?_ ?_ FUEL 0 [] (Nat.zero_le _) (FUEL_pos (by omega)) ⟨fun k h0 h1 => by simp at h1, by simp, fun v => by simp; omega⟩
  · rintro k s i hi hq
    rw [depgraph_sort.l0, if_pos (by show decide ((i : Int) < (cnt.length : Int)) = true; simp; omega), idx_get (xs := cnt) (by omega)]
    simp only [Option.bind_some]
    by_cases e : cnt[i] = 0
    · rw [if_pos (by simp [e])]
      obtain ⟨q', h1, h2⟩ := hq.push hn (x := (i : Int)) (by omega) (by omega) (fun h => by omega)
      rw [h1]
      refine .inl ⟨q', h2.congr (fun v v0 v1 => ?_), by rw [wi_succ (by omega)]; rfl⟩
      constructor
      · rintro (rfl | ⟨h3, h4⟩)
        · exact ⟨by omega, by rw [idx_get (by omega), e]⟩
        · exact ⟨by omega, h4⟩
      · rintro ⟨h3, h4⟩
        by_cases e2 : v = i
        · exact .inl e2
        · exact .inr ⟨by omega, h4⟩
    · rw [if_neg (by simp [e])]
      refine .inl ⟨s, hq.congr (fun v v0 v1 => ?_), by rw [wi_succ (by omega)]; rfl⟩
      constructor
      · rintro ⟨h3, h4⟩; exact ⟨by omega, h4⟩
      · rintro ⟨h3, h4⟩
        by_cases e2 : v = i
        · subst e2; rw [idx_get (by omega)] at h4; injection h4 with h4; exact absurd h4 e
        · exact ⟨by omega, h4⟩
  · rintro k s hq
    rw [depgraph_sort.l0, if_neg (by simp only [decide_eq_true_eq]; omega)]
    exact ⟨s, rfl, hq.congr (fun v v0 v1 => ⟨fun h => h.2, fun h => ⟨v1, h⟩⟩)⟩

theorem sort_l2 {n : Nat} {ls : List api_Link} (g : GoodG n ls) {out : List Int} (hr : Run n ls out) {x : Int} (hx : least n ls out = some x) {cnt q : List Int} (hc : cnt.length = n) (hcv : ∀ v : Int, 0 ≤ v → v < n → idx cnt v = some (rem ls out v : Int)) (hq : Que n q (fun v => v ∉ out ++ [x] ∧ idx cnt v = some 0)) :
    ∃ cnt' q', depgraph_sort.l2 (out ++ [x]) (consOf ls x) FUEL cnt q 0 = some (.nxt (cnt', q', out ++ [x])) ∧ cnt'.length = n ∧ (∀ v : Int, 0 ≤ v → v < n → idx cnt' v = some (rem ls (out ++ [x]) v : Int)) ∧ Que n q' (fun v => v ∉ out ++ [x] ∧ idx cnt' v = some 0) := by
  have hn := g.n128
  have hl := g.len
  have hcl := consOf_le ls x
  obtain ⟨x0, x1, hfree, _⟩ := least_some hx
  obtain ⟨hxo, hxs⟩ := free_iff.1 hfree
  have hmem : ∀ c ∈ consOf ls x, (0 ≤ c ∧ c < n) ∧ c ∉ out ++ [x] := by
    intro c hc
    have hm := mem_consOf.1 hc
    refine ⟨g.c0 _ hm, fun h => ?_⟩
    rcases List.mem_append.1 h with h | h
    · exact hxo (hr.facts.2.2 _ hm h)
    · simp only [List.mem_singleton] at h
      exact hxo (hxs _ hm h)
  refine loop_c (L := fun k (s : List Int × List Int) i => depgraph_sort.l2 (out ++ [x]) (consOf ls x) k s.1 s.2 i) (consOf ls x).length
    (fun i s => s.1.length = n ∧ (∀ v : Int, 0 ≤ v → v < n → idx s.1 v = some ((rem ls (out ++ [x]) v + ((consOf ls x).drop i).count v : Nat) : Int)) ∧ Que n s.2 (fun v => v ∉ out ++ [x] ∧ idx s.1 v = some 0))
    (fun o => ∃ cnt' q', o = some (.nxt (cnt', q', out ++ [x])) ∧ cnt'.length = n ∧ (∀ v : Int, 0 ≤ v → v < n → idx cnt' v = some (rem ls (out ++ [x]) v : Int)) ∧ Que n q' (fun v => v ∉ out ++ [x] ∧ idx cnt' v = some 0)) ?_ ?_ FUEL 0 (cnt, q) (Nat.zero_le _) (FUEL_pos (by omega)) ⟨hc, fun v v0 v1 => by rw [hcv v v0 v1, rem_split hxo]; rfl, hq⟩
  · rintro k ⟨cn, qq⟩ i hi ⟨i1, i2, i3⟩
    simp only at i1 i2 i3 ⊢
    obtain ⟨⟨c0, c1⟩, co⟩ := hmem _ (List.getElem_mem hi)
    rw [depgraph_sort.l2, if_pos (by simp; omega), idx_get hi]
    simp only [Option.bind_some]
    generalize hcc : (consOf ls x)[i] = c at *
    have hdrop : (consOf ls x).drop i = c :: (consOf ls x).drop (i + 1) := by rw [List.drop_eq_getElem_cons hi, hcc]
    have hcur := i2 c c0 c1
    have hrle := rem_le ls (out ++ [x]) c
    have hcle : ((consOf ls x).drop (i + 1)).count c ≤ (consOf ls x).length := Nat.le_trans List.count_le_length (by simp)
    rw [hdrop, List.count_cons_self] at hcur
    rw [hcur]
    simp only [Option.bind_some]
    have e1 : wi (((rem ls (out ++ [x]) c + (((consOf ls x).drop (i + 1)).count c + 1) : Nat) : Int) - 1) = ((rem ls (out ++ [x]) c + ((consOf ls x).drop (i + 1)).count c : Nat) : Int) := by
      rw [wi_id (by omega) (by omega)]; omega
    rw [e1]
    have hnew : ∀ v : Int, 0 ≤ v → v < n → idx (upd cn c ((rem ls (out ++ [x]) c + ((consOf ls x).drop (i + 1)).count c : Nat) : Int)) v = some ((rem ls (out ++ [x]) v + ((consOf ls x).drop (i + 1)).count v : Nat) : Int) := by
      intro v v0 v1
      rw [idx_upd (xs := cn) c0 v0 (by omega)]
      by_cases e : c = v
      · subst e; rw [if_pos rfl]
      · rw [if_neg e, i2 v v0 v1, hdrop, List.count_cons_of_ne e]
    rw [hnew c c0 c1]
    simp only [Option.bind_some]
    have hne : ∀ v, v ≠ c → 0 ≤ v → v < (n : Int) → (idx (upd cn c ((rem ls (out ++ [x]) c + ((consOf ls x).drop (i + 1)).count c : Nat) : Int)) v = some 0 ↔ idx cn v = some 0) := by
      intro v hv v0 v1
      rw [idx_upd (xs := cn) c0 v0 (by omega), if_neg (fun e => hv e.symm)]
    have hpos : idx cn c ≠ some 0 := by
      rw [hcur]; intro h; injection h with h; omega
    by_cases hz : (rem ls (out ++ [x]) c + ((consOf ls x).drop (i + 1)).count c) = 0
    · rw [if_pos (by rw [hz]; rfl)]
      obtain ⟨q', p1, p2⟩ := i3.push hn c0 c1 (fun h => hpos h.2)
      rw [p1]
      refine .inl ⟨(upd cn c ((rem ls (out ++ [x]) c + ((consOf ls x).drop (i + 1)).count c : Nat) : Int), q'), ⟨by rw [upd_length]; exact i1, hnew, p2.congr (fun v v0 v1 => ?_)⟩, by rw [wi_succ (by omega)]; rfl⟩
      by_cases e : v = c
      · subst e
        refine ⟨fun _ => ⟨co, by rw [hnew v c0 c1, hz]; rfl⟩, fun _ => .inl rfl⟩
      · constructor
        · rintro (h | ⟨h1, h2⟩)
          · exact absurd h e
          · exact ⟨h1, (hne v e v0 v1).2 h2⟩
        · rintro ⟨h1, h2⟩; exact .inr ⟨h1, (hne v e v0 v1).1 h2⟩
    · rw [if_neg (by simp only [beq_iff_eq]; omega)]
      refine .inl ⟨(upd cn c ((rem ls (out ++ [x]) c + ((consOf ls x).drop (i + 1)).count c : Nat) : Int), qq), ⟨by rw [upd_length]; exact i1, hnew, i3.congr (fun v v0 v1 => ?_)⟩, by rw [wi_succ (by omega)]; rfl⟩
      by_cases e : v = c
      · subst e
        refine ⟨fun h => absurd h.2 hpos, fun h => ?_⟩
        have h2 := h.2
        rw [hnew v c0 c1] at h2
        injection h2 with h2; omega
      · exact ⟨fun h => ⟨h.1, (hne v e v0 v1).2 h.2⟩, fun h => ⟨h.1, (hne v e v0 v1).1 h.2⟩⟩
  · rintro k ⟨cn, qq⟩ ⟨i1, i2, i3⟩
    simp only at i1 i2 i3 ⊢
    rw [depgraph_sort.l2, if_neg (by simp)]
    refine ⟨cn, qq, rfl, i1, fun v v0 v1 => ?_, i3⟩
    rw [i2 v v0 v1, List.drop_length]; rfl

theorem sort_ok {n : Nat} {ls : List api_Link} (g : GoodG n ls) : depgraph_sort.f (n : Int) ls = some (ord n ls) := by
  have hn := g.n128
  unfold depgraph_sort.f
  obtain ⟨adj, cnt, ha, hal, hcl, hac⟩ := adjacent_ok g
  rw [ha]
  simp only [Option.bind_some]
  obtain ⟨q, h1, h2⟩ := sort_l0 (n := n) hn (adj := adj) (cnt := cnt) hcl
  rw [h1]
  simp only [Option.bind_some]
  have key : depgraph_sort.l1 (adj, cnt) FUEL cnt q [] = some (ord n ls) := by
    refine loop_m (L := fun k (s : List Int × List Int × List Int) => depgraph_sort.l1 (adj, cnt) k s.1 s.2.1 s.2.2) (fun s => Run n ls s.2.2 ∧ s.1.length = n ∧ (∀ v : Int, 0 ≤ v → v < n → idx s.1 v = some (rem ls s.2.2 v : Int)) ∧ Que n s.2.1 (fun v => v ∉ s.2.2 ∧ idx s.1 v = some 0))
      (fun s => n - s.2.2.length) (fun o => o = some (ord n ls)) ?_ FUEL (cnt, q, []) ⟨.nil, hcl, fun v v0 v1 => (hac v v0 v1).2, h2.congr (fun v _ _ => by simp)⟩ (FUEL_pos (by show n - 0 ≤ _; omega))
    rintro k ⟨cn, qq, out⟩ ⟨i1, i2, i3, i4⟩
    simp only at i1 i2 i3 i4 ⊢
    have hlen := i1.length_le
    have hql := i4.len
    have hiff : ∀ v : Int, 0 ≤ v → v < n → ((v ∉ out ∧ idx cn v = some 0) ↔ free ls out v = true) := by
      intro v v0 v1
      rw [free_rem, i3 v v0 v1]
      constructor
      · rintro ⟨h1, h2⟩; injection h2 with h2; exact ⟨h1, by omega⟩
      · rintro ⟨h1, h2⟩; exact ⟨h1, by rw [h2]; rfl⟩
    rw [depgraph_sort.l1]
    by_cases h0 : 0 < qq.length
    · rw [if_pos (by simp; omega)]
      obtain ⟨q', x, p1, p2, p3, p4⟩ := pop_ok qq (by omega) h0 i4.heap
      rw [p1]
      simp only [Option.bind_some, Bool.not_true, Bool.false_eq_true, if_false]
      have hxq : x ∈ qq := p2.mem_iff.1 (List.mem_cons_self ..)
      obtain ⟨x0, x1, hxf⟩ := (i4.mem x).1 hxq
      have hx : least n ls out = some x := least_of x0 x1 ((hiff x x0 x1).1 hxf) (fun u u0 ux => by
        rw [Bool.eq_false_iff]
        intro hf
        have := p4 u ((i4.mem u).2 ⟨u0, by omega, (hiff u u0 (by omega)).2 hf⟩)
        omega)
      rw [app_ok (by simp; omega)]
      simp only [Option.bind_some]
      rw [(hac x x0 x1).1]
      simp only [Option.bind_some]
      have hnd : (x :: q').Nodup := p2.nodup_iff.2 i4.nodup
      rw [List.nodup_cons] at hnd
      obtain ⟨cnt', q2, r1, r2, r3, r4⟩ := sort_l2 g i1 hx i2 i3 (q := q') ⟨p3, hnd.2, fun v => by
        have hv := i4.mem v
        rw [← p2.mem_iff, List.mem_cons] at hv
        constructor
        · intro hm
          obtain ⟨v0, v1, v2, v3⟩ := hv.1 (.inr hm)
          refine ⟨v0, v1, fun h => ?_, v3⟩
          rcases List.mem_append.1 h with h | h
          · exact v2 h
          · simp only [List.mem_singleton] at h; subst h; exact hnd.1 hm
        · rintro ⟨v0, v1, v2, v3⟩
          rw [List.mem_append, List.mem_singleton, not_or] at v2
          exact (hv.2 ⟨v0, v1, v2.1, v3⟩).resolve_left v2.2⟩
      rw [r1]
      have hr' := i1.snoc hx
      have := hr'.length_le
      simp only [List.length_append, List.length_singleton] at this
      exact .inl ⟨(cnt', q2, out ++ [x]), ⟨hr', r2, r3, r4⟩, by simp; omega, rfl⟩
    · rw [if_neg (by simp only [decide_eq_true_eq]; omega)]
      have hq0 : qq = [] := List.eq_nil_of_length_eq_zero (by omega)
      subst hq0
      refine .inr ?_
      have := i1.ord (least_none.2 (fun u u0 u1 => by
        rw [Bool.eq_false_iff]
        intro hf
        have := (i4.mem u).2 ⟨u0, u1, (hiff u u0 u1).2 hf⟩
        simp at this))
      rw [← this]
  rw [key]
  rfl

end Go.Proofs.Ythmjgadmadlpkaa.Sim

namespace Go.Proofs.Ythmjgadmadlpkaa.Sim
open Go
set_option linter.unusedVariables false

inductive Path (ls : List api_Link) : Int → Int → Prop where
  | one {a b : Int} (h : api_Link.mk a b ∈ ls) : Path ls a b
  | more {a b c : Int} (h : api_Link.mk a b ∈ ls) (h' : Path ls b c) : Path ls a c

theorem Path.trans {ls : List api_Link} {a b c : Int} (h : Path ls a b) (h' : Path ls b c) : Path ls a c := by
  induction h with
  | one h => exact .more h h'
  | more h _ ih => exact .more h (ih h')
theorem Path.first {ls : List api_Link} {a b : Int} (h : Path ls a b) : ∃ c, api_Link.mk a c ∈ ls ∧ (c = b ∨ Path ls c b) := by
  cases h with
  | one h => exact ⟨_, h, .inl rfl⟩
  | more h h' => exact ⟨_, h, .inr h'⟩
theorem Path.range {n : Nat} {ls : List api_Link} (g : GoodG n ls) {a b : Int} (h : Path ls a b) : (0 ≤ a ∧ a < n) ∧ (0 ≤ b ∧ b < n) := by
  induction h with
  | one h => exact ⟨g.c0 _ h, g.s0 _ h⟩
  | more h _ ih => exact ⟨g.c0 _ h, ih.2⟩

theorem ord_full {n : Nat} {ls : List api_Link} (h : ¬ (ord n ls).length < n) {v : Int} (h0 : 0 ≤ v) (h1 : v < n) : v ∈ ord n ls := by
  refine Classical.byContradiction fun hv => ?_
  have hr := (ord_run n ls).1.facts
  have := nodup_le (l := v :: ord n ls) (s := below n) (List.nodup_cons.2 ⟨hv, hr.1⟩) (fun x hx => by
    rcases List.mem_cons.1 hx with rfl | hx
    · exact mem_below.2 ⟨h0, h1⟩
    · exact mem_below.2 (hr.2.1 x hx))
  rw [below_length, List.length_cons] at this
  omega

/-! ### Check, Order -/

def ccode (p : Int) (ls : List api_Link) : Int := if vcode p ls = 0 then (if (ord p.toNat ls).length < p.toNat then 18 else 0) else vcode p ls

theorem ccode_good {n : Nat} {ls : List api_Link} (g : GoodG n ls) : ccode (n : Int) ls = if (ord n ls).length < n then 18 else 0 := by
  unfold ccode; rw [if_pos (good_vcode g)]; rfl

theorem check_ok (p : Int) (ls : List api_Link) (h : ls.length ≤ maxLen) : depgraph_Check.f p ls = some (ccode p ls) := by
  unfold depgraph_Check.f
  rw [validate_ok p ls h]
  simp only [Option.bind_some]
  by_cases hv : vcode p ls = 0
  · obtain ⟨n, rfl, g⟩ := vcode_good hv
    rw [if_neg (by simp [hv]), ccode_good g, sort_ok g]
    simp only [Option.bind_some]
    by_cases hc : (ord n ls).length < n
    · rw [if_pos (by simp; omega), if_pos hc]
    · rw [if_neg (by simp; omega), if_neg hc]
  · rw [if_pos (by simpa using hv)]
    unfold ccode; rw [if_neg hv]

end Go.Proofs.Ythmjgadmadlpkaa.Sim

namespace Go.Proofs.Ythmjgadmadlpkaa.Sim
open Go
set_option linter.unusedVariables false
set_option maxRecDepth 100000

/-- The first number below n with P, or -1. -/
def fst (n : Nat) (P : Int → Bool) : Int := ((below n).find? P).getD (-1)
theorem fst_none {n : Nat} {P : Int → Bool} (h : ∀ u : Int, 0 ≤ u → u < n → P u = false) : fst n P = -1 := by
  unfold fst
  have : (below n).find? P = none := List.find?_eq_none.2 fun x hx => by have := mem_below.1 hx; simp [h x this.1 this.2]
  rw [this]; rfl
theorem fst_some {n : Nat} {P : Int → Bool} {v : Int} (h0 : 0 ≤ v) (h1 : v < n) (h2 : P v = true) (h3 : ∀ u, 0 ≤ u → u < v → P u = false) : fst n P = v := by
  unfold fst
  rcases find_below P n with ⟨h, _⟩ | ⟨u, a, b, c, d, e⟩
  · rw [h v h0 h1] at h2; cases h2
  · rw [e]
    rcases Int.lt_trichotomy u v with x | x | x
    · rw [h3 u a x] at c; cases c
    · rw [x]; rfl
    · rw [d v h0 x] at h2; cases h2
theorem fst_spec {n : Nat} {P : Int → Bool} : (fst n P = -1 ∧ ∀ u : Int, 0 ≤ u → u < n → P u = false) ∨ (0 ≤ fst n P ∧ fst n P < n ∧ P (fst n P) = true ∧ ∀ u : Int, 0 ≤ u → u < fst n P → P u = false) := by
  unfold fst
  rcases find_below P n with ⟨h, e⟩ | ⟨u, a, b, c, d, e⟩
  · left; rw [e]; exact ⟨rfl, h⟩
  · right; rw [e]; exact ⟨a, b, c, d⟩
theorem fst_congr {n : Nat} {P Q : Int → Bool} (h : ∀ u : Int, 0 ≤ u → u < n → P u = Q u) : fst n P = fst n Q := by
  rcases fst_spec (n := n) (P := P) with ⟨e, a⟩ | ⟨a, b, c, d⟩
  · rw [e, fst_none fun u u0 u1 => by rw [← h u u0 u1]; exact a u u0 u1]
  · exact (fst_some a b (by rw [← h _ a b]; exact c) fun u u0 u1 => by rw [← h u u0 (by omega)]; exact d u u0 u1).symm

/-- A loop that looks for the first index with P. -/
theorem find_ok {ρ : Type} {L : Nat → Int → Option (Fl ρ Unit)} (n : Nat) (P : Int → Bool) (v : Int → ρ) (hn : n ≤ 9223372036854775807)
    (hL : ∀ k (i : Nat), i < n → L (k + 1) (i : Int) = if P i = true then some (.out (v i)) else L k ((i + 1 : Nat) : Int)) (hE : ∀ k, L (k + 1) (n : Int) = some (.nxt ())) :
    L FUEL 0 = some (if 0 ≤ fst n P then .out (v (fst n P)) else .nxt ()) := by
  refine loop_c (L := fun k (_ : Unit) i => L k i) n (fun i _ => ∀ u : Int, 0 ≤ u → u < i → P u = false) (fun o => o = some (if 0 ≤ fst n P then .out (v (fst n P)) else .nxt ())) ?_ ?_ FUEL 0 () (Nat.zero_le _) (FUEL_pos (by omega)) (fun u h0 h1 => by omega)
  · intro k s i hi hI
    rw [hL k i hi]
    by_cases hp : P i = true
    · rw [if_pos hp]
      refine .inr ?_
      rw [fst_some (by omega) (by omega) hp hI, if_pos (by omega)]
    · rw [if_neg hp]
      refine .inl ⟨(), fun u h0 h1 => ?_, rfl⟩
      by_cases e : u = i
      · subst e; simpa using hp
      · exact hI u h0 (by omega)
  · intro k s hI
    rw [hE, fst_none hI]; rfl

theorem index_ok' {xs : List Bool} {f : Int → Bool} (hl : xs.length ≤ 1000000) (h : ∀ i : Int, 0 ≤ i → i < xs.length → idx xs i = some (f i)) : slices_Index_bool_bool.f xs false = some (fst xs.length (fun i => !f i)) := by
  unfold slices_Index_bool_bool.f
  rw [find_ok (L := slices_Index_bool_bool.l0 xs false) xs.length (fun i => !f i) (fun i => i) (by omega) (fun k i hi => by
    rw [slices_Index_bool_bool.l0, if_pos (by simp; omega), h i (by omega) (by omega), Option.bind_some, wi_succ (by omega)]
    cases f i <;> rfl) (fun k => by rw [slices_Index_bool_bool.l0, if_neg (by simp)]), Option.bind_some]
  rcases fst_spec (n := xs.length) (P := fun i => !f i) with ⟨e, _⟩ | ⟨a, _⟩
  · rw [e]; rfl
  · rw [if_pos a]; rfl

theorem worker_ok {s : resume_scheduler} {f : Int → Int} (hl : s.free.length ≤ 1000000) (h : ∀ i : Int, 0 ≤ i → i < s.free.length → idx s.free i = some (f i)) : resume_scheduler_worker.f s = some (fst s.free.length (fun i => decide (f i ≤ s.now))) := by
  unfold resume_scheduler_worker.f slices_IndexFunc_uint64_uint64_worker_1.f
  rw [find_ok (L := slices_IndexFunc_uint64_uint64_worker_1.l0 s.free s) s.free.length (fun i => decide (f i ≤ s.now)) (fun i => i) (by omega) (fun k i hi => by
    rw [slices_IndexFunc_uint64_uint64_worker_1.l0, if_pos (by simp; omega), h i (by omega) (by omega), Option.bind_some, wi_succ (by omega)]
    unfold resume_scheduler_worker_1.f; rw [Option.bind_some]) (fun k => by rw [slices_IndexFunc_uint64_uint64_worker_1.l0, if_neg (by simp)]), Option.bind_some]
  rcases fst_spec (n := s.free.length) (P := fun i => decide (f i ≤ s.now)) with ⟨e, _⟩ | ⟨a, _⟩
  · rw [e]; rfl
  · rw [if_pos a]; rfl

theorem min_ok {xs : List Int} (hl : xs.length ≤ 1000000) (h0 : xs ≠ []) : ∃ m, slices_Min_uint64_uint64.f xs = some m ∧ m ∈ xs ∧ ∀ x ∈ xs, m ≤ x := by
  have hp : 0 < xs.length := List.length_pos_iff.2 h0
  unfold slices_Min_uint64_uint64.f
  rw [if_neg (by simp; omega), show (0 : Int) = ((0 : Nat) : Int) from rfl, idx_get hp, Option.bind_some]
  have key : ∃ m, slices_Min_uint64_uint64.l0 xs FUEL xs[0] ((1 : Nat) : Int) = some m ∧ m ∈ xs ∧ ∀ x ∈ xs, m ≤ x := by
    refine loop_c (L := fun k (s : Int) i => slices_Min_uint64_uint64.l0 xs k s i) xs.length (fun i s => s ∈ xs ∧ ∀ x ∈ xs.take i, s ≤ x) (fun o => ∃ m, o = some m ∧ m ∈ xs ∧ ∀ x ∈ xs, m ≤ x) ?_ ?_ FUEL 1 xs[0] (by omega) (FUEL_pos (by omega)) ⟨List.getElem_mem hp, fun x hx => ?_⟩
    · intro k s i hi hI
      obtain ⟨h1, h2⟩ := hI
      rw [slices_Min_uint64_uint64.l0, if_pos (by simp; omega), idx_get hi, Option.bind_some]
      refine .inl ⟨min s xs[i], ⟨?_, fun x hx => ?_⟩, by rw [wi_succ (by omega)]⟩
      · rcases Int.le_total s xs[i] with h | h
        · rw [Int.min_eq_left h]; exact h1
        · rw [Int.min_eq_right h]; exact List.getElem_mem hi
      · rw [List.take_succ_eq_append_getElem hi] at hx
        rcases List.mem_append.1 hx with h | h
        · have := h2 x h; omega
        · simp only [List.mem_singleton] at h; subst h; omega
    · intro k s hI
      rw [slices_Min_uint64_uint64.l0, if_neg (by simp)]
      rw [List.take_length] at hI
      exact ⟨s, rfl, hI.1, hI.2⟩
    · have : xs.take 1 = [xs[0]] := by rw [List.take_succ_eq_append_getElem hp]; simp
      rw [this] at hx
      simp only [List.mem_singleton] at hx; subst hx; exact Int.le_refl _
  obtain ⟨m, e1, e2⟩ := key
  exact ⟨m, by rw [show (1 : Int) = ((1 : Nat) : Int) from rfl, e1]; rfl, e2⟩

end Go.Proofs.Ythmjgadmadlpkaa.Sim

namespace Go.Proofs.Ythmjgadmadlpkaa.Sim
open Go
set_option linter.unusedVariables false
set_option maxRecDepth 100000

def RepV {α : Type} (n : Nat) (l : List α) (c : Int → α) : Prop := l.length = n ∧ ∀ i : Int, 0 ≤ i → i < n → idx l i = some (c i)
def fset {α : Type} (f : Int → α) (k : Int) (v : α) : Int → α := fun i => if i = k then v else f i
theorem fset_self {α : Type} (f : Int → α) (k : Int) (v : α) : fset f k v k = v := by simp [fset]
theorem RepV.set {α : Type} {n : Nat} {l : List α} {c : Int → α} (h : RepV n l c) {k : Int} (h0 : 0 ≤ k) (v : α) : RepV n (upd l k v) (fset c k v) := by
  refine ⟨by rw [upd_length]; exact h.1, fun i i0 i1 => ?_⟩
  rw [idx_upd_some h0 (h.2 i i0 i1)]
  unfold fset
  by_cases e : k = i
  · subst e; simp
  · simp [e, Ne.symm e]
theorem RepV.rep {α : Type} (n : Nat) (x : α) : RepV n (List.replicate n x) (fun _ => x) := ⟨by simp, fun i h0 h1 => idx_replicate h0 h1⟩
theorem RepV.congr {α : Type} {n : Nat} {l : List α} {c d : Int → α} (h : RepV n l c) (e : ∀ i : Int, 0 ≤ i → i < n → c i = d i) : RepV n l d := ⟨h.1, fun i i0 i1 => by rw [h.2 i i0 i1, e i i0 i1]⟩

/-- What has begun, the slots, when each worker is free, the time. -/
structure Ms where
  b : Int → Bool
  s : Int → api_Slot
  f : Int → Int
  t : Int
def over (m : Ms) (k : Int) : Bool := m.b k && decide ((m.s k).End ≤ m.t)
def rdy (ls : List api_Link) (m : Ms) (d : Int) : Bool := !m.b d && ls.all (fun l => !(l.Consumer == d) || over m l.Supplier)
def nextD (n : Nat) (ls : List api_Link) (m : Ms) : Int := fst n (rdy ls m)
def nextW (w : Nat) (m : Ms) : Int := fst w (fun i => decide (m.f i ≤ m.t))
structure RI (n w : Nat) (ls : List api_Link) (a : resume_scheduler) (m : Ms) : Prop where
  l : a.links = ls
  b : RepV n a.begun m.b
  s : RepV n a.slot m.s
  f : RepV w a.free m.f
  t : a.now = m.t

section
variable {n w : Nat} {ls : List api_Link} {a : resume_scheduler} {m : Ms}

theorem ready_ok (g : GoodG n ls) (h : RI n w ls a m) : resume_scheduler_ready.f a = some (nextD n ls m) := by
  have hn := g.n128
  have hll := g.len
  unfold resume_scheduler_ready.f slices_Clone_bool_bool.f
  rw [app_ok (by simp; have := h.b.1; omega), Option.bind_some, Option.bind_some, List.nil_append]
  have key : ∃ bl, resume_scheduler_ready.l0 a FUEL a.begun 0 = some bl ∧ RepV n bl (fun d => m.b d || ls.any (fun l => (l.Consumer == d) && !over m l.Supplier)) := by
    refine loop_c (L := fun k (s : List Bool) i => resume_scheduler_ready.l0 a k s i) ls.length (fun i s => RepV n s (fun d => m.b d || (ls.take i).any (fun l => (l.Consumer == d) && !over m l.Supplier)))
      (fun o => ∃ bl, o = some bl ∧ RepV n bl (fun d => m.b d || ls.any (fun l => (l.Consumer == d) && !over m l.Supplier))) ?_ ?_ FUEL 0 a.begun (Nat.zero_le _) (FUEL_pos (by omega)) (h.b.congr fun i _ _ => by simp)
    · intro k s i hi hI
      have hc := g.c0 _ (List.getElem_mem hi)
      have hs := g.s0 _ (List.getElem_mem hi)
      rw [resume_scheduler_ready.l0, h.l, if_pos (by simp; omega), idx_get hi, Option.bind_some, h.b.2 _ hs.1 hs.2, Option.bind_some]
      have e1 : (if (!m.b ls[i].Supplier) = true then some true else (idx a.slot ls[i].Supplier).bind fun x64 => some (decide (a.now < x64.End))) = some (!over m ls[i].Supplier) := by
        rw [h.s.2 _ hs.1 hs.2, h.t]
        unfold over
        cases m.b ls[i].Supplier
        · rfl
        · simp
          by_cases q : m.t < (m.s ls[i].Supplier).End <;> simp [q] <;> omega
      rw [e1, Option.bind_some]
      have hstep : ∀ d, (m.b d || (ls.take (i + 1)).any (fun l => (l.Consumer == d) && !over m l.Supplier)) = ((m.b d || (ls.take i).any (fun l => (l.Consumer == d) && !over m l.Supplier)) || ((ls[i].Consumer == d) && !over m ls[i].Supplier)) := fun d => by
        rw [List.take_succ_eq_append_getElem hi, List.any_append]; simp [Bool.or_assoc]
      by_cases q : (!over m ls[i].Supplier) = true
      · rw [if_pos q, hI.2 _ hc.1 hc.2, Option.bind_some, Option.bind_some]
        refine .inl ⟨upd s ls[i].Consumer true, ?_, by rw [wi_succ (by omega)]⟩
        refine (hI.set hc.1 true).congr fun d d0 d1 => ?_
        rw [hstep d, q]
        unfold fset
        by_cases e : d = ls[i].Consumer
        · simp [e]
        · simp [e, Ne.symm e]
      · rw [if_neg q, Option.bind_some]
        refine .inl ⟨s, hI.congr fun d d0 d1 => ?_, by rw [wi_succ (by omega)]⟩
        rw [hstep d]
        simp only [Bool.not_eq_true] at q
        rw [q]; simp
    · intro k s hI
      rw [resume_scheduler_ready.l0, h.l, if_neg (by simp)]
      rw [List.take_length] at hI
      exact ⟨s, rfl, hI⟩
  obtain ⟨bl, e1, e2⟩ := key
  have hb := e2.1
  rw [e1, Option.bind_some, index_ok' (by omega) (fun i i0 i1 => e2.2 i i0 (by omega)), Option.bind_some, hb]
  unfold nextD
  congr 1
  refine fst_congr fun d d0 d1 => ?_
  unfold rdy
  rw [Bool.not_or, List.not_any_eq_all_not]
  congr 1
  congr 1
  funext l
  cases (l.Consumer == d) <;> cases over m l.Supplier <;> rfl

theorem delete_ok {xs : List Int} {s : resume_scheduler} (hl : xs.length ≤ 1000000) : slices_DeleteFunc_uint64_uint64_advance_1.f xs s = some (xs.filter (fun x => !decide (x ≤ s.now))) := by
  unfold slices_DeleteFunc_uint64_uint64_advance_1.f slices_IndexFunc_uint64_uint64_advance_1.f
  have hf : ∀ i : Int, 0 ≤ i → i < xs.length → idx xs i = some (xs.getD i.toNat 0) := fun i i0 i1 => by
    obtain ⟨k, rfl⟩ := Int.eq_ofNat_of_zero_le i0
    have : k < xs.length := by omega
    rw [idx_get this]; simp [this]
  rw [find_ok (L := slices_IndexFunc_uint64_uint64_advance_1.l0 xs s) xs.length (fun i => decide (xs.getD i.toNat 0 ≤ s.now)) (fun i => i) (by omega) (fun k i hi => by
    rw [slices_IndexFunc_uint64_uint64_advance_1.l0, if_pos (by simp; omega), hf i (by omega) (by omega), Option.bind_some, wi_succ (by omega)]
    unfold resume_scheduler_advance_1.f; rw [Option.bind_some]) (fun k => by rw [slices_IndexFunc_uint64_uint64_advance_1.l0, if_neg (by simp)]), Option.bind_some]
  rcases fst_spec (n := xs.length) (P := fun i => decide (xs.getD i.toNat 0 ≤ s.now)) with ⟨e, hno⟩ | ⟨i0, i1, hat, hlo⟩
  · rw [e]
    have : xs.filter (fun x => !decide (x ≤ s.now)) = xs := List.filter_eq_self.2 fun x hx => by
      obtain ⟨k, hk, rfl⟩ := List.getElem_of_mem hx
      have := hno k (by omega) (by omega)
      simp [hk] at this
      simp; omega
    rw [this]; rfl
  · generalize fst xs.length (fun i => decide (xs.getD i.toNat 0 ≤ s.now)) = i at *
    obtain ⟨i, rfl⟩ := Int.eq_ofNat_of_zero_le i0
    rw [if_pos (by omega)]
    simp only [Fl.go, Option.bind_some]
    have hpre : ∀ k, k ≤ i → (xs.take k).filter (fun x => !decide (x ≤ s.now)) = xs.take k := fun k hk => List.filter_eq_self.2 fun x hx => by
      obtain ⟨q, hq, rfl⟩ := List.getElem_of_mem hx
      simp only [List.length_take] at hq
      have := hlo q (by omega) (by omega)
      have hq2 : q < xs.length := by omega
      simp [hq2] at this
      simp <;> omega
    rw [if_neg (by simp)]
    have key : ∃ zs k, slices_DeleteFunc_uint64_uint64_advance_1.l0 s FUEL xs (i : Int) ((i + 1 : Nat) : Int) = some (zs, ((k : Nat) : Int)) ∧ zs.length = xs.length ∧ k ≤ xs.length ∧ zs.take k = xs.filter (fun x => !decide (x ≤ s.now)) := by
      refine loop_c (L := fun fu (z : List Int × Nat) j => slices_DeleteFunc_uint64_uint64_advance_1.l0 s fu z.1 (z.2 : Int) j) xs.length
        (fun j z => z.1.length = xs.length ∧ z.2 < j ∧ z.1.take z.2 = (xs.take j).filter (fun x => !decide (x ≤ s.now)) ∧ z.1.drop j = xs.drop j)
        (fun o => ∃ zs k, o = some (zs, ((k : Nat) : Int)) ∧ zs.length = xs.length ∧ k ≤ xs.length ∧ zs.take k = xs.filter (fun x => !decide (x ≤ s.now))) ?_ ?_ FUEL (i + 1) (xs, i) (by omega) (FUEL_pos (by omega)) ⟨rfl, Nat.lt_succ_self _, ?_, rfl⟩
      · rintro fu ⟨z, q⟩ j hj ⟨h1, h2, h3, h4⟩
        simp only at h1 h2 h3 h4 ⊢
        have hz : z[j]'(by omega) = xs[j] := by
          have := congrArg (fun l => l[0]?) h4
          simp [List.getElem?_drop, hj, h1] at this
          exact this
        have hd : z.drop (j + 1) = xs.drop (j + 1) := by
          have := congrArg (fun l => l.drop 1) h4
          simpa [List.drop_drop] using this
        rw [slices_DeleteFunc_uint64_uint64_advance_1.l0, if_pos (by simp; omega), idx_get (by omega : j < z.length), Option.bind_some]
        unfold resume_scheduler_advance_1.f
        rw [Option.bind_some, hz]
        by_cases c : xs[j] ≤ s.now
        · rw [if_neg (by simp [c]), Option.bind_some]
          refine .inl ⟨(z, q), ⟨h1, by omega, ?_, hd⟩, by rw [wi_succ (by omega)]⟩
          rw [List.take_succ_eq_append_getElem hj, List.filter_append, h3]; simp [c]
        · rw [if_pos (by simp [c]), idx_get (by omega : q < z.length), Option.bind_some, Option.bind_some]
          refine .inl ⟨(upd z (q : Int) xs[j], q + 1), ⟨by rw [upd_length]; exact h1, by omega, ?_, ?_⟩, by simp only; rw [wi_succ (by omega), wi_succ (by omega)]⟩
          · rw [List.take_succ_eq_append_getElem hj, List.filter_append, ← h3]
            have hq : q < z.length := by omega
            simp only [upd, Int.toNat_natCast]
            rw [List.take_succ_eq_append_getElem (by simp; omega), List.getElem_set_self, List.take_set_of_le (Nat.le_refl _)]
            simp [c]
          · simp only [upd, Int.toNat_natCast]
            rw [List.drop_set_of_lt (by omega)]; exact hd
      · rintro fu ⟨z, q⟩ ⟨h1, h2, h3, h4⟩
        simp only at h1 h2 h3 h4 ⊢
        rw [slices_DeleteFunc_uint64_uint64_advance_1.l0, h1, if_neg (by simp)]
        rw [List.take_length] at h3
        exact ⟨z, q, rfl, h1, by omega, h3⟩
      · have hii : i < xs.length := by omega
        have hat' : xs[i] ≤ s.now := by simpa [hii] using hat
        simp only
        rw [List.take_succ_eq_append_getElem hii, List.filter_append, hpre i (Nat.le_refl _)]
        simp [hat']
    rw [wi_succ (by omega)]
    obtain ⟨zs, k, e1, e2, e3, e4⟩ := key
    rw [e1, Option.bind_some]
    simp only
    rw [slc_back (by omega), Option.bind_some]
    have hcl : (clr zs (k : Int) 0).length = zs.length := clr_length (by omega)
    rw [slc_front (by omega), Option.bind_some]
    congr 1
    rw [← e4]
    unfold clr
    rw [List.take_append_of_le_length (by simp; omega)]
    simp only [Int.toNat_natCast]
    rw [List.take_take, Nat.min_self]
end
end Go.Proofs.Ythmjgadmadlpkaa.Sim

namespace Go.Proofs.Ythmjgadmadlpkaa.Sim
open Go
set_option linter.unusedVariables false
set_option maxRecDepth 100000

def lowest (l : List Int) : Option Int := l.find? (fun m => l.all (fun x => decide (m ≤ x)))
theorem lowest_of {l : List Int} {m : Int} (h : m ∈ l) (h2 : ∀ x ∈ l, m ≤ x) : lowest l = some m := by
  unfold lowest
  rcases hf : l.find? (fun m => l.all (fun x => decide (m ≤ x))) with _ | y
  · have := List.find?_eq_none.1 hf m h
    simp at this
    obtain ⟨x, hx, hlt⟩ := this
    have := h2 x hx; omega
  · have h3 := List.find?_some hf
    have h4 := List.mem_of_find?_eq_some hf
    simp only [List.all_eq_true, decide_eq_true_eq] at h3
    have a := h3 m h
    have b := h2 y h4
    rw [show y = m by omega]
theorem RepV.eq {α : Type} {n : Nat} {l : List α} {c : Int → α} (h : RepV n l c) : l = (below n).map c := by
  apply List.ext_getElem
  · simp [below_length, h.1]
  · intro i h1 h2
    have := h.2 i (by omega) (by have := h.1; omega)
    rw [idx_get h1] at this
    have e : (below n)[i]'(by rw [below_length]; have := h.1; omega) = (i : Int) := by simp [below]
    rw [List.getElem_map, e]
    exact Option.some.inj this

def running (w : Nat) (m : Ms) : List Int := ((below w).map m.f).filter (fun x => !decide (x ≤ m.t))
def place (du : Int → Int) (m : Ms) (d k : Int) : Ms := ⟨fset m.b d true, fset m.s d (api_Slot.mk d k m.t (m.t + du d)), fset m.f k (m.t + du d), m.t⟩
def nxt (n w : Nat) (ls : List api_Link) (du : Int → Int) (z : Ms × List api_Slot) : Option (Ms × List api_Slot) :=
  if 0 ≤ nextD n ls z.1 ∧ 0 ≤ nextW w z.1 then some (place du z.1 (nextD n ls z.1) (nextW w z.1), z.2 ++ [api_Slot.mk (nextD n ls z.1) (nextW w z.1) z.1.t (z.1.t + du (nextD n ls z.1))])
  else match lowest (running w z.1) with
    | none => none
    | some t => some (⟨z.1.b, z.1.s, z.1.f, t⟩, z.2)
def it (n w : Nat) (ls : List api_Link) (du : Int → Int) : Nat → Ms × List api_Slot → Ms × List api_Slot
  | 0, z => z
  | k + 1, z => match nxt n w ls du z with
    | none => z
    | some z' => it n w ls du k z'
theorem advance_ok {n w : Nat} {ls : List api_Link} {a : resume_scheduler} {m : Ms} (h : RI n w ls a m) (hw : w ≤ 1000) :
    resume_scheduler_advance.f a = some (match lowest (running w m) with | none => (a, false) | some t => (resume_scheduler.mk a.links a.slot a.begun a.free t, true)) := by
  have hl := h.f.1
  have he := h.f.eq
  unfold resume_scheduler_advance.f slices_Clone_uint64_uint64.f
  rw [app_ok (by simp; omega), Option.bind_some, Option.bind_some, List.nil_append, delete_ok (by omega), Option.bind_some]
  have hr : a.free.filter (fun x => !decide (x ≤ a.now)) = running w m := by rw [he, h.t]; rfl
  rw [hr]
  by_cases h0 : running w m = []
  · rw [h0]; rfl
  · rw [if_neg (by simp; exact h0)]
    have hrl : (running w m).length ≤ 1000000 := by rw [← hr]; exact Nat.le_trans (List.length_filter_le _ _) (by omega)
    obtain ⟨t, e1, e2, e3⟩ := min_ok hrl h0
    rw [e1, lowest_of e2 e3]; rfl
end Go.Proofs.Ythmjgadmadlpkaa.Sim

namespace Go.Proofs.Ythmjgadmadlpkaa.Sim
open Go
set_option linter.unusedVariables false
set_option maxRecDepth 100000

theorem it_succ {n w : Nat} {ls : List api_Link} {du : Int → Int} : ∀ (k : Nat) (z z' : Ms × List api_Slot), nxt n w ls du (it n w ls du k z) = some z' → it n w ls du (k + 1) z = z'
  | 0, z, z', h => by simp only [it] at h; rw [it, h]; rfl
  | k + 1, z, z', h => by
    rw [it] at h ⊢
    cases hz : nxt n w ls du z with
    | none => rw [hz] at h; simp only at h; rw [hz] at h; cases h
    | some y => rw [hz] at h; exact it_succ k y z' h

theorem count_upd {l : List Bool} {k : Int} (h : idx l k = some false) : (upd l k true).count false + 1 = l.count false := by
  obtain ⟨i, rfl⟩ := Int.eq_ofNat_of_zero_le (idx_lo h)
  have hi : i < l.length := by have := idx_hi h; omega
  rw [idx_get hi] at h
  have hv : l[i] = false := Option.some.inj h
  unfold upd
  simp only [Int.toNat_natCast]
  rw [List.count_set hi, hv]
  have : 0 < l.count false := List.count_pos_iff.2 (hv ▸ List.getElem_mem hi)
  simp; omega

/-- What the program's state tells of the machine's after some steps. -/
structure Go1 (n w : Nat) (ls : List api_Link) (du : Int → Int) (z0 : Ms × List api_Slot) (s : resume_scheduler × List api_Slot) (m : Ms) (j : Nat) : Prop where
  r : RI n w ls s.1 m
  it : it n w ls du j z0 = (m, s.2)
  c : s.2.length + s.1.begun.count false = n
  t : 0 ≤ m.t ∧ m.t ≤ s.2.length * 9007199254740992
  f : ∀ i, 0 ≤ m.f i ∧ m.f i ≤ s.2.length * 9007199254740992

theorem filter_set_le {α : Type} (p : α → Bool) (x : α) (l : List α) : ∀ (i : Nat), ((l.set i x).filter p).length ≤ (l.filter p).length + 1 := by
  induction l with
  | nil => intro i; simp
  | cons a t ih =>
    intro i
    cases i with
    | zero =>
      rw [List.set_cons_zero, List.filter_cons, List.filter_cons]
      by_cases h1 : p x = true <;> by_cases h2 : p a = true <;> simp [h1, h2] <;> omega
    | succ i =>
      have := ih i
      rw [List.set_cons_succ, List.filter_cons, List.filter_cons]
      by_cases h2 : p a = true <;> simp [h2] <;> omega
theorem lowest_spec {l : List Int} {m : Int} (h : lowest l = some m) : m ∈ l ∧ ∀ x ∈ l, m ≤ x := by
  unfold lowest at h
  refine ⟨List.mem_of_find?_eq_some h, ?_⟩
  have := List.find?_some h
  simpa using this
theorem worker_ok' {n w : Nat} {ls : List api_Link} {a : resume_scheduler} {m : Ms} (h : RI n w ls a m) (hw : w ≤ 1000) : resume_scheduler_worker.f a = some (nextW w m) := by
  have hl := h.f.1
  rw [worker_ok (s := a) (f := m.f) (by omega) (fun i i0 i1 => h.f.2 i i0 (by omega)), hl, h.t]; rfl

theorem sched_ok {n w : Nat} {ls : List api_Link} (g : GoodG n ls) {dl : List Int} {du : Int → Int} (hd : RepV n dl du) (hdu : ∀ i, 0 ≤ du i ∧ du i ≤ 9007199254740992) (hw : w ≤ 16) {z0 : Ms × List api_Slot} {a0 : resume_scheduler} {m0 : Ms}
    (h0 : Go1 n w ls du z0 (a0, []) m0 0) : ∃ j s m, resume_Schedule.l0 dl FUEL a0 [] = some (s.2, 0) ∧ Go1 n w ls du z0 s m j ∧ nxt n w ls du (m, s.2) = none := by
  have hn := g.n128
  refine loop_m (L := fun k (s : resume_scheduler × List api_Slot) => resume_Schedule.l0 dl k s.1 s.2) (fun s => ∃ m j, Go1 n w ls du z0 s m j) (fun s => 2 * s.1.begun.count false + (s.1.free.filter (fun x => !decide (x ≤ s.1.now))).length)
    (fun o => ∃ j s m, o = some (s.2, 0) ∧ Go1 n w ls du z0 s m j ∧ nxt n w ls du (m, s.2) = none) ?_ FUEL (a0, []) ⟨m0, 0, h0⟩ ?_
  · rintro k ⟨a, out⟩ ⟨m, j, G⟩
    have hR := G.r
    have hc := G.c
    have ht := G.t
    simp only at hR hc ht ⊢
    rw [resume_Schedule.l0, ready_ok g hR, Option.bind_some, worker_ok' hR (by omega), Option.bind_some]
    by_cases hp : 0 ≤ nextD n ls m ∧ 0 ≤ nextW w m
    · have hd0 : nextD n ls m < n ∧ m.b (nextD n ls m) = false := by
        rcases fst_spec (n := n) (P := rdy ls m) with ⟨e, _⟩ | ⟨_, b, c, _⟩
        · unfold nextD at hp; omega
        · refine ⟨b, ?_⟩
          unfold rdy at c
          simp only [Bool.and_eq_true, Bool.not_eq_true'] at c
          exact c.1
      have hw0 : nextW w m < w := by
        rcases fst_spec (n := w) (P := fun i => decide (m.f i ≤ m.t)) with ⟨e, _⟩ | ⟨_, b, c, _⟩
        · unfold nextW at hp; omega
        · exact b
      have hnx : nxt n w ls du (m, out) = some (place du m (nextD n ls m) (nextW w m), out ++ [api_Slot.mk (nextD n ls m) (nextW w m) m.t (m.t + du (nextD n ls m))]) := by unfold nxt; rw [if_pos hp]
      obtain ⟨p1, p2⟩ := hp
      obtain ⟨q1, q2⟩ := hd0
      have hdd := hdu (nextD n ls m)
      have hG := G.f
      simp only at hG
      generalize nextD n ls m = d at *
      generalize nextW w m = v at *
      have hcu := count_upd (l := a.begun) (k := d) (by rw [hR.b.2 _ p1 q1, q2])
      have hwu : wu (m.t + du d) = m.t + du d := wu_id (by omega) (by omega)
      have hs' := hR.s.set p1 (api_Slot.mk d v m.t (m.t + du d))
      rw [if_pos (by simp [p1, p2]), hR.b.2 _ p1 q1, Option.bind_some, hd.2 _ p1 q1, Option.bind_some, hR.s.2 _ p1 q1, Option.bind_some, hR.t, hwu, hs'.2 _ p1 q1, Option.bind_some, hR.f.2 _ p2 hw0, Option.bind_some, fset_self, app_ok (by simp; omega), Option.bind_some]
      have hlen : ((out ++ [api_Slot.mk d v m.t (m.t + du d)]).length : Int) = out.length + 1 := by simp
      refine .inl ⟨(resume_scheduler.mk a.links (upd a.slot d (api_Slot.mk d v m.t (m.t + du d))) (upd a.begun d true) (upd a.free v (m.t + du d)) m.t, out ++ [api_Slot.mk d v m.t (m.t + du d)]), ⟨place du m d v, j + 1, ⟨⟨hR.l, hR.b.set p1 true, hs', hR.f.set p2 _, rfl⟩, it_succ _ _ _ (by rw [G.it]; exact hnx), ?_, ?_, ?_⟩⟩, ?_, rfl⟩
      · simp only [List.length_append, List.length_singleton]; omega
      · simp only; rw [hlen]; unfold place; simp only; omega
      · intro i; simp only; rw [hlen]; unfold place fset; have := hG i; simp only; split <;> omega
      · simp only
        have hle : ((upd a.free v (m.t + du d)).filter (fun x => !decide (x ≤ m.t))).length ≤ (a.free.filter (fun x => !decide (x ≤ m.t))).length + 1 := by
          exact filter_set_le _ _ _ _
        omega
    · rw [if_neg (by simpa using hp), advance_ok hR (by omega)]
      have hnx : nxt n w ls du (m, out) = match lowest (running w m) with | none => none | some t => some (⟨m.b, m.s, m.f, t⟩, out) := by unfold nxt; rw [if_neg hp] <;> rfl
      cases hlow : lowest (running w m) with
      | none =>
        rw [hlow] at hnx
        exact .inr ⟨j, (a, out), m, rfl, G, hnx⟩
      | some t =>
        rw [hlow] at hnx
        obtain ⟨hm1, hm2⟩ := lowest_spec hlow
        have he := hR.f.eq
        have hmem : t ∈ a.free.filter (fun x => !decide (x ≤ a.now)) := by rw [he, hR.t]; exact hm1
        obtain ⟨hf1, hf2⟩ := List.mem_filter.1 hmem
        have htn : a.now < t := by simpa using hf2
        have htb : 0 ≤ t ∧ t ≤ (out.length : Int) * 9007199254740992 := by
          rw [he] at hf1
          obtain ⟨i, _, rfl⟩ := List.mem_map.1 hf1
          exact G.f i
        refine .inl ⟨(resume_scheduler.mk a.links a.slot a.begun a.free t, out), ⟨⟨m.b, m.s, m.f, t⟩, j + 1, ⟨⟨hR.l, hR.b, hR.s, hR.f, rfl⟩, it_succ _ _ _ (by rw [G.it]; exact hnx), hc, htb, G.f⟩⟩, ?_, rfl⟩
        simp only
        have hlt : (a.free.filter (fun x => !decide (x ≤ t))).length < (a.free.filter (fun x => !decide (x ≤ a.now))).length := by
          have e : a.free.filter (fun x => !decide (x ≤ t)) = (a.free.filter (fun x => !decide (x ≤ a.now))).filter (fun x => !decide (x ≤ t)) := by
            rw [List.filter_filter]
            apply List.filter_congr
            intro x _
            by_cases q : x ≤ t
            · simp [q]
            · simp [q]; omega
          rw [e]
          exact List.length_filter_lt_length_iff_exists.2 ⟨t, hmem, by simp⟩
        omega
  · have h1 := h0.c
    have h2 := h0.r.f.1
    have h3 : (a0.free.filter (fun x => !decide (x ≤ a0.now))).length ≤ a0.free.length := List.length_filter_le _ _
    simp only [List.length_nil] at h1 ⊢
    simp only at h2
    exact FUEL_pos (by omega)
end Go.Proofs.Ythmjgadmadlpkaa.Sim

namespace Go.Proofs.Ythmjgadmadlpkaa.Sim
open Go
set_option linter.unusedVariables false
set_option maxRecDepth 100000

theorem fst_lt {n : Nat} {P : Int → Bool} (h : 0 ≤ fst n P) : fst n P < n ∧ P (fst n P) = true ∧ ∀ u : Int, 0 ≤ u → u < fst n P → P u = false := by
  rcases fst_spec (n := n) (P := P) with ⟨e, _⟩ | ⟨_, b, c, d⟩
  · omega
  · exact ⟨b, c, d⟩
theorem fst_neg {n : Nat} {P : Int → Bool} (h : ¬ 0 ≤ fst n P) : ∀ u : Int, 0 ≤ u → u < n → P u = false := by
  rcases fst_spec (n := n) (P := P) with ⟨_, a⟩ | ⟨a, _⟩
  · exact a
  · exact absurd a h
theorem over_iff {m : Ms} {k : Int} : over m k = true ↔ m.b k = true ∧ (m.s k).End ≤ m.t := by unfold over; simp
theorem rdy_iff {ls : List api_Link} {m : Ms} {d : Int} : rdy ls m d = true ↔ m.b d = false ∧ ∀ l ∈ ls, l.Consumer = d → m.b l.Supplier = true ∧ (m.s l.Supplier).End ≤ m.t := by
  unfold rdy
  simp only [Bool.and_eq_true, Bool.not_eq_true', List.all_eq_true, Bool.or_eq_true, beq_eq_false_iff_ne, over_iff]
  constructor
  · rintro ⟨h1, h2⟩
    exact ⟨h1, fun l hl hc => (h2 l hl).resolve_left (fun hn => hn hc)⟩
  · rintro ⟨h1, h2⟩
    refine ⟨h1, fun l hl => ?_⟩
    by_cases hc : l.Consumer = d
    · exact .inr (h2 l hl hc)
    · exact .inl hc
theorem rdy_not {ls : List api_Link} {m : Ms} {d : Int} (h : rdy ls m d = false) (hb : m.b d = false) : ∃ l ∈ ls, l.Consumer = d ∧ (m.b l.Supplier = true → m.t < (m.s l.Supplier).End) := by
  refine Classical.byContradiction fun hno => ?_
  have : rdy ls m d = true := rdy_iff.2 ⟨hb, fun l hl hc => by
    refine Classical.byContradiction fun hn => hno ⟨l, hl, hc, fun hbs => ?_⟩
    refine Classical.byContradiction fun hlt => hn ⟨hbs, by omega⟩⟩
  rw [this] at h; cases h
theorem mem_running {w : Nat} {m : Ms} {x : Int} : x ∈ running w m ↔ ∃ k : Int, 0 ≤ k ∧ k < w ∧ m.f k = x ∧ m.t < x := by
  unfold running
  simp only [List.mem_filter, List.mem_map, mem_below]
  constructor
  · rintro ⟨⟨k, ⟨h0, h1⟩, rfl⟩, h⟩; exact ⟨k, h0, h1, rfl, by simpa using h⟩
  · rintro ⟨k, h0, h1, rfl, h⟩; exact ⟨⟨k, ⟨h0, h1⟩, rfl⟩, by simpa using h⟩
theorem lowest_none {l : List Int} (h : lowest l = none) : l = [] := by
  cases l with
  | nil => rfl
  | cons a t =>
    exfalso
    have key : ∀ (l : List Int), l ≠ [] → ∃ m ∈ l, ∀ x ∈ l, m ≤ x := by
      intro l
      induction l with
      | nil => intro h; exact absurd rfl h
      | cons a t ih =>
        intro _
        by_cases ht : t = []
        · subst ht; exact ⟨a, by simp, by simp⟩
        · obtain ⟨m, h1, h2⟩ := ih ht
          by_cases ha : a ≤ m
          · refine ⟨a, by simp, fun x hx => ?_⟩
            rcases List.mem_cons.1 hx with e | e
            · omega
            · have := h2 x e; omega
          · refine ⟨m, List.mem_cons_of_mem _ h1, fun x hx => ?_⟩
            rcases List.mem_cons.1 hx with e | e
            · omega
            · exact h2 x e
    obtain ⟨m, h1, h2⟩ := key (a :: t) (by simp)
    rw [lowest_of h1 h2] at h; cases h

/-- One step: a device begins, or time moves. -/
theorem nxt_cases {n w : Nat} {ls : List api_Link} {du : Int → Int} {m : Ms} {out : List api_Slot} {z' : Ms × List api_Slot} (h : nxt n w ls du (m, out) = some z') :
    (∃ d k : Int, d = nextD n ls m ∧ k = nextW w m ∧ (0 ≤ d ∧ d < n) ∧ (0 ≤ k ∧ k < w) ∧ rdy ls m d = true ∧ m.f k ≤ m.t ∧ z' = (place du m d k, out ++ [api_Slot.mk d k m.t (m.t + du d)])) ∨
    (∃ t, ¬ (0 ≤ nextD n ls m ∧ 0 ≤ nextW w m) ∧ t ∈ running w m ∧ (∀ x ∈ running w m, t ≤ x) ∧ m.t < t ∧ z' = (⟨m.b, m.s, m.f, t⟩, out)) := by
  unfold nxt at h
  split at h
  · rename_i hp
    obtain ⟨h1, h2⟩ := hp
    simp only at h1 h2 h
    obtain ⟨a1, a2, a3⟩ := fst_lt h1
    obtain ⟨b1, b2, b3⟩ := fst_lt h2
    exact .inl ⟨_, _, rfl, rfl, ⟨h1, a1⟩, ⟨h2, b1⟩, a2, of_decide_eq_true b2, (Option.some.inj h).symm⟩
  · rename_i hp
    simp only at h hp
    cases hl : lowest (running w m) with
    | none => rw [hl] at h; cases h
    | some t =>
      rw [hl] at h
      obtain ⟨a, b⟩ := lowest_spec hl
      obtain ⟨k, _, _, _, ht⟩ := mem_running.1 a
      exact .inr ⟨t, hp, a, b, ht, (Option.some.inj h).symm⟩
theorem nxt_none {n w : Nat} {ls : List api_Link} {du : Int → Int} {m : Ms} {out : List api_Slot} (h : nxt n w ls du (m, out) = none) : ¬ (0 ≤ nextD n ls m ∧ 0 ≤ nextW w m) ∧ running w m = [] := by
  unfold nxt at h
  split at h
  · cases h
  · rename_i hp
    refine ⟨hp, ?_⟩
    simp only at h
    cases hl : lowest (running w m) with
    | none => exact lowest_none hl
    | some t => rw [hl] at h; cases h

def z00 : Ms × List api_Slot := (⟨fun _ => false, fun _ => api_Slot.mk 0 0 0 0, fun _ => 0, 0⟩, [])

structure Inv (n w : Nat) (ls : List api_Link) (du : Int → Int) (m : Ms) (out : List api_Slot) : Prop where
  t0 : 0 ≤ m.t
  f0 : ∀ k, 0 ≤ m.f k
  dev : ∀ x ∈ out, 0 ≤ x.Device ∧ x.Device < n
  wrk : ∀ x ∈ out, 0 ≤ x.Worker ∧ x.Worker < w
  len : ∀ x ∈ out, x.End = x.Start + du x.Device
  st : ∀ x ∈ out, 0 ≤ x.Start ∧ x.Start ≤ m.t
  sl : ∀ x ∈ out, m.b x.Device = true ∧ m.s x.Device = x
  bs : ∀ d, m.b d = true → m.s d ∈ out ∧ (m.s d).Device = d
  nd : (out.map api_Slot.Device).Nodup
  fle : ∀ x ∈ out, x.End ≤ m.f x.Worker
  fex : ∀ k, m.f k = 0 ∨ ∃ x ∈ out, x.Worker = k ∧ x.End = m.f k
  ord : out.Pairwise (fun x y => x.Start ≤ y.Start ∧ (x.Worker = y.Worker → x.End ≤ y.Start))
  lnk : ∀ l ∈ ls, m.b l.Consumer = true → m.b l.Supplier = true ∧ (m.s l.Supplier).End ≤ (m.s l.Consumer).Start
  org : ∀ x ∈ out, x.Start = 0 ∨ ∃ y ∈ out, y.End = x.Start
  torg : m.t = 0 ∨ ∃ y ∈ out, y.End = m.t

section
variable {n w : Nat} {ls : List api_Link} {du : Int → Int}

theorem Inv.start : Inv n w ls du z00.1 z00.2 := by
  unfold z00
  refine ⟨Int.le_refl _, fun _ => Int.le_refl _, ?_, ?_, ?_, ?_, ?_, ?_, List.nodup_nil, ?_, fun _ => .inl rfl, List.Pairwise.nil, ?_, ?_, .inl rfl⟩ <;> simp

theorem Inv.step (hdu : ∀ i, 0 ≤ du i) {m : Ms} {out : List api_Slot} (I : Inv n w ls du m out) {z' : Ms × List api_Slot} (h : nxt n w ls du (m, out) = some z') : Inv n w ls du z'.1 z'.2 := by
  rcases nxt_cases h with ⟨d, k, _, _, hd, hk, hr, hf, rfl⟩ | ⟨t, _, ht, hlo, hlt, rfl⟩
  · obtain ⟨hb, hsup⟩ := rdy_iff.1 hr
    have hd0 := hdu d
    have hnew : ∀ x ∈ out, x.Device ≠ d := fun x hx e => by
      have := (I.sl x hx).1
      rw [e, hb] at this; cases this
    have ht0 := I.t0
    have hmem : ∀ {P : api_Slot → Prop}, (∀ x ∈ out, P x) → P (api_Slot.mk d k m.t (m.t + du d)) → ∀ x ∈ out ++ [api_Slot.mk d k m.t (m.t + du d)], P x := fun h1 h2 x hx => by
      rcases List.mem_append.1 hx with h | h
      · exact h1 x h
      · simp only [List.mem_singleton] at h; subst h; exact h2
    have hin : ∀ {x : api_Slot}, x ∈ out → x ∈ out ++ [api_Slot.mk d k m.t (m.t + du d)] := fun h => List.mem_append.2 (.inl h)
    have hlast : api_Slot.mk d k m.t (m.t + du d) ∈ out ++ [api_Slot.mk d k m.t (m.t + du d)] := List.mem_append.2 (.inr (by simp))
    unfold place
    constructor
    · exact ht0
    · intro j; simp only [fset]; split
      · omega
      · exact I.f0 j
    · exact hmem I.dev hd
    · exact hmem I.wrk hk
    · exact hmem I.len rfl
    · exact hmem I.st ⟨ht0, Int.le_refl _⟩
    · refine hmem (fun x hx => ?_) ?_
      · have := I.sl x hx
        simp only [fset, if_neg (hnew x hx)]; exact this
      · simp [fset]
    · intro j hj
      simp only [fset] at hj ⊢
      by_cases e : j = d
      · subst e; simp
      · rw [if_neg e] at hj ⊢
        have := I.bs j hj
        exact ⟨hin this.1, this.2⟩
    · simp only [List.map_append, List.map_cons, List.map_nil]
      rw [List.nodup_append]
      refine ⟨I.nd, by simp, fun a ha b hb' => ?_⟩
      simp only [List.mem_singleton] at hb'
      obtain ⟨x, hx, rfl⟩ := List.mem_map.1 ha
      rw [hb']; exact hnew x hx
    · refine hmem (fun x hx => ?_) (by simp [fset])
      simp only [fset]
      split
      · rename_i e
        have := I.fle x hx
        rw [e] at this; omega
      · exact I.fle x hx
    · intro j
      simp only [fset]
      by_cases e : j = k
      · rw [if_pos e]; exact .inr ⟨_, hlast, e.symm, rfl⟩
      · rw [if_neg e]
        rcases I.fex j with h | ⟨x, hx, h1, h2⟩
        · exact .inl h
        · exact .inr ⟨x, hin hx, h1, h2⟩
    · rw [List.pairwise_append]
      refine ⟨I.ord, List.pairwise_singleton _ _, fun x hx y hy => ?_⟩
      simp only [List.mem_singleton] at hy
      subst hy
      refine ⟨(I.st x hx).2, fun e => ?_⟩
      have := I.fle x hx
      simp only at e ⊢
      rw [e] at this; omega
    · intro l hl hc
      simp only [fset] at hc ⊢
      by_cases e : l.Consumer = d
      · obtain ⟨h1, h2⟩ := hsup l hl e
        have hne : l.Supplier ≠ d := fun e' => by rw [e', hb] at h1; cases h1
        rw [if_neg hne, if_neg hne, if_pos e]
        exact ⟨h1, h2⟩
      · rw [if_neg e] at hc ⊢
        obtain ⟨h1, h2⟩ := I.lnk l hl hc
        have hne : l.Supplier ≠ d := fun e' => by rw [e', hb] at h1; cases h1
        rw [if_neg hne, if_neg hne]
        exact ⟨h1, h2⟩
    · refine hmem (fun x hx => ?_) ?_
      · rcases I.org x hx with h | ⟨y, hy, h⟩
        · exact .inl h
        · exact .inr ⟨y, hin hy, h⟩
      · rcases I.torg with h | ⟨y, hy, h⟩
        · exact .inl h
        · exact .inr ⟨y, hin hy, h⟩
    · rcases I.torg with h | ⟨y, hy, h⟩
      · exact .inl h
      · exact .inr ⟨y, hin hy, h⟩
  · obtain ⟨k, _, _, hfk, _⟩ := mem_running.1 ht
    have ht0 := I.t0
    refine ⟨by simp only; omega, I.f0, I.dev, I.wrk, I.len, fun x hx => ⟨(I.st x hx).1, by have := (I.st x hx).2; simp only; omega⟩, I.sl, I.bs, I.nd, I.fle, I.fex, I.ord, I.lnk, I.org, ?_⟩
    rcases I.fex k with h | ⟨x, hx, _, h2⟩
    · omega
    · exact .inr ⟨x, hx, by rw [h2, hfk]⟩

theorem it_ind {P : Ms → List api_Slot → Prop} (hs : ∀ m out z', P m out → nxt n w ls du (m, out) = some z' → P z'.1 z'.2) : ∀ (k : Nat) (z : Ms × List api_Slot), P z.1 z.2 → P (it n w ls du k z).1 (it n w ls du k z).2
  | 0, z, h => h
  | k + 1, z, h => by
    rw [it]
    cases hz : nxt n w ls du z with
    | none => exact h
    | some z' => exact it_ind hs k z' (hs z.1 z.2 z' h hz)
theorem Inv.it (hdu : ∀ i, 0 ≤ du i) (k : Nat) : Inv n w ls du (it n w ls du k z00).1 (it n w ls du k z00).2 := it_ind (fun m out z' I h => I.step hdu h) k z00 Inv.start

/-- Slots as what has begun. -/
theorem Inv.begun_of {m : Ms} {out : List api_Slot} (I : Inv n w ls du m out) {d : Int} (h : m.b d = true) : (m.s d) ∈ out ∧ (m.s d).Device = d ∧ 0 ≤ d ∧ d < n := by
  obtain ⟨h1, h2⟩ := I.bs d h
  have := I.dev _ h1
  rw [h2] at this
  exact ⟨h1, h2, this⟩
theorem Inv.over_run {m : Ms} {out : List api_Slot} (I : Inv n w ls du m out) {x : api_Slot} (hx : x ∈ out) (ht : m.t < x.End) : x.End ∈ running w m := by
  refine mem_running.2 ⟨x.Worker, (I.wrk x hx).1, (I.wrk x hx).2, ?_, ht⟩
  rcases I.fex x.Worker with h | ⟨y, hy, h1, h2⟩
  · have := I.fle x hx; have := I.t0; omega
  · rw [← h2]
    refine Classical.byContradiction fun hne => ?_
    have hle := I.fle x hx
    have hne' : x ≠ y := fun e => hne (by rw [e])
    have := I.ord
    rcases List.getElem_of_mem hx with ⟨i, hi, ei⟩
    rcases List.getElem_of_mem hy with ⟨j, hj, ej⟩
    have hp := List.pairwise_iff_getElem.1 this
    rcases Nat.lt_trichotomy i j with h | h | h
    · have := (hp i j hi hj h).2 (by rw [ei, ej, h1])
      rw [ei, ej] at this
      have := (I.st y hy).2
      omega
    · subst h; rw [ei] at ej; exact hne' ej
    · have h3 := (hp j i hj hi h).2 (by rw [ei, ej, h1])
      rw [ei, ej] at h3
      have := (I.st x hx).2
      have := (I.st y hy).1
      rw [h2] at h3
      have hf0 := I.fle x hx
      have : du x.Device ≥ 0 ∨ du x.Device < 0 := by omega
      have := I.len x hx
      omega
theorem Inv.out_le {m : Ms} {out : List api_Slot} (I : Inv n w ls du m out) : out.length ≤ n := by
  have := nodup_le I.nd (s := below n) (fun x hx => by
    obtain ⟨y, hy, rfl⟩ := List.mem_map.1 hx
    exact mem_below.2 (I.dev y hy))
  rw [below_length] at this
  simpa using this
end

/-- The end: everything has begun and ended. -/
structure Done (n w : Nat) (ls : List api_Link) (du : Int → Int) (m : Ms) (out : List api_Slot) : Prop where
  inv : Inv n w ls du m out
  all : ∀ d : Int, 0 ≤ d → d < n → m.b d = true
  ends : ∀ x ∈ out, x.End ≤ m.t
  len : out.length = n

theorem not_full_link {n : Nat} {ls : List api_Link} (hfull : ¬ (ord n ls).length < n) {B : Int → Bool} (h : ∀ d : Int, 0 ≤ d → d < n → B d = false → ∃ l ∈ ls, l.Consumer = d ∧ B l.Supplier = false) : ∀ d : Int, 0 ≤ d → d < n → B d = true := by
  have hr := (ord_run n ls).1
  have key : ∀ out, Run n ls out → ∀ v ∈ out, B v = true := by
    intro out ho
    induction ho with
    | nil => simp
    | @snoc out v ho hv ih =>
      intro u hu
      rcases List.mem_append.1 hu with hu | hu
      · exact ih u hu
      · simp only [List.mem_singleton] at hu; subst hu
        obtain ⟨h0, h1, h2, _⟩ := least_some hv
        obtain ⟨_, h3⟩ := free_iff.1 h2
        cases hB : B u with
        | true => rfl
        | false =>
          obtain ⟨l, hl, hc, hs⟩ := h u h0 h1 hB
          have := ih _ (h3 l hl hc)
          rw [hs] at this; cases this
  exact fun d h0 h1 => key _ hr d (ord_full hfull h0 h1)

theorem done_of {n w : Nat} {ls : List api_Link} {du : Int → Int} (hw : 0 < w) (hfull : ¬ (ord n ls).length < n) (g : GoodG n ls) {m : Ms} {out : List api_Slot} (I : Inv n w ls du m out) (h : nxt n w ls du (m, out) = none) : Done n w ls du m out := by
  obtain ⟨h1, h2⟩ := nxt_none h
  have hends : ∀ x ∈ out, x.End ≤ m.t := fun x hx => by
    refine Classical.byContradiction fun hn => ?_
    have := I.over_run hx (by omega)
    rw [h2] at this; cases this
  have hwk : 0 ≤ nextW w m := by
    refine Classical.byContradiction fun hn => ?_
    have := fst_neg hn 0 (by omega) (by omega)
    simp only [decide_eq_false_iff_not] at this
    have : m.f 0 ∈ running w m := mem_running.2 ⟨0, by omega, by omega, rfl, by omega⟩
    rw [h2] at this; cases this
  have hnr := fst_neg (fun hd => h1 ⟨hd, hwk⟩)
  have hall : ∀ d : Int, 0 ≤ d → d < n → m.b d = true := not_full_link hfull fun d d0 d1 hb => by
    obtain ⟨l, hl, hc, hs⟩ := rdy_not (hnr d d0 d1) hb
    refine ⟨l, hl, hc, ?_⟩
    cases hB : m.b l.Supplier with
    | false => rfl
    | true =>
      have := hs hB
      have := hends _ (I.bs _ hB).1
      omega
  refine ⟨I, hall, hends, Nat.le_antisymm I.out_le ?_⟩
  have := nodup_le (below_nodup n) (s := out.map api_Slot.Device) (fun x hx => by
    obtain ⟨x0, x1⟩ := mem_below.1 hx
    obtain ⟨a, b⟩ := I.bs x (hall x x0 x1)
    exact List.mem_map.2 ⟨_, a, b⟩)
  rw [below_length] at this
  simpa using this
end Go.Proofs.Ythmjgadmadlpkaa.Sim

namespace Go.Proofs.Ythmjgadmadlpkaa.Sim
open Go
set_option linter.unusedVariables false
set_option linter.unusedSimpArgs false

/-! ### law31_durations: function 17 -/
def law31_durations.l0 (p0 : Int) (p1 : List Int) : Nat → (List Int) → Int → Option ((List Int))
  | 0, _, _ => none
  | k18 + 1, m0_0, m0_1 => if decide (m0_1 < p0) = true then (((idx m0_0 m0_1).bind fun x32 => if decide (m0_1 < (p1.length : Int)) = true then ((idx p1 m0_1).bind fun x46 => (idx (upd m0_0 m0_1 (wu ((Int.tmod m0_1 3)))) m0_1).bind fun x51 => some (upd (upd m0_0 m0_1 (wu ((Int.tmod m0_1 3)))) m0_1 (Int.tmod x46 12))) else (some (upd m0_0 m0_1 (wu ((Int.tmod m0_1 3))))) : Option ((List Int))).bind fun v24 => law31_durations.l0 p0 p1 k18 v24 (wi (m0_1 + 1))) else (some m0_0)
def law31_durations.f (p0 : Int) (p1 : List Int) : Option ((List Int)) := (mk p0 0).bind fun y3 => (law31_durations.l0 p0 p1 FUEL y3 0 : Option ((List Int))).bind fun v13 => some v13
set_option maxRecDepth 100000 in
set_option maxHeartbeats 4000000 in
theorem law31_durations.calls {p0 : Int} {p1 : List Int} {A1 : Option Addr} {cap1 : Nat} {C1 : Nat → Prop} {w : World} {g : Nat → Nat} {out : (List Int)} (N : Nat) (r0 : Nat) (hp1 : RdS (kint .u64) w g C1 A1 cap1 p1) (hC1 : ∀ c, C1 c → c < N) (hr0 : r0 + 2 ≤ N) (H : law31_durations.f p0 p1 = some out) :
    Calls Try.prog 17 #[.int .i64 p0, .slice A1 p1.length cap1] w (fun e w' => ∃ v, e = .returned v ∧ ∃ (g' : Nat → Nat) (A_r0 : Option Addr) (cap_r0 : Nat), v = .slice A_r0 out.length cap_r0 ∧ OwS (kint .u64) 33 w' g' r0 A_r0 cap_r0 out ∧ Fr (fun q => (r0 ≤ q ∧ q < r0 + 2) ∨ N ≤ q) w g w' g') := by
  unfold law31_durations.f at H
  refine calls_enter Try.func17 rfl Try.ntmps17 rfl (fun a hS => ?_)
  replace hS : Sl 33 a [(0, .int .i64 p0), (1, .slice A1 p1.length cap1)] := hS
  have hF : Fr (fun q => (r0 ≤ q ∧ q < r0 + 2) ∨ N ≤ q) w g w g := Fr.refl _ _ _
  refine c_pure [(0, .int .i64 p0), (1, .slice A1 p1.length cap1)] (fun R hR => st_val hS rfl rfl rfl (r_assign hS rfl rfl) fun a1 hS1 => wpList_nil (hR _ (hS1.re ⟨rfl, rfl, trivial⟩))) ?_
  clear hS
  clear a
  intro a hS
  obtain ⟨y3, hy4, H⟩ := bind_el H
  refine c_region (fun K hK => ?_)
  refine st_val hS rfl rfl rfl (r_move hS rfl rfl) fun a2 hS2 => ?_
  refine st_eff hS2 rfl rfl rfl (e_make (e := 33) (sz := 1) (by_ := 8) (z := [.int .u64 0]) (kd := (kint .u64)) (N + 0) g hS2 rfl rfl (by kernel_rfl) (by kernel_rfl) rfl rfl rfl (fun _ _ _ => by exact rfl) hy4) ?_
  rintro _ a9 w10 g10 ⟨⟨A5, cap6, rfl, h7⟩, F10⟩ hS9
  replace hp1 := RdS.fr hp1 F10 (by decide) (fun _ _ h => h)
  replace hF := hF.trans F10 (fun _ h => h.elim)
  refine st_val hS9 rfl rfl rfl (r_assign hS9 rfl rfl) fun a11 hS11 => wpList_nil (hK _ _ ?_)
  replace hS : Sl 33 _ [(0, .int .i64 p0), (1, .slice A1 p1.length cap1), (5, .slice A5 y3.length cap6)] := hS11.re ⟨rfl, rfl, rfl, trivial⟩
  clear hK K
  try clear hS2 hS9 hS11
  obtain ⟨a, ha⟩ : ∃ a', a' = a11 := ⟨_, rfl⟩
  rw [← ha] at hS ⊢; clear ha
  obtain ⟨v13, H, Hl15⟩ := bind_el H
  refine c_cut (fun a w12 => ∃ (g12 : Nat → Nat), Sl 33 a [(5, .slice A5 v13.length cap6)] ∧ OwS (kint .u64) 33 w12 g12 (N + 0) A5 cap6 v13 ∧ Fr (fun q => (r0 ≤ q ∧ q < r0 + 2) ∨ N ≤ q) w g w12 g12) ?_ ?_
  · refine c_pure [(0, .int .i64 p0), (1, .slice A1 p1.length cap1), (5, .slice A5 y3.length cap6), (6, .int .i64 0)] (fun R hR => st_val hS rfl rfl rfl (r_assign hS rfl rfl) fun a16 hS16 => wpList_nil (hR _ (hS16.re ⟨rfl, rfl, rfl, rfl, trivial⟩))) ?_
    clear hS
    clear a
    intro a hS
    refine wp_block ?_
    refine wp_loop_ghost (fun kq => fun a w17 => ∃ (m0_0 : List Int), ∃ (m0_1 : Int), ∃ (g17 : Nat → Nat), law31_durations.l0 p0 p1 kq m0_0 m0_1 = some v13 ∧ Sl 33 a [(0, .int .i64 p0), (1, .slice A1 p1.length cap1), (5, .slice A5 m0_0.length cap6), (6, .int .i64 m0_1)] ∧ OwS (kint .u64) 33 w17 g17 (N + 0) A5 cap6 m0_0 ∧ RdS (kint .u64) w17 g17 C1 A1 cap1 p1 ∧ Fr (fun q => (r0 ≤ q ∧ q < r0 + 2) ∨ N ≤ q) w g w17 g17) FUEL ?_ ?_
    · exact ⟨y3, 0, g10, H, hS.re ⟨rfl, rfl, rfl, rfl, trivial⟩, h7, hp1, hF⟩
    · clear H
      clear hp1 h7 hF
      clear hS
      rintro k18 a w17 ⟨m0_0, m0_1, g17, hpre0, hS, h7, hp1, hF⟩
      have H := hpre0
      clear hpre0
      cases k18 with
      | zero => exact absurd H (by simp [law31_durations.l0])
      | succ k18 =>
        rw [law31_durations.l0] at H
        refine wp_seq ?_
        refine c_pure [(0, .int .i64 p0), (1, .slice A1 p1.length cap1), (5, .slice A5 m0_0.length cap6), (6, .int .i64 m0_1), (11, .bool (decide (m0_1 < p0)))] (fun R hR => st_val hS rfl rfl rfl (r_move hS rfl rfl) fun a19 hS19 => st_val hS19 rfl rfl rfl (r_move hS19 rfl rfl) fun a20 hS20 => st_val hS20 rfl rfl rfl (r_bin hS20 rfl rfl rfl b_lss) fun a21 hS21 => wpList_nil (hR _ (hS21.re ⟨rfl, rfl, rfl, rfl, rfl, trivial⟩))) ?_
        clear hS
        clear a
        intro a hS
        refine c_cond hS rfl (fun hb22 => ?_) (fun hb22 => ?_)
        · replace H := ite_t hb22 H
          refine wp_skip ?_
          change Code.wp _ _ _ _ _
          obtain ⟨v24, H, Hl26⟩ := bind_el H
          refine c_cut (fun a w23 => ∃ (g23 : Nat → Nat), Sl 33 a [(0, .int .i64 p0), (1, .slice A1 p1.length cap1), (5, .slice A5 v24.length cap6), (6, .int .i64 m0_1)] ∧ OwS (kint .u64) 33 w23 g23 (N + 0) A5 cap6 v24 ∧ RdS (kint .u64) w23 g23 C1 A1 cap1 p1 ∧ Fr (fun q => (r0 ≤ q ∧ q < r0 + 2) ∨ N ≤ q) w g w23 g23) ?_ ?_
          · refine wp_block ?_
            obtain ⟨x32, hx33, H⟩ := bind_el H
            refine c_region (fun K hK => ?_)
            refine st_val hS rfl rfl rfl (r_move hS rfl rfl) fun a27 hS27 => st_val hS27 rfl rfl rfl (r_move hS27 rfl rfl) fun a28 hS28 => st_val hS28 rfl rfl rfl (r_move hS28 rfl rfl) fun a29 hS29 => st_val hS29 rfl rfl rfl (r_bin hS29 rfl rfl rfl (b_rem (by decide))) fun a30 hS30 => st_val hS30 rfl rfl rfl (r_convert (k' := .u64) hS30 rfl rfl (by kernel_rfl)) fun a31 hS31 => st_val hS31 rfl rfl rfl (r_index (e := 33) (sz := 1) (by_ := 8) hS31 rfl rfl rfl (by kernel_rfl) (RdS.some_ (OwS.rd h7) hx33) (idx_lo hx33) (idx_hi hx33)) fun a34 hS34 => ?_
            refine st_effS hS34 rfl rfl (e_storeE (n := 1) (bb := false) (kd := (kint .u64)) (j := 0) (x' := wu ((Int.tmod m0_1 3))) (us := [.int .u64 (wu ((Int.tmod m0_1 3)))]) g17 hS34 rfl rfl rfl rfl (by kernel_rfl) rfl rfl (by intro v hv; simp only [List.mem_cons, List.not_mem_nil, or_false] at hv; rcases hv with rfl <;> rfl) h7 hx33 rfl (fun _ _ cs hR => by rw [show cs = _ from hR]; rfl)) ?_
            rintro a35 w36 g36 ⟨h7, F36⟩ hS35
            replace hp1 := RdS.fr hp1 F36 (by decide) (fun q (hq : C1 q) (hm : q = N + 0) => by have := hC1 q hq; omega)
            replace hF := hF.trans F36 (fun c' (hm : c' = N + 0) => by show (r0 ≤ c' ∧ c' < r0 + 2) ∨ N ≤ c'; omega)
            have hT : Sl 33 a35 [(0, .int .i64 p0), (1, .slice A1 p1.length cap1), (5, .slice A5 m0_0.length cap6), (6, .int .i64 m0_1)] := hS35.re ⟨rfl, rfl, rfl, rfl, trivial⟩
            replace hS35 : Sl 33 a35 [(0, .int .i64 p0), (1, .slice A1 p1.length cap1), (5, .slice A5 (upd m0_0 m0_1 (wu ((Int.tmod m0_1 3)))).length cap6), (6, .int .i64 m0_1)] := by simpa only [upd_length] using hT
            clear hT
            refine wpList_nil (hK _ _ ?_)
            replace hS : Sl 33 _ [(0, .int .i64 p0), (1, .slice A1 p1.length cap1), (5, .slice A5 (upd m0_0 m0_1 (wu ((Int.tmod m0_1 3)))).length cap6), (6, .int .i64 m0_1)] := hS35.re ⟨rfl, rfl, rfl, rfl, trivial⟩
            clear hK K
            try clear hS27 hS28 hS29 hS30 hS31 hS34 hS35
            obtain ⟨a, ha⟩ : ∃ a', a' = a35 := ⟨_, rfl⟩
            rw [← ha] at hS ⊢; clear ha
            refine c_pure [(0, .int .i64 p0), (1, .slice A1 p1.length cap1), (5, .slice A5 (upd m0_0 m0_1 (wu ((Int.tmod m0_1 3)))).length cap6), (6, .int .i64 m0_1), (23, .bool (decide (m0_1 < (p1.length : Int))))] (fun R hR => st_val hS rfl rfl rfl (r_move hS rfl rfl) fun a37 hS37 => st_val hS37 rfl rfl rfl (r_move hS37 rfl rfl) fun a38 hS38 => st_val hS38 rfl rfl rfl (r_len (e := 33) (sz := 1) (by_ := 8) hS38 rfl rfl (by kernel_rfl)) fun a39 hS39 => st_val hS39 rfl rfl rfl (r_bin hS39 rfl rfl rfl b_lss) fun a40 hS40 => wpList_nil (hR _ (hS40.re ⟨rfl, rfl, rfl, rfl, rfl, trivial⟩))) ?_
            clear hS
            clear a
            intro a hS
            refine c_cond hS rfl (fun hb41 => ?_) (fun hb41 => ?_)
            · replace H := ite_t hb41 H
              obtain ⟨x46, hx47, H⟩ := bind_el H
              obtain ⟨x51, hx52, H⟩ := bind_el H
              refine c_region1 (fun K hK => ?_)
              refine st_val hS rfl rfl rfl (r_move hS rfl rfl) fun a42 hS42 => st_val hS42 rfl rfl rfl (r_move hS42 rfl rfl) fun a43 hS43 => st_val hS43 rfl rfl rfl (r_move hS43 rfl rfl) fun a44 hS44 => st_val hS44 rfl rfl rfl (r_move hS44 rfl rfl) fun a45 hS45 => st_val hS45 rfl rfl rfl (r_index (e := 33) (sz := 1) (by_ := 8) hS45 rfl rfl rfl (by kernel_rfl) (RdS.some_ hp1 hx47) (idx_lo hx47) (idx_hi hx47)) fun a48 hS48 => st_val hS48 rfl rfl rfl (r_load1 (n := 1) hS48 rfl rfl (by kernel_rfl) (RdS.cell (i := m0_1) (sz := 1) (j := 0) hp1 hx47 rfl)) fun a49 hS49 => st_val hS49 rfl rfl rfl (r_bin hS49 rfl rfl rfl (b_rem (by decide))) fun a50 hS50 => st_val hS50 rfl rfl rfl (r_index (e := 33) (sz := 1) (by_ := 8) hS50 rfl rfl rfl (by kernel_rfl) (RdS.some_ (OwS.rd h7) hx52) (idx_lo hx52) (idx_hi hx52)) fun a53 hS53 => ?_
              refine st_effS hS53 rfl rfl (e_storeE (n := 1) (bb := false) (kd := (kint .u64)) (j := 0) (x' := (Int.tmod x46 12)) (us := [.int .u64 (Int.tmod x46 12)]) g36 hS53 rfl rfl rfl rfl (by kernel_rfl) rfl rfl (by intro v hv; simp only [List.mem_cons, List.not_mem_nil, or_false] at hv; rcases hv with rfl <;> rfl) h7 hx52 rfl (fun _ _ cs hR => by rw [show cs = _ from hR]; rfl)) ?_
              rintro a54 w55 g55 ⟨h7, F55⟩ hS54
              replace hp1 := RdS.fr hp1 F55 (by decide) (fun q (hq : C1 q) (hm : q = N + 0) => by have := hC1 q hq; omega)
              replace hF := hF.trans F55 (fun c' (hm : c' = N + 0) => by show (r0 ≤ c' ∧ c' < r0 + 2) ∨ N ≤ c'; omega)
              have hT : Sl 33 a54 [(0, .int .i64 p0), (1, .slice A1 p1.length cap1), (5, .slice A5 (upd m0_0 m0_1 (wu ((Int.tmod m0_1 3)))).length cap6), (6, .int .i64 m0_1)] := hS54.re ⟨rfl, rfl, rfl, rfl, trivial⟩
              replace hS54 : Sl 33 a54 [(0, .int .i64 p0), (1, .slice A1 p1.length cap1), (5, .slice A5 (upd (upd m0_0 m0_1 (wu ((Int.tmod m0_1 3)))) m0_1 (Int.tmod x46 12)).length cap6), (6, .int .i64 m0_1)] := by simpa only [upd_length] using hT
              clear hT
              refine wpList_nil (hK _ _ ?_)
              replace hS : Sl 33 _ [(0, .int .i64 p0), (1, .slice A1 p1.length cap1), (5, .slice A5 (upd (upd m0_0 m0_1 (wu ((Int.tmod m0_1 3)))) m0_1 (Int.tmod x46 12)).length cap6), (6, .int .i64 m0_1)] := hS54.re ⟨rfl, rfl, rfl, rfl, trivial⟩
              clear hK K
              try clear hS42 hS43 hS44 hS45 hS48 hS49 hS50 hS53 hS54
              obtain ⟨a, ha⟩ : ∃ a', a' = a54 := ⟨_, rfl⟩
              rw [← ha] at hS ⊢; clear ha
              have e := Option.some.inj H
              subst e
              exact ⟨g55, hS.re ⟨rfl, rfl, rfl, rfl, trivial⟩, h7, hp1, hF⟩
            · replace H := ite_f hb41 H
              refine wp_skip ?_
              have e := Option.some.inj H
              subst e
              exact ⟨g36, hS.re ⟨rfl, rfl, rfl, rfl, trivial⟩, h7, hp1, hF⟩
          · clear H
            clear hp1 h7 hF
            clear hS
            rintro a w23 ⟨g23, hS, h7, hp1, hF⟩
            have H := Hl26
            clear Hl26
            refine c_pure1 [(0, .int .i64 p0), (1, .slice A1 p1.length cap1), (5, .slice A5 v24.length cap6), (6, .int .i64 (wi (m0_1 + 1)))] (fun R hR => st_val hS rfl rfl rfl (r_move hS rfl rfl) fun a56 hS56 => st_val hS56 rfl rfl rfl (r_bin hS56 rfl rfl rfl b_add) fun a57 hS57 => st_val hS57 rfl rfl rfl (r_assign hS57 rfl rfl) fun a58 hS58 => wpList_nil (hR _ (hS58.re ⟨rfl, rfl, rfl, rfl, trivial⟩))) ?_
            clear hS
            clear a
            intro a hS
            refine ⟨k18, Nat.lt_succ_self _, ?_⟩
            exact ⟨v24, wi (m0_1 + 1), g23, H, hS.re ⟨rfl, rfl, rfl, rfl, trivial⟩, h7, hp1, hF⟩
        · replace H := ite_f hb22 H
          refine wp_exit ?_
          have e := Option.some.inj H
          subst e
          exact ⟨g17, hS.re ⟨rfl, trivial⟩, h7, hF⟩
  · clear H
    clear hp1 h7 hF
    clear hS
    rintro a w12 ⟨g12, hS, h7, hF⟩
    have H := Hl15
    clear Hl15
    refine c_pure [(4, .slice A5 v13.length cap6)] (fun R hR => st_val hS rfl rfl rfl (r_move hS rfl rfl) fun a59 hS59 => st_val hS59 rfl rfl rfl (r_assign hS59 rfl rfl) fun a60 hS60 => wpList_nil (hR _ (hS60.re ⟨rfl, trivial⟩))) ?_
    clear hS
    clear a
    intro a hS
    refine wp_ret ?_
    have e := Option.some.inj H
    subst e
    have F61 := Fr.recol2 w12 g12 (N + 0) r0
    replace h7 := h7.recol2 r0
    replace hF := hF.trans F61 (fun c' (hm : c' = N + 0 ∨ c' = N + 0 + 1) => by show (r0 ≤ c' ∧ c' < r0 + 2) ∨ N ≤ c'; omega)
    repeat (with_reducible first | refine then_ret ?_ | refine inBlock_ret ?_)
    exact c_ret1 hS Try.results17 rfl ⟨_, rfl, (recol2 g12 (N + 0) r0), A5, cap6, rfl, h7, hF⟩


end Go.Proofs.Ythmjgadmadlpkaa.Sim

namespace Go.Proofs.Ythmjgadmadlpkaa.Sim
open Go
set_option linter.unusedVariables false
set_option maxRecDepth 100000

def big (x : Int) : Bool := decide (9007199254740992 < x)
def scode (p : Int) (ls : List api_Link) (dl : List Int) (w : Int) : Int :=
  if ccode p ls ≠ 0 then ccode p ls else if (dl.length : Int) = p ∧ dl.any big = false ∧ 1 ≤ w ∧ w ≤ 16 then 0 else 1

theorem check31_ok (p : Int) (ls : List api_Link) (dl : List Int) (w : Int) (h : ls.length ≤ maxLen) (hd : dl.length ≤ maxLen) : resume_check.f p ls dl w = some (scode p ls dl w) := by
  unfold resume_check.f
  rw [check_ok p ls h, Option.bind_some]
  by_cases h1 : ccode p ls = 0
  · have e : scode p ls dl w = if (dl.length : Int) = p ∧ dl.any big = false ∧ 1 ≤ w ∧ w ≤ 16 then 0 else 1 := by unfold scode; rw [if_neg (by simp [h1])]
    rw [e, if_neg (by simp [h1])]
    by_cases h2 : (dl.length : Int) = p
    · rw [if_neg (by simp [h2]), search_ok (L := resume_check.l0 dl) dl big 1 hd (fun k i => by rw [resume_check.l0]; rfl)]
      cases h3 : dl.any big
      · simp only [Bool.false_eq_true, if_false, Option.bind_some, Fl.go]
        by_cases h4 : 1 ≤ w ∧ w ≤ 16
        · rw [if_neg (by simp; omega), if_pos ⟨h2, trivial, h4⟩]
        · rw [if_pos (by simp; omega), if_neg (fun c => h4 c.2.2)]
      · simp only [if_true, Option.bind_some, Fl.go]
        rw [if_neg (fun c => by cases c.2.1)]
    · rw [if_pos (by simpa using h2), if_neg (fun c => h2 c.1)]
  · have e : scode p ls dl w = ccode p ls := by unfold scode; rw [if_pos h1]
    rw [e, if_pos (by simpa using h1)]

/-- What the checks of a schedule let pass. -/
structure GoodS (n w : Nat) (ls : List api_Link) (dl : List Int) : Prop where
  g : GoodG n ls
  full : ¬ (ord n ls).length < n
  dn : dl.length = n
  d0 : ∀ x ∈ dl, 0 ≤ x ∧ x ≤ 9007199254740992
  w0 : 0 < w
  w1 : w ≤ 16
theorem good_scode {n w : Nat} {ls : List api_Link} {dl : List Int} (S : GoodS n w ls dl) : scode n ls dl w = 0 := by
  have h1 : ccode (n : Int) ls = 0 := by rw [ccode_good S.g, if_neg S.full]
  unfold scode
  rw [if_neg (by simp [h1]), if_pos]
  refine ⟨by rw [S.dn], ?_, by have := S.w0; omega, by have := S.w1; omega⟩
  rw [List.any_eq_false]
  intro x hx
  simp [big]
  exact (S.d0 x hx).2

def duf (dl : List Int) (i : Int) : Int := (idx dl i).getD 0
theorem duf_rep {dl : List Int} {n : Nat} (h : dl.length = n) : RepV n dl (duf dl) := ⟨h, fun i h0 h1 => by
  obtain ⟨x, hx, _⟩ := idx_of (xs := dl) h0 (by omega)
  unfold duf; rw [hx]; rfl⟩
theorem duf_range {dl : List Int} (h : ∀ x ∈ dl, 0 ≤ x ∧ x ≤ 9007199254740992) (i : Int) : 0 ≤ duf dl i ∧ duf dl i ≤ 9007199254740992 := by
  unfold duf
  by_cases hi : 0 ≤ i ∧ i < dl.length
  · obtain ⟨x, hx, hm⟩ := idx_of (xs := dl) hi.1 hi.2
    rw [hx]; exact h x hm
  · have : idx dl i = none := by
      cases hx : idx dl i with
      | none => rfl
      | some x => exact absurd ⟨idx_lo hx, idx_hi hx⟩ hi
    rw [this]; simp

theorem Go1.zero {n w : Nat} {ls : List api_Link} {du : Int → Int} : Go1 n w ls du z00 (resume_scheduler.mk ls (List.replicate n (api_Slot.mk 0 0 0 0)) (List.replicate n false) (List.replicate w 0) 0, []) z00.1 0 := by
  refine ⟨⟨rfl, RepV.rep n false, RepV.rep n _, RepV.rep w 0, rfl⟩, rfl, ?_, ?_, ?_⟩
  · simp
  · simp [z00]
  · intro i; simp [z00]

/-- The schedule: where the machine's steps end. -/
structure Sched (n w : Nat) (ls : List api_Link) (du : Int → Int) (m : Ms) (out : List api_Slot) : Prop where
  st : ∃ j, it n w ls du j z00 = (m, out)
  no : nxt n w ls du (m, out) = none
  dn : Done n w ls du m out
theorem Sched.mk' {n w : Nat} {ls : List api_Link} {dl : List Int} (S : GoodS n w ls dl) {m : Ms} {out : List api_Slot} {j : Nat} (h : it n w ls (duf dl) j z00 = (m, out)) (hn : nxt n w ls (duf dl) (m, out) = none) : Sched n w ls (duf dl) m out := by
  have I := Inv.it (n := n) (w := w) (ls := ls) (du := duf dl) (fun i => (duf_range S.d0 i).1) j
  rw [h] at I
  exact ⟨⟨j, h⟩, hn, done_of S.w0 S.full S.g I hn⟩
theorem sched_good {n w : Nat} {ls : List api_Link} {dl : List Int} (S : GoodS n w ls dl) : ∃ m out, resume_Schedule.f n ls dl w = some (out, 0) ∧ Sched n w ls (duf dl) m out ∧ m.t ≤ 128 * 9007199254740992 := by
  have hn := S.g.n128
  have hw := S.w1
  unfold resume_Schedule.f
  rw [check31_ok _ _ _ _ (by have := S.g.len; rw [maxLen_eq]; omega) (by rw [S.dn, maxLen_eq]; omega), good_scode S, Option.bind_some, if_neg (by simp), mk_ok (by omega), Option.bind_some, mk_ok (by omega), Option.bind_some, mk_ok (by omega), Option.bind_some]
  obtain ⟨j, s, m, e, G, hno⟩ := sched_ok S.g (duf_rep S.dn) (duf_range S.d0) (by omega) (Go1.zero (n := n) (w := w) (ls := ls) (du := duf dl))
  rw [e]
  refine ⟨m, s.2, rfl, Sched.mk' S G.it hno, ?_⟩
  have h1 := G.t.2
  have h2 := G.c
  have h3 : (s.2.length : Int) * 9007199254740992 ≤ 128 * 9007199254740992 := Int.mul_le_mul_of_nonneg_right (by omega) (by omega)
  omega
theorem u64_range {x : Int} (h : (Lit.int .u64 x).wf = true) : 0 ≤ x ∧ x < 18446744073709551616 := by
  simp [Lit.wf, IntKind.min, IntKind.max, IntKind.signed, IntKind.bits] at h; omega

/-! ### the durations of the statements -/

theorem mod1_ok (x : Int) (k : Nat) (h0 : 0 < k) (h1 : k ≤ 15) : ∃ w : Nat, help_Mod.f x k = some ((w : Int) - 1) ∧ wi (1 + ((w : Int) - 1)) = w ∧ 0 < w ∧ w ≤ k := by
  obtain ⟨r, hr, a, b⟩ := mod_ok (x := x) (n := k) (by omega) (by omega)
  refine ⟨(r + 1).toNat, ?_, ?_, by omega, by omega⟩
  · rw [hr]; congr 1; omega
  · rw [wi_id (by omega) (by omega)]; omega
end Go.Proofs.Ythmjgadmadlpkaa.Sim

namespace Go.Proofs.Ythmjgadmadlpkaa.Sim
open Go
set_option linter.unusedVariables false
set_option maxRecDepth 100000

/-! ### sums -/

def sumB {α : Type} (f : α → Int) : List α → Int
  | [] => 0
  | a :: t => f a + sumB f t
theorem sumB_append {α : Type} (f : α → Int) : ∀ (a b : List α), sumB f (a ++ b) = sumB f a + sumB f b
  | [], b => by simp [sumB]
  | x :: a, b => by simp only [List.cons_append, sumB, sumB_append f a b]; omega
theorem sumB_perm {α : Type} (f : α → Int) {a b : List α} (h : a.Perm b) : sumB f a = sumB f b := by
  induction h with
  | nil => rfl
  | cons x _ ih => simp only [sumB, ih]
  | swap x y l => simp only [sumB]; omega
  | trans _ _ i j => rw [i, j]
theorem sumB_congr {α : Type} {f g : α → Int} : ∀ {a : List α}, (∀ x ∈ a, f x = g x) → sumB f a = sumB g a
  | [], _ => rfl
  | x :: a, h => by simp only [sumB]; rw [h x (by simp), sumB_congr (a := a) (fun y hy => h y (by simp [hy]))]
theorem sumB_map {α β : Type} (f : β → Int) (q : α → β) : ∀ (a : List α), sumB f (a.map q) = sumB (fun x => f (q x)) a
  | [] => rfl
  | x :: a => by simp only [List.map_cons, sumB, sumB_map f q a]

/-- The latest end of slots. -/
structure Mks (out : List api_Slot) (T : Int) : Prop where
  t0 : 0 ≤ T
  le : ∀ x ∈ out, x.End ≤ T
  ex : T = 0 ∨ ∃ x ∈ out, x.End = T
theorem Mks.nil : Mks [] 0 := ⟨Int.le_refl _, by simp, .inl rfl⟩
theorem Mks.snoc {out : List api_Slot} {T U : Int} (a : Mks out T) {x : api_Slot} (h : U = max T x.End) : Mks (out ++ [x]) U := by
  have := a.t0
  refine ⟨by omega, fun y hy => ?_, ?_⟩
  · rcases List.mem_append.1 hy with h' | h'
    · have := a.le y h'; omega
    · simp only [List.mem_singleton] at h'; subst h'; omega
  · by_cases c : T ≤ x.End
    · exact .inr ⟨x, by simp, by omega⟩
    · rcases a.ex with h' | ⟨y, hy, h'⟩
      · exact .inl (by omega)
      · exact .inr ⟨y, by simp [hy], by omega⟩
theorem makespan_ok (out : List api_Slot) (hl : out.length ≤ 4294967296) : ∃ T, resume_Makespan.f out = some T ∧ Mks out T := by
  unfold resume_Makespan.f
  have key : ∃ T, resume_Makespan.l0 out FUEL 0 0 = some T ∧ Mks out T := by
    refine loop_c (L := fun k (s : Int) i => resume_Makespan.l0 out k s i) out.length (fun i s => Mks (out.take i) s) (fun o => ∃ T, o = some T ∧ Mks out T) ?_ ?_ FUEL 0 0 (Nat.zero_le _) (FUEL_pos (by omega)) (by simpa using Mks.nil)
    · intro k s i hi hI
      rw [resume_Makespan.l0, if_pos (by simp; omega), idx_get hi, Option.bind_some]
      refine .inl ⟨max s out[i].End, ?_, by rw [wi_succ (by omega)]⟩
      rw [List.take_succ_eq_append_getElem hi]
      exact hI.snoc rfl
    · intro k s hI
      rw [resume_Makespan.l0, if_neg (by simp)]
      rw [List.take_length] at hI
      exact ⟨s, rfl, hI⟩
  obtain ⟨T, e, h⟩ := key
  rw [e]
  exact ⟨T, rfl, h⟩

/-- The longest chains that end at the devices. -/
structure CPath (n : Nat) (ls : List api_Link) (du h : Int → Int) : Prop where
  lo : ∀ d : Int, 0 ≤ d → d < n → du d ≤ h d
  ge : ∀ l ∈ ls, h l.Supplier + du l.Consumer ≤ h l.Consumer
  ex : ∀ d : Int, 0 ≤ d → d < n → h d = du d ∨ ∃ l ∈ ls, l.Consumer = d ∧ h d = h l.Supplier + du d
structure CMax (n : Nat) (h : Int → Int) (c : Int) : Prop where
  c0 : 0 ≤ c
  le : ∀ d : Int, 0 ≤ d → d < n → h d ≤ c
  ex : c = 0 ∨ ∃ d : Int, 0 ≤ d ∧ d < n ∧ h d = c
/-- Along the order. -/
theorem ord_ind {n : Nat} {ls : List api_Link} (hfull : ¬ (ord n ls).length < n) {P : Int → Prop} (h : ∀ d : Int, 0 ≤ d → d < n → (∀ l ∈ ls, l.Consumer = d → P l.Supplier) → P d) : ∀ d : Int, 0 ≤ d → d < n → P d := by
  have key : ∀ out, Run n ls out → ∀ v ∈ out, P v := by
    intro out ho
    induction ho with
    | nil => simp
    | @snoc out v ho hv ih =>
      intro u hu
      rcases List.mem_append.1 hu with hu | hu
      · exact ih u hu
      · simp only [List.mem_singleton] at hu; subst hu
        obtain ⟨h0, h1, h2, _⟩ := least_some hv
        obtain ⟨_, h3⟩ := free_iff.1 h2
        exact h u h0 h1 fun l hl hc => ih _ (h3 l hl hc)
  exact fun d h0 h1 => key _ (ord_run n ls).1 d (ord_full hfull h0 h1)
theorem CPath.le {n : Nat} {ls : List api_Link} {du h h' : Int → Int} (g : GoodG n ls) (hfull : ¬ (ord n ls).length < n) (a : CPath n ls du h) (b : CPath n ls du h') : ∀ d : Int, 0 ≤ d → d < n → h d ≤ h' d :=
  ord_ind hfull fun d d0 d1 ih => by
    rcases a.ex d d0 d1 with e | ⟨l, hl, hc, e⟩
    · have := b.lo d d0 d1; omega
    · have h1 := ih l hl hc
      have h2 := b.ge l hl
      rw [hc] at h2
      omega
structure CPush (n : Nat) (ls : List api_Link) (du : Int → Int) (done : List Int) (E : Int → Int) (most : Int) : Prop where
  lo : ∀ d ∈ done, du d ≤ E d
  ex : ∀ d ∈ done, E d = du d ∨ ∃ l ∈ ls, l.Consumer = d ∧ E d = E l.Supplier + du d
  ge : ∀ l ∈ ls, l.Supplier ∈ done → (l.Consumer ∈ done → E l.Supplier + du l.Consumer ≤ E l.Consumer) ∧ (l.Consumer ∉ done → E l.Supplier ≤ E l.Consumer)
  nd : ∀ d, d ∉ done → E d = 0 ∨ ∃ l ∈ ls, l.Consumer = d ∧ l.Supplier ∈ done ∧ E d = E l.Supplier
  bd : ∀ d, 0 ≤ E d ∧ E d ≤ done.length * 9007199254740992
  m0 : 0 ≤ most
  ml : ∀ d ∈ done, E d ≤ most
  mx : most = 0 ∨ ∃ d ∈ done, E d = most

/-- What one pass over the links has pushed. -/
structure Pass (n : Nat) (ls : List api_Link) (done : List Int) (E : Int → Int) (x ex : Int) (i : Nat) (F : Int → Int) : Prop where
  at_ : F x = ex
  up : ∀ d, d ≠ x → E d ≤ F d
  in_ : ∀ d ∈ done, F d = E d
  lk : ∀ l ∈ ls.take i, l.Supplier = x → ex ≤ F l.Consumer
  or_ : ∀ d, d ≠ x → F d = E d ∨ ((∃ l ∈ ls, l.Supplier = x ∧ l.Consumer = d) ∧ F d = ex)

theorem CPush.step {n : Nat} {ls : List api_Link} {du : Int → Int} (hdu : ∀ i, 0 ≤ du i ∧ du i ≤ 9007199254740992) {done : List Int} (hr : Run n ls done) {x : Int} (hx : least n ls done = some x) {E F : Int → Int} {most : Int} (P : CPush n ls du done E most) (Q : Pass n ls done E x (E x + du x) ls.length F) : CPush n ls du (done ++ [x]) F (max most (E x + du x)) := by
  obtain ⟨x0, x1, x2, _⟩ := least_some hx
  obtain ⟨x3, x4⟩ := free_iff.1 x2
  have hdx := hdu x
  have hEx := P.bd x
  have hlen : ((done ++ [x]).length : Int) = done.length + 1 := by simp
  have hfull : ∀ l ∈ ls, l.Supplier = x → E x + du x ≤ F l.Consumer := fun l hl hs => Q.lk l (by rw [List.take_length]; exact hl) hs
  have hin : ∀ d, d ∈ done ++ [x] ↔ d ∈ done ∨ d = x := fun d => by simp
  have hsup : ∀ l ∈ ls, l.Consumer ∈ done → l.Supplier ∈ done := hr.facts.2.2
  refine ⟨?_, ?_, ?_, ?_, ?_, by have := P.m0; omega, ?_, ?_⟩
  · intro d hd
    rcases (hin d).1 hd with h | h
    · rw [Q.in_ d h]; exact P.lo d h
    · rw [h, Q.at_]; omega
  · intro d hd
    rcases (hin d).1 hd with h | h
    · rw [Q.in_ d h]
      rcases P.ex d h with e | ⟨l, hl, hc, e⟩
      · exact .inl e
      · exact .inr ⟨l, hl, hc, by rw [Q.in_ _ (hsup l hl (hc ▸ h))]; exact e⟩
    · rw [h, Q.at_]
      rcases P.nd x x3 with e | ⟨l, hl, hc, hs, e⟩
      · exact .inl (by omega)
      · exact .inr ⟨l, hl, hc, by rw [Q.in_ _ hs, e]⟩
  · intro l hl hs
    rcases (hin _).1 hs with h | h
    · rw [Q.in_ _ h]
      obtain ⟨g1, g2⟩ := P.ge l hl h
      refine ⟨fun hc => ?_, fun hc => ?_⟩
      · rcases (hin _).1 hc with h' | h'
        · rw [Q.in_ _ h']; exact g1 h'
        · rw [h', Q.at_]
          have := g2 (fun h'' => x3 (h' ▸ h''))
          rw [h'] at this; omega
      · have hc1 : l.Consumer ∉ done := fun h' => hc ((hin _).2 (.inl h'))
        have hc2 : l.Consumer ≠ x := fun h' => hc ((hin _).2 (.inr h'))
        have := g2 hc1
        have := Q.up _ hc2
        omega
    · have h1 := hfull l hl h
      rw [h, Q.at_]
      refine ⟨fun hc => ?_, fun _ => h1⟩
      rcases (hin _).1 hc with h' | h'
      · exact absurd (h ▸ hsup l hl h') x3
      · exact absurd (h ▸ x4 l hl h') x3
  · intro d hd
    have hd1 : d ∉ done := fun h' => hd ((hin _).2 (.inl h'))
    have hd2 : d ≠ x := fun h' => hd ((hin _).2 (.inr h'))
    rcases Q.or_ d hd2 with e | ⟨⟨l, hl, hs, hc⟩, e⟩
    · rcases P.nd d hd1 with h | ⟨l, hl, hc, hs, h⟩
      · exact .inl (by rw [e, h])
      · exact .inr ⟨l, hl, hc, (hin _).2 (.inl hs), by rw [e, Q.in_ _ hs, h]⟩
    · exact .inr ⟨l, hl, hc, (hin _).2 (.inr hs), by rw [hs, Q.at_, e]⟩
  · intro d
    rw [hlen]
    by_cases h : d = x
    · rw [h, Q.at_]; omega
    · have := P.bd d
      rcases Q.or_ d h with e | ⟨_, e⟩ <;> rw [e] <;> omega
  · intro d hd
    rcases (hin d).1 hd with h | h
    · rw [Q.in_ d h]; have := P.ml d h; omega
    · rw [h, Q.at_]; omega
  · have := P.m0
    by_cases c : most ≤ E x + du x
    · exact .inr ⟨x, (hin x).2 (.inr rfl), by rw [Q.at_]; omega⟩
    · rcases P.mx with h | ⟨d, hd, h⟩
      · omega
      · exact .inr ⟨d, (hin d).2 (.inl hd), by rw [Q.in_ d hd, h]; omega⟩

theorem CPush.fin {n : Nat} {ls : List api_Link} {du : Int → Int} (g : GoodG n ls) (hfull : ¬ (ord n ls).length < n) {E : Int → Int} {most : Int} (P : CPush n ls du (ord n ls) E most) : CPath n ls du E ∧ CMax n E most := by
  have hin : ∀ d : Int, 0 ≤ d → d < n → d ∈ ord n ls := fun d h0 h1 => ord_full hfull h0 h1
  refine ⟨⟨fun d h0 h1 => P.lo d (hin d h0 h1), fun l hl => ?_, fun d h0 h1 => P.ex d (hin d h0 h1)⟩, ⟨P.m0, fun d h0 h1 => P.ml d (hin d h0 h1), ?_⟩⟩
  · have hc := g.c0 l hl
    have hs := g.s0 l hl
    exact (P.ge l hl (hin _ hs.1 hs.2)).1 (hin _ hc.1 hc.2)
  · rcases P.mx with h | ⟨d, hd, h⟩
    · exact .inl h
    · have := (ord_run n ls).1.facts.2.1 d hd
      exact .inr ⟨d, this.1, this.2, h⟩

/-! ### the schedule's ends and the longest chain -/

theorem ends_ge {n w : Nat} {ls : List api_Link} {du h : Int → Int} (hfull : ¬ (ord n ls).length < n) (hP : CPath n ls du h) {m : Ms} {out : List api_Slot} (D : Done n w ls du m out) : ∀ d : Int, 0 ≤ d → d < n → h d ≤ (m.s d).End :=
  ord_ind hfull fun d d0 d1 ih => by
    obtain ⟨a, b, _, _⟩ := D.inv.begun_of (D.all d d0 d1)
    have hlen := D.inv.len _ a
    have hst := D.inv.st _ a
    rw [b] at hlen
    rcases hP.ex d d0 d1 with e | ⟨l, hl, hc, e⟩
    · omega
    · have h1 := ih l hl hc
      have h2 := (D.inv.lnk l hl (by rw [hc]; exact D.all d d0 d1)).2
      rw [hc] at h2
      omega
theorem span_t {n w : Nat} {ls : List api_Link} {du : Int → Int} {m : Ms} {out : List api_Slot} (D : Done n w ls du m out) {T : Int} (M : Mks out T) : T = m.t := by
  have h0 := D.inv.t0
  have h1 : T ≤ m.t := by
    rcases M.ex with h | ⟨x, hx, h⟩
    · omega
    · have := D.ends x hx; omega
  have h2 : m.t ≤ T := by
    have := M.t0
    rcases D.inv.torg with h | ⟨x, hx, h⟩
    · omega
    · have := M.le x hx; omega
  omega
theorem perm_below {n w : Nat} {ls : List api_Link} {du : Int → Int} {m : Ms} {out : List api_Slot} (D : Done n w ls du m out) : (out.map api_Slot.Device).Perm (below n) := by
  rw [List.perm_ext_iff_of_nodup D.inv.nd (below_nodup n)]
  intro d
  rw [mem_below]
  constructor
  · intro h
    obtain ⟨x, hx, rfl⟩ := List.mem_map.1 h
    exact D.inv.dev x hx
  · rintro ⟨h0, h1⟩
    obtain ⟨a, b⟩ := D.inv.bs d (D.all d h0 h1)
    exact List.mem_map.2 ⟨_, a, b⟩
theorem awake31_ok : law31_awake.f = some true := by kernel_rfl
end Go.Proofs.Ythmjgadmadlpkaa.Sim

namespace Go.Proofs.Ythmjgadmadlpkaa.Sim
open Go
set_option linter.unusedVariables false
set_option maxRecDepth 100000

def gain (t : Int) (x : api_Slot) : Int := min x.End t - x.Start
/-- Time moves from t to u: each slot that has not ended gains as much. -/
theorem sumB_move {t u : Int} (h : t ≤ u) : ∀ {out : List api_Slot}, (∀ x ∈ out, t < x.End → u ≤ x.End) → sumB (gain u) out = sumB (gain t) out + ((out.filter (fun x => decide (t < x.End))).length : Int) * (u - t)
  | [], _ => by simp [sumB]
  | x :: out, hx => by
    have ih := sumB_move h (out := out) (fun y hy => hx y (by simp [hy]))
    have h1 := hx x (by simp)
    simp only [sumB]
    rw [ih, List.filter_cons]
    have hg : gain u x = min x.End u - x.Start := rfl
    have hg' : gain t x = min x.End t - x.Start := rfl
    by_cases c : t < x.End
    · have := h1 c
      rw [if_pos (by simpa using c), List.length_cons]
      have e : ((((out.filter (fun x => decide (t < x.End))).length + 1 : Nat)) : Int) * (u - t) = ((out.filter (fun x => decide (t < x.End))).length : Int) * (u - t) + (u - t) := by
        rw [Int.natCast_add, Int.add_mul]; simp
      rw [e]; omega
    · rw [if_neg (by simpa using c)]; omega

theorem run_le {n w : Nat} {ls : List api_Link} {du : Int → Int} {m : Ms} {out : List api_Slot} (I : Inv n w ls du m out) : (out.filter (fun x => decide (m.t < x.End))).length ≤ w := by
  have h1 : ((out.filter (fun x => decide (m.t < x.End))).map api_Slot.Worker).Nodup := by
    unfold List.Nodup
    rw [List.pairwise_map]
    refine List.Pairwise.imp_of_mem (fun {x y} hx hy h e => ?_) (I.ord.filter _)
    have hx' := (List.mem_filter.1 hx).2
    have hy' := (I.st y (List.mem_filter.1 hy).1).2
    have := h.2 e
    simp only [decide_eq_true_eq] at hx'
    omega
  have h2 := nodup_le h1 (s := below w) (fun k hk => by
    obtain ⟨x, hx, rfl⟩ := List.mem_map.1 hk
    exact mem_below.2 (I.wrk x (List.mem_filter.1 hx).1))
  rw [below_length, List.length_map] at h2
  exact h2
theorem run_ge {n w : Nat} {ls : List api_Link} {du : Int → Int} {m : Ms} {out : List api_Slot} (I : Inv n w ls du m out) (hb : ¬ 0 ≤ nextW w m) : w ≤ (out.filter (fun x => decide (m.t < x.End))).length := by
  have h1 := fst_neg hb
  have h2 := nodup_le (below_nodup w) (s := (out.filter (fun x => decide (m.t < x.End))).map api_Slot.Worker) (fun k hk => by
    obtain ⟨k0, k1⟩ := mem_below.1 hk
    have h3 := h1 k k0 k1
    simp only [decide_eq_false_iff_not] at h3
    have := I.t0
    rcases I.fex k with h | ⟨x, hx, hw, he⟩
    · omega
    · exact List.mem_map.2 ⟨x, List.mem_filter.2 ⟨hx, by simp; omega⟩, hw⟩)
  rw [below_length, List.length_map] at h2
  exact h2
theorem run_pos {n w : Nat} {ls : List api_Link} {du : Int → Int} {m : Ms} {out : List api_Slot} (I : Inv n w ls du m out) {t : Int} (ht : t ∈ running w m) : ∃ x ∈ out, x.End = t ∧ m.t < t := by
  obtain ⟨k, _, _, h1, h2⟩ := mem_running.1 ht
  have := I.t0
  rcases I.fex k with h | ⟨x, hx, hw, he⟩
  · omega
  · exact ⟨x, hx, by omega, h2⟩

/-- Work done, time in which a worker idles. -/
structure GB (n w : Nat) (du h : Int → Int) (C : Int) (m : Ms) (out : List api_Slot) (i : Int) : Prop where
  i0 : 0 ≤ i
  iC : i ≤ C
  lo : sumB (gain m.t) out ≤ w * m.t
  hi : w * m.t ≤ sumB (gain m.t) out + ((w : Int) - 1) * i
  hn : ∀ d : Int, 0 ≤ d → d < n → m.b d = false → i ≤ h d - du d
  hd : ∀ d : Int, 0 ≤ d → d < n → m.b d = true → m.t < (m.s d).End → i ≤ h d - ((m.s d).End - m.t)

theorem GB.step {n w : Nat} {ls : List api_Link} {du h : Int → Int} {C : Int} (g : GoodG n ls) (hfull : ¬ (ord n ls).length < n) (hw : 0 < w) (hdu : ∀ i, 0 ≤ du i) (hP : CPath n ls du h) (hM : CMax n h C) {m : Ms} {out : List api_Slot} (I : Inv n w ls du m out)
    {i : Int} (G : GB n w du h C m out i) {z' : Ms × List api_Slot} (hz : nxt n w ls du (m, out) = some z') : ∃ i', GB n w du h C z'.1 z'.2 i' := by
  rcases nxt_cases hz with ⟨d, k, _, _, hd, hk, hr, hf, rfl⟩ | ⟨t, hno, ht, hlo, hlt, rfl⟩
  · obtain ⟨hb, hsup⟩ := rdy_iff.1 hr
    have hd0 := hdu d
    have e : sumB (gain m.t) (out ++ [api_Slot.mk d k m.t (m.t + du d)]) = sumB (gain m.t) out := by
      rw [sumB_append]; simp only [sumB, gain]; omega
    refine ⟨i, G.i0, G.iC, ?_, ?_, ?_, ?_⟩
    · show sumB (gain m.t) _ ≤ w * m.t
      rw [e]; exact G.lo
    · show w * m.t ≤ sumB (gain m.t) _ + _
      rw [e]; exact G.hi
    · intro j j0 j1 hj
      unfold place fset at hj
      simp only at hj
      by_cases c : j = d
      · rw [if_pos c] at hj; cases hj
      · rw [if_neg c] at hj; exact G.hn j j0 j1 hj
    · intro j j0 j1 hj hl
      unfold place fset at hj hl ⊢
      simp only at hj hl ⊢
      by_cases c : j = d
      · rw [if_pos c] at hl ⊢
        have := G.hn d (by omega) (by omega) hb
        simp only at hl ⊢
        rw [c]; omega
      · rw [if_neg c] at hj hl ⊢
        exact G.hd j j0 j1 hj hl
  · have hends : ∀ x ∈ out, m.t < x.End → t ≤ x.End := fun x hx hx' => hlo _ (I.over_run hx hx')
    have hB := sumB_move (Int.le_of_lt hlt) hends
    have hrl := run_le I
    obtain ⟨x0, hx0, hx1, _⟩ := run_pos I ht
    have hr1 : 1 ≤ (out.filter (fun x => decide (m.t < x.End))).length := List.length_pos_of_mem (List.mem_filter.2 ⟨hx0, by simp; omega⟩)
    have hrg := fun hb => run_ge (n := n) (w := w) (ls := ls) (du := du) I hb
    have hbeg : ∀ d : Int, m.b d = true → m.t < (m.s d).End → t ≤ (m.s d).End := fun d hd => hends _ (I.bs d hd).1
    have GL := G.lo
    have GH := G.hi
    generalize hr : (out.filter (fun x => decide (m.t < x.End))).length = r at hB hrl hr1 hrg
    generalize hb0 : sumB (gain m.t) out = b0 at hB GL GH
    have hwt : (w : Int) * t = w * m.t + w * (t - m.t) := by rw [← Int.mul_add]; congr 1; omega
    have hrw : (r : Int) * (t - m.t) ≤ w * (t - m.t) := Int.mul_le_mul_of_nonneg_right (by omega) (by omega)
    have h1r : (t - m.t) ≤ (r : Int) * (t - m.t) := by
      have := Int.mul_le_mul_of_nonneg_right (a := 1) (b := (r : Int)) (c := t - m.t) (by omega) (by omega)
      omega
    by_cases hbusy : 0 ≤ nextW w m
    · have hnr := fst_neg (fun hd => hno ⟨hd, hbusy⟩)
      have hP' : ∀ d : Int, 0 ≤ d → d < n → m.b d = false → i + (t - m.t) ≤ h d - du d := ord_ind hfull fun d d0 d1 ih hb => by
        obtain ⟨l, hl, hc, hs⟩ := rdy_not (hnr d d0 d1) hb
        have hge := hP.ge l hl
        have hsr := g.s0 l hl
        rw [hc] at hge
        cases hB : m.b l.Supplier with
        | false =>
          have := ih l hl hc hB
          have := hdu l.Supplier
          omega
        | true =>
          have h3 := hs hB
          have h4 := hbeg _ hB h3
          have := G.hd _ hsr.1 hsr.2 hB h3
          omega
      have hwi : ((w : Int) - 1) * (i + (t - m.t)) = ((w : Int) - 1) * i + ((w : Int) - 1) * (t - m.t) := Int.mul_add _ _ _
      have hw1 : ((w : Int) - 1) * (t - m.t) = w * (t - m.t) - (t - m.t) := by rw [Int.sub_mul]; omega
      refine ⟨i + (t - m.t), by have := G.i0; omega, ?_, ?_, ?_, hP', ?_⟩
      · have hd := I.dev x0 hx0
        obtain ⟨s1, s2⟩ := I.sl x0 hx0
        have := G.hd _ hd.1 hd.2 s1 (by rw [s2]; omega)
        rw [s2] at this
        have := hM.le _ hd.1 hd.2
        omega
      · show sumB (gain t) out ≤ w * t
        rw [hB]; omega
      · show (w : Int) * t ≤ sumB (gain t) out + _
        rw [hB, hwt, hwi, hw1]; omega
      · intro d d0 d1 hb hl
        simp only at hb hl ⊢
        have := G.hd d d0 d1 hb (by omega)
        omega
    · have hrg' := hrg hbusy
      have hwr : (w : Int) * (t - m.t) ≤ r * (t - m.t) := Int.mul_le_mul_of_nonneg_right (by omega) (by omega)
      refine ⟨i, G.i0, G.iC, ?_, ?_, G.hn, ?_⟩
      · show sumB (gain t) out ≤ w * t
        rw [hB]; omega
      · show (w : Int) * t ≤ sumB (gain t) out + _
        rw [hB, hwt]; omega
      · intro d d0 d1 hb hl
        simp only at hb hl ⊢
        have := G.hd d d0 d1 hb (by omega)
        omega

theorem GB.it {n w : Nat} {ls : List api_Link} {du h : Int → Int} {C : Int} (g : GoodG n ls) (hfull : ¬ (ord n ls).length < n) (hw : 0 < w) (hdu : ∀ i, 0 ≤ du i) (hP : CPath n ls du h) (hM : CMax n h C) (k : Nat) : ∃ i, GB n w du h C (it n w ls du k z00).1 (it n w ls du k z00).2 i := by
  have := it_ind (n := n) (w := w) (ls := ls) (du := du) (P := fun m out => Inv n w ls du m out ∧ ∃ i, GB n w du h C m out i) (fun m out z' ⟨I, i, G⟩ hz => ⟨I.step hdu hz, G.step g hfull hw hdu hP hM I hz⟩) k z00 ⟨Inv.start, 0, by
    refine ⟨Int.le_refl _, hM.c0, ?_, ?_, ?_, ?_⟩
    · simp [z00, sumB]
    · simp [z00, sumB]
    · intro d d0 d1 _; have := hP.lo d d0 d1; omega
    · intro d d0 d1 hb; simp [z00] at hb⟩
  exact this.2

theorem bounds_all {n w : Nat} {ls : List api_Link} {du h : Int → Int} {C T : Int} (g : GoodG n ls) (hfull : ¬ (ord n ls).length < n) (hw : 0 < w) (hdu : ∀ i, 0 ≤ du i) (hP : CPath n ls du h) (hM : CMax n h C) {m : Ms} {out : List api_Slot} (S : Sched n w ls du m out) (M : Mks out T) :
    C ≤ T ∧ sumB du (below n) ≤ w * T ∧ w * T ≤ sumB du (below n) + ((w : Int) - 1) * C := by
  have D := S.dn
  have hT := span_t D M
  obtain ⟨j, hj⟩ := S.st
  obtain ⟨i, G⟩ := GB.it g hfull hw hdu hP hM j
  rw [hj] at G
  simp only at G
  have e : sumB (gain m.t) out = sumB du (below n) := by
    rw [← sumB_perm du (perm_below D), sumB_map]
    refine sumB_congr fun x hx => ?_
    unfold gain
    have h1 := D.ends x hx
    have h2 := D.inv.len x hx
    omega
  have h1 := G.lo
  have h2 := G.hi
  rw [e] at h1 h2
  subst hT
  have h3 : ((w : Int) - 1) * i ≤ ((w : Int) - 1) * C := Int.mul_le_mul_of_nonneg_left G.iC (by omega)
  refine ⟨?_, h1, by omega⟩
  rcases hM.ex with hc | ⟨d, d0, d1, hc⟩
  · have := D.inv.t0; omega
  · have := ends_ge hfull hP D d d0 d1
    have := D.ends _ (D.inv.bs d (D.all d d0 d1)).1
    omega
end Go.Proofs.Ythmjgadmadlpkaa.Sim

namespace Go.Proofs.Ythmjgadmadlpkaa.Sim
open Go
set_option linter.unusedVariables false
set_option maxRecDepth 100000

theorem more_l0 {p2 x : Int} (hx : wu (1 + Int.tmod p2 50) = x) {n : Nat} (hn : n ≤ 128) : law31_ResumeMoreWorkersOnIndependentDevices.l0 p2 n FUEL (List.replicate n 0) 0 = some (List.replicate n x) := by
  refine loop_c (L := fun k (s : List Int) i => law31_ResumeMoreWorkersOnIndependentDevices.l0 p2 n k s i) n (fun i s => s.length = n ∧ ∀ j (hj : j < s.length), j < i → s[j] = x) (fun o => o = some (List.replicate n x)) ?_ ?_ FUEL 0 _ (Nat.zero_le _) (FUEL_pos (by omega)) ⟨by simp, fun j _ h => by omega⟩
  · rintro k s i hi ⟨h1, h2⟩
    rw [law31_ResumeMoreWorkersOnIndependentDevices.l0, if_pos (by simp; omega), idx_get (by omega : i < s.length), Option.bind_some, wi_succ (by omega), hx]
    refine .inl ⟨_, ⟨by rw [upd_length]; exact h1, fun j hj hji => ?_⟩, rfl⟩
    rw [upd_length] at hj
    unfold upd
    simp only [Int.toNat_natCast]
    rw [List.getElem_set]
    split
    · rfl
    · exact h2 j hj (by omega)
  · rintro k s ⟨h1, h2⟩
    rw [law31_ResumeMoreWorkersOnIndependentDevices.l0, if_neg (by simp)]
    congr 1
    refine List.ext_getElem (by simp [h1]) fun j h3 h4 => ?_
    rw [h2 j h3 (by omega)]; simp

/-- Every time of the schedule is a multiple of the duration. -/
theorem more_mult {n w : Nat} {du : Int → Int} {x : Int} (hdu : ∀ i, 0 ≤ du i) (hx : ∀ d : Int, 0 ≤ d → d < n → du d = x) (j : Nat) :
    (∃ k, (it n w [] du j z00).1.t = k * x) ∧ ∀ s ∈ (it n w [] du j z00).2, ∃ k, s.End = k * x := by
  have := it_ind (n := n) (w := w) (ls := []) (du := du) (P := fun m out => Inv n w [] du m out ∧ (∃ k, m.t = k * x) ∧ ∀ s ∈ out, ∃ k, s.End = k * x) (fun m out z' ⟨I, ⟨k, hk⟩, ho⟩ hz => ⟨I.step hdu hz, by
    rcases nxt_cases hz with ⟨d, q, _, _, hd, _, _, _, rfl⟩ | ⟨t, _, ht, _, _, rfl⟩
    · refine ⟨⟨k, hk⟩, fun s hs => ?_⟩
      rcases List.mem_append.1 hs with h | h
      · exact ho s h
      · simp only [List.mem_singleton] at h
        subst h
        refine ⟨k + 1, ?_⟩
        simp only
        rw [hx d (by omega) (by omega), hk, Int.add_mul]; omega
    · obtain ⟨s, hs, he, _⟩ := run_pos I ht
      obtain ⟨k', hk'⟩ := ho s hs
      exact ⟨⟨k', by show t = k' * x; rw [← he, hk']⟩, ho⟩⟩) j z00 ⟨Inv.start, ⟨0, by simp [z00]⟩, fun s hs => by simp [z00] at hs⟩
  exact this.2

theorem sumB_const {x : Int} {f : Int → Int} : ∀ {n : Nat}, (∀ d : Int, 0 ≤ d → d < n → f d = x) → sumB f (below n) = (n : Int) * x
  | 0, _ => by simp [below, sumB]
  | n + 1, h => by
    rw [below_succ, sumB_append, sumB_const (n := n) (fun d d0 d1 => h d d0 (by omega))]
    simp only [sumB]
    rw [h n (by omega) (by omega), Int.natCast_add, Int.add_mul]; simp

theorem ord_nolinks {n : Nat} : ¬ (ord n []).length < n := fun hlt => by
  have g : GoodG n [] ∨ True := .inr trivial
  obtain ⟨u, u0, u1, hu⟩ := (show ∃ u : Int, 0 ≤ u ∧ u < n ∧ u ∉ ord n [] from by
    refine Classical.byContradiction fun hno => ?_
    have := nodup_le (below_nodup n) (s := ord n []) (fun k hk => by
      have hk' := mem_below.1 hk
      exact Classical.byContradiction fun h => hno ⟨k, hk'.1, hk'.2, h⟩)
    rw [below_length] at this; omega)
  have h := least_none.1 (ord_run n []).2 u u0 u1
  rw [Bool.eq_false_iff] at h
  exact h (free_iff.2 ⟨hu, by simp⟩)

/-- The makespan: the rounds times the duration. -/
theorem more_span {n w : Nat} {dl : List Int} {x : Int} (hx1 : 0 < x) (S : GoodS n w [] dl) (hx : ∀ d : Int, 0 ≤ d → d < n → duf dl d = x) {m : Ms} {out : List api_Slot} (SC : Sched n w [] (duf dl) m out) {T : Int} (M : Mks out T) :
    ∃ k : Int, T = k * x ∧ 0 ≤ k ∧ (n : Int) ≤ w * k ∧ w * k ≤ n + w - 1 := by
  have hdu : ∀ i, 0 ≤ duf dl i := fun i => (duf_range S.d0 i).1
  have hP : CPath n [] (duf dl) (duf dl) := ⟨fun d _ _ => Int.le_refl _, fun l hl => by simp at hl, fun d _ _ => .inl rfl⟩
  obtain ⟨c, hc, hM⟩ : ∃ c, c ≤ x ∧ CMax n (duf dl) c := by
    by_cases h0 : n = 0
    · exact ⟨0, by omega, Int.le_refl _, fun d d0 d1 => by omega, .inl rfl⟩
    · exact ⟨x, Int.le_refl _, by omega, fun d d0 d1 => by rw [hx d d0 d1]; omega, .inr ⟨0, by omega, by omega, hx 0 (by omega) (by omega)⟩⟩
  obtain ⟨_, q2, q3⟩ := bounds_all S.g S.full S.w0 hdu hP hM SC M
  rw [sumB_const hx] at q2 q3
  obtain ⟨j, hj⟩ := SC.st
  obtain ⟨⟨k, hk⟩, _⟩ := more_mult (n := n) (w := w) hdu hx j
  rw [hj] at hk
  simp only at hk
  rw [← span_t SC.dn M] at hk
  have hT0 := M.t0
  have w0 := S.w0
  have h1 : (n : Int) * x ≤ (w * k) * x := by rw [Int.mul_assoc, ← hk]; exact q2
  have h2 : ((w : Int) - 1) * c ≤ ((w : Int) - 1) * x := Int.mul_le_mul_of_nonneg_left hc (by omega)
  have h3 : ((w : Int) * k) * x ≤ ((n : Int) + (w - 1)) * x := by rw [Int.mul_assoc, ← hk, Int.add_mul]; omega
  refine ⟨k, hk, ?_, Int.le_of_mul_le_mul_right h1 hx1, by have := Int.le_of_mul_le_mul_right h3 hx1; omega⟩
  rw [hk] at hT0
  exact Int.le_of_mul_le_mul_right (by rw [Int.zero_mul]; exact hT0) hx1

theorem resumeMoreWorkersOnIndependentDevices : law31_ResumeMoreWorkersOnIndependentDevices.Pure := by
  intro p0 p1 p2 _ _ h2
  have r2 := u64_range h2
  unfold law31_ResumeMoreWorkersOnIndependentDevices.f
  obtain ⟨nn, e1, n0, n1⟩ := mod_ok (x := p0) (n := 40) (by omega) (by omega)
  obtain ⟨n, rfl⟩ := Int.eq_ofNat_of_zero_le n0
  obtain ⟨w, e2, e3, w0, w1⟩ := mod1_ok p1 15 (by omega) (by omega)
  have e2' : help_Mod.f p1 15 = some ((w : Int) - 1) := e2
  have hx : wu (1 + Int.tmod p2 50) = 1 + p2 % 50 := by rw [Int.tmod_eq_emod_of_nonneg r2.1, wu_id (by omega) (by omega)]
  generalize hxx : 1 + p2 % 50 = x at hx
  have hx0 : 0 < x ∧ x ≤ 50 := by omega
  have hw2 : wi ((w : Int) + 1) = ((w + 1 : Nat) : Int) := by rw [wi_id (by omega) (by omega)]; rfl
  rw [e1, Option.bind_some, e2', Option.bind_some, mk_ok (by omega), Option.bind_some, more_l0 hx (by omega), Option.bind_some]
  rw [e3, hw2]
  have S : ∀ v : Nat, 0 < v → v ≤ 16 → GoodS n v [] (List.replicate n x) := fun v v0 v1 => ⟨⟨by omega, by simp, by simp, by simp, by simp⟩, ord_nolinks, by simp, fun y hy => by have := List.eq_of_mem_replicate hy; omega, v0, v1⟩
  have hd : ∀ d : Int, 0 ≤ d → d < n → duf (List.replicate n x) d = x := fun d d0 d1 => by unfold duf; rw [idx_replicate d0 d1]; rfl
  obtain ⟨m1, o1, f1, SC1, tb1⟩ := sched_good (S w w0 (by omega))
  obtain ⟨m2, o2, f2, SC2, tb2⟩ := sched_good (S (w + 1) (by omega) (by omega))
  obtain ⟨T1, g1, M1⟩ := makespan_ok o1 (by have := SC1.dn.len; omega)
  obtain ⟨T2, g2, M2⟩ := makespan_ok o2 (by have := SC2.dn.len; omega)
  obtain ⟨k1, hk1, k10, a1, b1⟩ := more_span hx0.1 (S w w0 (by omega)) hd SC1 M1
  obtain ⟨k2, hk2, k20, a2, b2⟩ := more_span hx0.1 (S (w + 1) (by omega) (by omega)) hd SC2 M2
  have hle : k2 ≤ k1 := by
    refine Classical.byContradiction fun hlt => ?_
    have h3 : (w : Int) * (k1 + 1) ≤ w * k2 := Int.mul_le_mul_of_nonneg_left (by omega) (by omega)
    rw [Int.mul_add] at h3
    have h4 : ((w + 1 : Nat) : Int) * k2 = w * k2 + k2 := by rw [Int.natCast_add, Int.add_mul]; simp
    rw [h4] at b2
    omega
  have hT : T2 ≤ T1 := by rw [hk1, hk2]; exact Int.mul_le_mul_of_nonneg_right hle (by omega)
  have hdiv : Int.tdiv ((n : Int) + w - 1) w = k1 := by
    rw [Int.tdiv_eq_ediv_of_nonneg (by omega)]
    refine Int.le_antisymm ?_ ?_
    · refine Int.lt_add_one_iff.1 (Int.ediv_lt_of_lt_mul (by omega) ?_)
      rw [Int.add_mul, Int.mul_comm k1]
      omega
    · rw [Int.le_ediv_iff_mul_le (by omega), Int.mul_comm]; exact b1
  have hk1b : k1 ≤ 1000 := by
    have : 1 * k1 ≤ w * k1 := Int.mul_le_mul_of_nonneg_right (by omega) k10
    omega
  have hkx : 0 ≤ k1 * x ∧ k1 * x ≤ 50000 := by
    refine ⟨Int.mul_nonneg k10 (by omega), ?_⟩
    have := Int.mul_le_mul_of_nonneg_right (a := k1) (b := 1000) (c := x) (by omega) (by omega)
    omega
  rw [f1, Option.bind_some, f2, Option.bind_some, if_pos (by simp)]
  simp only
  rw [g2, Option.bind_some, g1, Option.bind_some, Option.bind_some, if_pos (by simpa using hT), Option.bind_some, if_neg (by omega)]
  rw [wi_id (x := (n : Int) + w) (by omega) (by omega), wi_id (x := (n : Int) + w - 1) (by omega) (by omega), hdiv, wi_id (x := k1) (by omega) (by omega), wu_id (x := k1) (by omega) (by omega), hx, wu_id hkx.1 (by omega), Option.bind_some, hk1, if_pos (by simp), awake31_ok]; rfl
end Go.Proofs.Ythmjgadmadlpkaa.Sim
