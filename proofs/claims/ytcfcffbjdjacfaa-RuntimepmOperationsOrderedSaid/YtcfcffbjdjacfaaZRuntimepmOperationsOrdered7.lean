/-
  Texts of this session, part 7 of 7: the words of the walk, plain functions with the same answers as the Go functions and the proofs of it, plain lemmas. No condition.
  They are, one behind the other: G0 G1 G2 G3 G4 E1 E2 GC QRuntimepmManagerUsage E3 E4 E5 E6 QLaw28Play E7 E8 PuOrdered.
-/
import Derived.Test.YtcfcffbjdjacfaaProg
import Derived.Test.YtcfcffbjdjacfaaZRuntimepmOperationsOrdered6

namespace Go.Proofs.Ytcfcffbjdjacfaa.Sim
open Go
set_option linter.unusedVariables false

/-! ### loops -/

theorem loop_m {σ ρ : Type} {L : Nat → σ → Option ρ} (I : σ → Prop) (μ : σ → Nat) (Q : Option ρ → Prop)
    (step : ∀ k s, I s → (∃ s', I s' ∧ μ s' < μ s ∧ L (k + 1) s = L k s') ∨ Q (L (k + 1) s)) : ∀ (fuel : Nat) (s : σ), I s → μ s < fuel → Q (L fuel s)
  | 0, s, _, h => absurd h (by omega)
  | k + 1, s, hi, h => by
    rcases step k s hi with ⟨s', h1, h2, h3⟩ | h1
    · rw [h3]; exact loop_m I μ Q step k s' h1 (by omega)
    · exact h1

/-- A loop that counts up to n. -/
theorem loop_c {σ ρ : Type} {L : Nat → σ → Int → Option ρ} (n : Nat) (I : Nat → σ → Prop) (Q : Option ρ → Prop)
    (step : ∀ k s i, i < n → I i s → (∃ s', I (i + 1) s' ∧ L (k + 1) s (i : Int) = L k s' ((i + 1 : Nat) : Int)) ∨ Q (L (k + 1) s (i : Int)))
    (fin : ∀ k s, I n s → Q (L (k + 1) s (n : Int))) : ∀ (fuel i : Nat) (s : σ), i ≤ n → n - i < fuel → I i s → Q (L fuel s (i : Int))
  | 0, i, s, _, h, _ => absurd h (by omega)
  | k + 1, i, s, h0, h, hi => by
    rcases Nat.lt_or_ge i n with hl | hl
    · rcases step k s i hl hi with ⟨s', h1, h3⟩ | h1
      · rw [h3]; exact loop_c n I Q step fin k (i + 1) s' hl (by omega) h1
      · exact h1
    · have : i = n := by omega
      subst this
      exact fin k s hi

theorem FUEL_pos {n : Nat} (h : n ≤ 9223372036854775807) : n < FUEL := by unfold FUEL; omega

/-! ### numbers -/

theorem wi_id {x : Int} (h0 : -9223372036854775808 ≤ x) (h1 : x < 9223372036854775808) : wi x = x := by
  unfold wi; simp only [IntKind.wrap, IntKind.bits, IntKind.signed, Bool.true_and]; split <;> rename_i h <;> simp at h <;> omega
theorem wu_eq (x : Int) : wu x = x % 18446744073709551616 := by
  unfold wu; simp only [IntKind.wrap, IntKind.bits, IntKind.signed, Bool.false_and]; rfl
theorem wu_id {x : Int} (h0 : 0 ≤ x) (h1 : x < 18446744073709551616) : wu x = x := by rw [wu_eq]; omega
theorem wu_range (x : Int) : 0 ≤ wu x ∧ wu x < 18446744073709551616 := by rw [wu_eq]; omega
theorem maxLen_eq : maxLen = 9223372036854775807 := rfl
theorem wi_succ {i : Nat} (h : i < 9223372036854775807) : wi ((i : Int) + 1) = ((i + 1 : Nat) : Int) := by rw [wi_id (by omega) (by omega)]; rfl

/-! ### lists -/

theorem idx_get {α : Type} {xs : List α} {i : Nat} (h : i < xs.length) : idx xs (i : Int) = some xs[i] := by
  unfold idx; rw [if_pos (by omega)]; simp [h]
theorem idx_nat {α : Type} {xs : List α} {i : Int} (h0 : 0 ≤ i) : idx xs i = xs[i.toNat]? := by
  unfold idx; rw [if_pos h0]
theorem idx_of {α : Type} {xs : List α} {i : Int} (h0 : 0 ≤ i) (h1 : i < (xs.length : Int)) : ∃ x, idx xs i = some x ∧ x ∈ xs := by
  obtain ⟨n, rfl⟩ := Int.eq_ofNat_of_zero_le h0
  have hn : n < xs.length := by omega
  exact ⟨xs[n], idx_get hn, List.getElem_mem hn⟩
theorem idx_upd {α : Type} {xs : List α} {i j : Int} {x : α} (hi : 0 ≤ i) (hj : 0 ≤ j) (hl : j < (xs.length : Int)) : idx (upd xs i x) j = if i = j then some x else idx xs j := by
  rw [idx_nat hj, idx_nat hj]
  unfold upd
  rw [List.getElem?_set]
  by_cases e : i = j
  · subst e; rw [if_pos rfl, if_pos rfl, if_pos (by omega)]
  · rw [if_neg e, if_neg (by omega)]
theorem idx_upd_some {α : Type} {xs : List α} {i j : Int} {x y : α} (hi : 0 ≤ i) (h : idx xs j = some y) : idx (upd xs i x) j = some (if i = j then x else y) := by
  rw [idx_upd hi (idx_lo h) (idx_hi h)]
  split <;> simp [h]

theorem app_ok {α : Type} {xs ys : List α} (h : xs.length + ys.length ≤ 4294967296) : app xs ys = some (xs ++ ys) := by
  unfold app; rw [if_pos h]
theorem mk_ok {α : Type} {n : Nat} {x : α} (h : n ≤ 4294967296) : mk (n : Int) x = some (List.replicate n x) := by
  unfold mk; rw [if_pos (by omega)]; rfl
theorem idx_replicate {α : Type} {n : Nat} {x : α} {i : Int} (h0 : 0 ≤ i) (h1 : i < (n : Int)) : idx (List.replicate n x) i = some x := by
  rw [idx_nat h0, List.getElem?_replicate, if_pos (by omega)]
theorem slc_front {α : Type} {xs : List α} {h : Nat} (hh : h ≤ xs.length) : slc xs 0 (h : Int) = some (xs.take h) := by
  unfold slc; rw [if_pos (by omega)]; simp
/-- A list without repetitions inside another one is not longer. -/
theorem nodup_le {α : Type} [DecidableEq α] : ∀ {l s : List α}, l.Nodup → (∀ x ∈ l, x ∈ s) → l.length ≤ s.length
  | [], _, _, _ => by simp
  | a :: t, s, hn, hs => by
    have ha := hs a (List.mem_cons_self ..)
    rw [List.nodup_cons] at hn
    have := nodup_le (l := t) (s := s.erase a) hn.2 (fun x hx => by
      have : x ≠ a := fun e => hn.1 (e ▸ hx)
      exact (List.mem_erase_of_ne this).2 (hs x (List.mem_cons_of_mem _ hx)))
    rw [List.length_erase_of_mem ha] at this
    have : 0 < s.length := List.length_pos_of_mem ha
    simp only [List.length_cons]; omega

/-- The numbers below n. -/
def below (n : Nat) : List Int := (List.range n).map (fun (i : Nat) => (i : Int))
theorem mem_below {n : Nat} {x : Int} : x ∈ below n ↔ 0 ≤ x ∧ x < n := by
  unfold below
  simp only [List.mem_map, List.mem_range]
  constructor
  · rintro ⟨a, h, rfl⟩; omega
  · rintro ⟨h0, h1⟩; exact ⟨x.toNat, by omega, by omega⟩
theorem below_length (n : Nat) : (below n).length = n := by simp [below]
theorem below_succ (n : Nat) : below (n + 1) = below n ++ [(n : Int)] := by simp [below, List.range_succ]
theorem below_nodup (n : Nat) : (below n).Nodup := by
  induction n with
  | zero => simp [below]
  | succ n ih =>
    rw [below_succ, List.nodup_append]
    refine ⟨ih, by simp, fun a ha b hb => ?_⟩
    have := (mem_below.1 ha).2
    simp only [List.mem_singleton] at hb
    omega

end Go.Proofs.Ytcfcffbjdjacfaa.Sim

namespace Go.Proofs.Ytcfcffbjdjacfaa.Sim
open Go
set_option linter.unusedVariables false

def hf (q : List Int) (i : Nat) : Int := q.getD i 0
theorem hf_get {q : List Int} {i : Nat} (h : i < q.length) : hf q i = q[i] := by simp [hf, h]
theorem idx_hf {q : List Int} {i : Nat} (h : i < q.length) : idx q (i : Int) = some (hf q i) := by rw [idx_get h, hf_get h]

def sw (q : List Int) (i j : Nat) : List Int := (q.set i (hf q j)).set j (hf q i)
theorem sw_length (q : List Int) (i j : Nat) : (sw q i j).length = q.length := by simp [sw]
theorem hf_sw {q : List Int} {i j : Nat} (hi : i < q.length) (hj : j < q.length) (k : Nat) : hf (sw q i j) k = if k = j then hf q i else if k = i then hf q j else hf q k := by
  unfold sw
  simp only [hf, List.getD_eq_getElem?_getD, List.getElem?_set, List.length_set]
  by_cases e1 : k = j
  · subst e1; simp [hj]
  · rw [if_neg (fun h => e1 h.symm), if_neg e1]
    by_cases e2 : k = i
    · subst e2; simp [hi]
    · rw [if_neg (fun h => e2 h.symm), if_neg e2]
theorem sw_perm {q : List Int} {i j : Nat} (hi : i < q.length) (hj : j < q.length) : (sw q i j).Perm q := by
  unfold sw
  rw [hf_get hi, hf_get hj]
  exact List.set_set_perm hi hj

theorem swap_ok {q : List Int} {i j : Nat} (hi : i < q.length) (hj : j < q.length) : depgraph_queue_Swap.f q (i : Int) (j : Int) = some (sw q i j) := by
  unfold depgraph_queue_Swap.f
  rw [idx_hf hj, idx_hf hi]
  simp only [Option.bind_some]
  have : (upd q (i : Int) (hf q j)).length = q.length := upd_length _ _ _
  rw [idx_get (by omega)]
  rfl
theorem less_ok {q : List Int} {i j : Nat} (hi : i < q.length) (hj : j < q.length) : depgraph_queue_Less.f q (i : Int) (j : Int) = some (decide (hf q i < hf q j)) := by
  unfold depgraph_queue_Less.f
  rw [idx_hf hj, idx_hf hi]
  rfl

/-- A heap on the first n places. -/
def Heap (q : List Int) (n : Nat) : Prop := ∀ k, 0 < k → k < n → hf q ((k - 1) / 2) ≤ hf q k

theorem Heap.min {q : List Int} {n : Nat} (h : Heap q n) : ∀ k, k < n → hf q 0 ≤ hf q k := by
  intro k
  induction k using Nat.strongRecOn with
  | _ k ih =>
    intro hk
    rcases Nat.eq_zero_or_pos k with rfl | h0
    · omega
    · have h1 := ih ((k - 1) / 2) (by omega) (by omega)
      have h2 := h k h0 hk
      omega

structure UpI (q : List Int) (j : Nat) : Prop where
  lt : j < q.length
  a : ∀ k, 0 < k → k < q.length → k ≠ j → hf q ((k - 1) / 2) ≤ hf q k
  b : ∀ k, 0 < k → k < q.length → (k - 1) / 2 = j → 0 < j → hf q ((j - 1) / 2) ≤ hf q k

theorem up_par {j : Nat} (h : j < 4294967296) : wi (Int.tdiv (wi ((j : Int) - 1)) 2) = (((j - 1) / 2 : Nat) : Int) := by
  rw [wi_id (x := (j : Int) - 1) (by omega) (by omega)]
  rcases Nat.eq_zero_or_pos j with rfl | h0
  · rw [show Int.tdiv (((0 : Nat) : Int) - 1) 2 = 0 from by decide]; exact wi_id (by omega) (by omega)
  · rw [Int.tdiv_eq_ediv_of_nonneg (by omega), wi_id (by omega) (by omega)]; omega

theorem up_ok (q : List Int) (j : Nat) (hl : q.length ≤ 4294967296) (h : UpI q j) : ∃ q', heap_up.f ⟨q⟩ (j : Int) = some ⟨q'⟩ ∧ q'.Perm q ∧ Heap q' q'.length := by
  unfold heap_up.f
  show ∃ q', (fun k (s : List Int × Nat) => heap_up.l0 k s.1 (s.2 : Int)) FUEL (q, j) = some ⟨q'⟩ ∧ _
  refine loop_m (L := fun k (s : List Int × Nat) => heap_up.l0 k s.1 (s.2 : Int)) (fun s => UpI s.1 s.2 ∧ s.1.Perm q) (fun s => s.2) (fun o => ∃ q', o = some ⟨q'⟩ ∧ q'.Perm q ∧ Heap q' q'.length) ?_ FUEL (q, j) ⟨h, List.Perm.refl _⟩ (FUEL_pos (by have := h.lt; show j ≤ _; omega))
  rintro k ⟨q1, j⟩ ⟨hi, hp⟩
  simp only at hi hp ⊢
  have hlen := hp.length_eq
  have hjl := hi.lt
  rw [heap_up.l0, up_par (by omega)]
  by_cases e : (j - 1) / 2 = j
  · have hj0 : j = 0 := by omega
    subst hj0
    refine .inr ⟨q1, by simp, hp, fun k h0 h1 => hi.a k h0 h1 (by omega)⟩
  · have hj0 : 0 < j := by omega
    rw [if_neg (by simp; omega), less_ok (by omega) (by omega)]
    simp only [Option.bind_some]
    by_cases hc : hf q1 j < hf q1 ((j - 1) / 2)
    · refine .inl ⟨(sw q1 ((j - 1) / 2) j, (j - 1) / 2), ⟨?_, (sw_perm (by omega) (by omega)).trans hp⟩, by show (j - 1) / 2 < j; omega, ?_⟩
      · have hs := fun k => hf_sw (q := q1) (i := (j - 1) / 2) (j := j) (by omega) (by omega) k
        refine ⟨by rw [sw_length]; omega, fun k h0 h1 hk => ?_, fun k h0 h1 hk hp0 => ?_⟩
        · rw [sw_length] at h1
          simp only at hk
          rw [hs, hs]
          by_cases e1 : k = j
          · subst e1
            rw [if_neg (by omega), if_pos rfl, if_pos rfl]; omega
          · rw [if_neg e1, if_neg hk]
            by_cases e2 : (k - 1) / 2 = j
            · rw [if_pos e2]; exact hi.b k h0 h1 e2 hj0
            · rw [if_neg e2]
              by_cases e3 : (k - 1) / 2 = (j - 1) / 2
              · rw [if_pos e3]
                have := hi.a k h0 h1 e1
                rw [e3] at this; omega
              · rw [if_neg e3]; exact hi.a k h0 h1 e1
        · rw [sw_length] at h1
          simp only at hk hp0 ⊢
          rw [hs, hs, if_neg (by omega), if_neg (by omega)]
          have hpar := hi.a ((j - 1) / 2) hp0 (by omega) (by omega)
          by_cases e1 : k = j
          · rw [if_pos e1]; exact hpar
          · rw [if_neg e1, if_neg (by omega)]
            have := hi.a k h0 h1 e1
            rw [hk] at this; omega
      · rw [decide_eq_true hc]
        simp only [Bool.not_true, Bool.false_eq_true, if_false]
        rw [swap_ok (by omega) (by omega)]
        rfl
    · refine .inr ⟨q1, ?_, hp, fun k h0 h1 => ?_⟩
      · rw [decide_eq_false hc]; simp
      · by_cases e1 : k = j
        · subst e1; omega
        · exact hi.a k h0 h1 e1

theorem push_ok (q : List Int) (x : Int) (hl : q.length < 4294967296) (h : Heap q q.length) : ∃ q', heap_Push.f ⟨q⟩ x = some ⟨q'⟩ ∧ q'.Perm (x :: q) ∧ Heap q' q'.length := by
  unfold heap_Push.f depgraph_queue_Push.f depgraph_queue_Len.f
  rw [app_ok (by simp; omega)]
  simp only [Option.bind_some]
  have hlen : (q ++ [x]).length = q.length + 1 := by simp
  have e : wi (((q ++ [x]).length : Int) - 1) = ((q.length : Nat) : Int) := by rw [hlen, wi_id (by omega) (by omega)]; omega
  rw [e]
  have hh : ∀ k, k < q.length → hf (q ++ [x]) k = hf q k := by
    intro k hk; rw [hf_get hk, hf_get (by omega)]; simp [hk]
  obtain ⟨q', h1, h2, h3⟩ := up_ok (q ++ [x]) q.length (by omega) ⟨by omega, fun k h0 h1 hk => by
    rw [hh k (by omega), hh _ (by omega)]; exact h k h0 (by omega), fun k h0 h1 hk _ => by omega⟩
  rw [h1]
  exact ⟨q', rfl, h2.trans (List.perm_append_singleton x q), h3⟩

structure DownI (q : List Int) (n i : Nat) : Prop where
  le : n ≤ q.length
  a : ∀ k, 0 < k → k < n → (k - 1) / 2 ≠ i → hf q ((k - 1) / 2) ≤ hf q k
  b : ∀ k, 0 < k → k < n → (k - 1) / 2 = i → 0 < i → hf q ((i - 1) / 2) ≤ hf q k

theorem down_ok (q : List Int) (n : Nat) (hl : q.length ≤ 4294967296) (h : DownI q n 0) : ∃ q' i, heap_down.l0 (n : Int) FUEL q 0 = some (i, q') ∧ q'.Perm q ∧ Heap q' n ∧ ∀ k, n ≤ k → hf q' k = hf q k := by
  show ∃ q' i, (fun k (s : List Int × Nat) => heap_down.l0 (n : Int) k s.1 (s.2 : Int)) FUEL (q, 0) = some (i, q') ∧ _
  refine loop_m (L := fun k (s : List Int × Nat) => heap_down.l0 (n : Int) k s.1 (s.2 : Int)) (fun s => DownI s.1 n s.2 ∧ s.1.Perm q ∧ (s.2 < n ∨ s.2 = 0) ∧ ∀ k, n ≤ k → hf s.1 k = hf q k) (fun s => n - s.2)
    (fun o => ∃ q' i, o = some (i, q') ∧ q'.Perm q ∧ Heap q' n ∧ ∀ k, n ≤ k → hf q' k = hf q k) ?_ FUEL (q, 0) ⟨h, List.Perm.refl _, .inr rfl, fun _ _ => rfl⟩ (FUEL_pos (by have := h.le; show n - 0 ≤ _; omega))
  rintro k ⟨q1, i⟩ ⟨hi, hp, hin, hk⟩
  simp only at hi hp hin hk ⊢
  have hlen := hp.length_eq
  have hle := hi.le
  rw [heap_down.l0]
  have e1 : wi (2 * (i : Int)) = ((2 * i : Nat) : Int) := by rw [wi_id (by omega) (by omega)]; omega
  have e2 : wi (((2 * i : Nat) : Int) + 1) = ((2 * i + 1 : Nat) : Int) := wi_succ (by omega)
  have e3 : wi (((2 * i + 1 : Nat) : Int) + 1) = ((2 * i + 2 : Nat) : Int) := wi_succ (by omega)
  rw [e1, e2, e3]
  by_cases hc : n ≤ 2 * i + 1
  · rw [if_pos (by simp; omega)]
    refine .inr ⟨q1, _, rfl, hp, fun k h0 h1 => ?_, hk⟩
    exact hi.a k h0 h1 (by omega)
  · rw [if_neg (by simp; omega)]
    -- the smaller child
    have hj : ∃ j, (j = 2 * i + 1 ∨ j = 2 * i + 2) ∧ j < n ∧ (∀ k, 0 < k → k < n → (k - 1) / 2 = i → hf q1 j ≤ hf q1 k) ∧
        ((if decide (((2 * i + 2 : Nat) : Int) < (n : Int)) = true then (depgraph_queue_Less.f q1 ((2 * i + 2 : Nat) : Int) ((2 * i + 1 : Nat) : Int)).bind fun r46 => some r46 else some false).bind fun t50 => if t50 = true then (some ((2 * i + 2 : Nat) : Int)) else (some ((2 * i + 1 : Nat) : Int)) : Option Int) = some (j : Int) := by
      by_cases h2 : 2 * i + 2 < n
      · rw [if_pos (by simp; omega), less_ok (by omega) (by omega)]
        simp only [Option.bind_some]
        by_cases h3 : hf q1 (2 * i + 2) < hf q1 (2 * i + 1)
        · refine ⟨2 * i + 2, .inr rfl, h2, fun k h0 h1 hk => ?_, by rw [decide_eq_true h3]; rfl⟩
          have : k = 2 * i + 1 ∨ k = 2 * i + 2 := by omega
          rcases this with rfl | rfl <;> omega
        · refine ⟨2 * i + 1, .inl rfl, by omega, fun k h0 h1 hk => ?_, by rw [decide_eq_false h3]; rfl⟩
          have : k = 2 * i + 1 ∨ k = 2 * i + 2 := by omega
          rcases this with rfl | rfl <;> omega
      · rw [if_neg (by simp; omega)]
        refine ⟨2 * i + 1, .inl rfl, by omega, fun k h0 h1 hk => ?_, rfl⟩
        have : k = 2 * i + 1 := by omega
        subst this; omega
    obtain ⟨j, hj1, hj2, hj3, hj4⟩ := hj
    rw [hj4]
    simp only [Option.bind_some]
    rw [less_ok (by omega) (by omega)]
    simp only [Option.bind_some]
    by_cases h5 : hf q1 j < hf q1 i
    · refine .inl ⟨(sw q1 i j, j), ⟨?_, (sw_perm (by omega) (by omega)).trans hp, .inl hj2, fun k hk' => ?_⟩, by show n - j < n - i; omega, ?_⟩
      · have hs := fun k => hf_sw (q := q1) (i := i) (j := j) (by omega) (by omega) k
        refine ⟨by rw [sw_length]; exact hle, fun k h0 h1 hk' => ?_, fun k h0 h1 hk' _ => ?_⟩
        · simp only at hk'
          rw [hs, hs, if_neg hk']
          by_cases e4 : (k - 1) / 2 = i
          · rw [if_pos e4]
            by_cases e5 : k = j
            · rw [if_pos e5]; omega
            · rw [if_neg e5, if_neg (by omega)]; exact hj3 k h0 h1 e4
          · rw [if_neg e4]
            by_cases e5 : k = j
            · omega
            · rw [if_neg e5]
              by_cases e6 : k = i
              · rw [if_pos e6]; subst e6
                exact hi.b j (by omega) hj2 (by omega) h0
              · rw [if_neg e6]; exact hi.a k h0 h1 e4
        · simp only at hk' ⊢
          rw [hs, hs, if_neg (by omega), if_pos (by omega), if_neg (by omega), if_neg (by omega)]
          have := hi.a k h0 h1 (by omega)
          rw [hk'] at this; exact this
      · simp only
        rw [hf_sw (by omega) (by omega), if_neg (by omega), if_neg (by omega)]; exact hk k hk'
      · rw [decide_eq_true h5]
        simp only [Bool.not_true, Bool.false_eq_true, if_false]
        rw [swap_ok (by omega) (by omega)]
        rfl
    · rw [decide_eq_false h5]
      refine .inr ⟨q1, _, rfl, hp, fun k h0 h1 => ?_, hk⟩
      by_cases e4 : (k - 1) / 2 = i
      · rw [e4]; have := hj3 k h0 h1 e4; omega
      · exact hi.a k h0 h1 e4

theorem pop_ok (q : List Int) (hl : q.length ≤ 4294967296) (h0 : 0 < q.length) (h : Heap q q.length) : ∃ q' x, heap_Pop.f ⟨q⟩ = some (⟨q'⟩, x) ∧ (x :: q').Perm q ∧ Heap q' q'.length ∧ ∀ y ∈ q, x ≤ y := by
  unfold heap_Pop.f depgraph_queue_Len.f heap_down.f depgraph_queue_Pop.f
  simp only [Option.bind_some]
  obtain ⟨n, hn⟩ : ∃ n, q.length = n + 1 := ⟨q.length - 1, by omega⟩
  have e : wi ((q.length : Int) - 1) = ((n : Nat) : Int) := by rw [wi_id (by omega) (by omega)]; omega
  rw [e, show (0 : Int) = ((0 : Nat) : Int) from rfl, swap_ok (by omega) (by omega)]
  simp only [Option.bind_some]
  have hs := fun k => hf_sw (q := q) (i := 0) (j := n) (by omega) (by omega) k
  obtain ⟨q', i, h1, h2, h3, h4⟩ := down_ok (sw q 0 n) n (by rw [sw_length]; exact hl) ⟨by rw [sw_length]; omega, fun k k0 k1 hk => by
    rw [hs, hs, if_neg (by omega), if_neg hk, if_neg (by omega), if_neg (by omega)]; exact h k k0 (by omega), fun k _ _ _ hh => by omega⟩
  have hlen : q'.length = n + 1 := by rw [h2.length_eq, sw_length]; exact hn
  simp only [Int.natCast_zero] at h1 ⊢
  rw [h1]
  simp only [Option.bind_some]
  have e2 : wi ((q'.length : Int) - 1) = ((n : Nat) : Int) := by rw [hlen, wi_id (by omega) (by omega)]; omega
  rw [e2, idx_hf (by omega)]
  have := slc_front (xs := q') (h := n) (by omega)
  rw [this]
  simp only [Option.bind_some]
  have hx : hf q' n = hf q 0 := by rw [h4 n (Nat.le_refl _), hs, if_pos rfl]
  have hdec : q' = q'.take n ++ [hf q' n] := by
    rw [hf_get (by omega)]
    have := List.take_append_drop n q'
    rw [List.drop_eq_getElem_cons (by omega), List.drop_of_length_le (by omega)] at this
    exact this.symm
  refine ⟨_, _, rfl, ?_, ?_, ?_⟩
  · have hp := h2.trans (sw_perm (q := q) (i := 0) (j := n) (by omega) (by omega))
    refine (List.perm_append_singleton _ _).symm.trans ?_
    rw [← hdec]; exact hp
  · intro k k0 k1
    rw [List.length_take, Nat.min_eq_left (by omega)] at k1
    have hh : ∀ k, k < n → hf (q'.take n) k = hf q' k := by
      intro k hk; rw [hf_get (by rw [List.length_take]; omega), hf_get (by omega)]; simp
    rw [hh _ (by omega), hh _ k1]
    exact h3 k k0 k1
  · intro y hy
    rw [hx]
    obtain ⟨k, hk, rfl⟩ := List.getElem_of_mem hy
    rw [← hf_get hk]
    exact h.min k hk

end Go.Proofs.Ytcfcffbjdjacfaa.Sim

namespace Go.Proofs.Ytcfcffbjdjacfaa.Sim
open Go
set_option linter.unusedVariables false

/-- A loop that looks for the first element with P. -/
theorem search_ok {α ρ : Type} {L : Nat → Int → Option (Fl ρ Unit)} (xs : List α) (P : α → Bool) (v : ρ) (hlen : xs.length ≤ maxLen)
    (hL : ∀ k (i : Nat), L (k + 1) (i : Int) = if decide ((i : Int) < (xs.length : Int)) = true then (idx xs (i : Int)).bind fun x => if P x = true then some (.out v) else L k (wi ((i : Int) + 1)) else some (.nxt ())) :
    L FUEL 0 = some (if xs.any P = true then .out v else .nxt ()) := by
  rw [maxLen_eq] at hlen
  refine loop_c (L := fun k (_ : Unit) i => L k i) xs.length (fun i _ => ∀ x ∈ xs.take i, P x = false) (fun o => o = some (if xs.any P = true then .out v else .nxt ())) ?_ ?_ FUEL 0 () (Nat.zero_le _) (FUEL_pos (by omega)) (by simp)
  · intro k s i hi hI
    simp only [hL]
    rw [if_pos (by simp; omega), idx_get hi]
    simp only [Option.bind_some]
    by_cases hp : P xs[i] = true
    · rw [if_pos hp]
      refine .inr ?_
      rw [if_pos (List.any_eq_true.2 ⟨_, List.getElem_mem hi, hp⟩)]
    · rw [if_neg hp]
      refine .inl ⟨(), ?_, by rw [wi_succ (by omega)]⟩
      intro x hx
      rw [List.take_succ_eq_append_getElem hi] at hx
      rcases List.mem_append.1 hx with h | h
      · exact hI x h
      · simp only [List.mem_singleton] at h; subst h; simpa using hp
  · intro k s hI
    simp only [hL]
    rw [if_neg (by simp)]
    rw [List.take_length] at hI
    rw [if_neg]
    intro h
    obtain ⟨x, h1, h2⟩ := List.any_eq_true.1 h
    rw [hI x h1] at h2; cases h2

/-! ### the checks -/

def badL (n : Int) (x : api_Link) : Bool := ((((decide (x.Consumer < 0)) || (decide (n ≤ x.Consumer))) || (decide (x.Supplier < 0))) || (decide (n ≤ x.Supplier)))
def vcode (n : Int) (ls : List api_Link) : Int :=
  if (((decide (n < 0)) || (decide (128 < n))) || (decide (1024 < (ls.length : Int)))) = true then 1 else if ls.any (badL n) = true then 1 else if ls.Nodup then 0 else 7

theorem nodup_take {α : Type} {xs : List α} (i : Nat) (h : xs.Nodup) : (xs.take i).Nodup := List.Sublist.nodup (List.take_sublist i xs) h

theorem mem_take_succ {α : Type} {xs : List α} {i : Nat} {x : α} (hi : i < xs.length) : x ∈ xs.take (i + 1) ↔ x ∈ xs.take i ∨ x = xs[i] := by
  rw [List.take_succ_eq_append_getElem hi, List.mem_append, List.mem_singleton]

theorem nodup_step {α : Type} {xs : List α} {i : Nat} (hi : i < xs.length) (h : (xs.take i).Nodup) : (xs.take (i + 1)).Nodup ↔ xs[i] ∉ xs.take i := by
  rw [List.take_succ_eq_append_getElem hi, List.nodup_append]
  constructor
  · rintro ⟨_, _, h3⟩ hm
    exact h3 _ hm _ (by simp) rfl
  · intro hm
    refine ⟨h, by simp, fun a ha b hb => ?_⟩
    simp only [List.mem_singleton] at hb
    subst hb
    exact fun e => hm (e ▸ ha)

theorem validate_ok (n : Int) (ls : List api_Link) (h : ls.length ≤ maxLen) : depgraph_validate.f n ls = some (vcode n ls) := by
  unfold depgraph_validate.f vcode
  by_cases h0 : (((decide (n < 0)) || (decide (128 < n))) || (decide (1024 < (ls.length : Int)))) = true
  · rw [if_pos h0, if_pos h0]
  · rw [if_neg h0, if_neg h0]
    have hlen : ls.length ≤ 1024 := by simp at h0; omega
    rw [search_ok (L := depgraph_validate.l0 n ls) ls (badL n) 1 h (fun k i => by rw [depgraph_validate.l0]; rfl)]
    by_cases hb : ls.any (badL n) = true
    · rw [if_pos hb, if_pos hb]; rfl
    · rw [if_neg hb, if_neg hb]
      simp only [Option.bind_some, Fl.go]
      have key : depgraph_validate.l1 ls FUEL [] 0 = some (if ls.Nodup then .nxt () else .out 7) := by
        refine loop_c (L := fun k (s : List api_Link) i => depgraph_validate.l1 ls k s i) ls.length (fun i s => s = ls.take i ∧ (ls.take i).Nodup) (fun o => o = some (if ls.Nodup then .nxt () else .out 7)) ?_ ?_ FUEL 0 [] (Nat.zero_le _) (FUEL_pos (by omega)) (by simp)
        · rintro k s i hi ⟨rfl, hI⟩
          rw [depgraph_validate.l1, if_pos (by simp; omega), idx_get hi]
          simp only [Option.bind_some]
          by_cases hm : ls[i] ∈ ls.take i
          · rw [if_pos (by simpa using hm)]
            refine .inr ?_
            rw [if_neg (fun hn => (nodup_step hi hI).1 (nodup_take (i + 1) hn) hm)]
          · rw [if_neg (by simpa using hm)]
            refine .inl ⟨_, ⟨?_, (nodup_step hi hI).2 hm⟩, by rw [wi_succ (by omega)]⟩
            rw [List.take_succ_eq_append_getElem hi]
        · rintro k s ⟨rfl, hI⟩
          rw [depgraph_validate.l1, if_neg (by simp)]
          rw [List.take_length] at hI
          rw [if_pos hI]
      rw [key]
      by_cases hn : ls.Nodup
      · rw [if_pos hn, if_pos hn]; rfl
      · rw [if_neg hn, if_neg hn]; rfl

/-- What the checks let pass. -/
structure GoodG (n : Nat) (ls : List api_Link) : Prop where
  n128 : n ≤ 128
  len : ls.length ≤ 1024
  c0 : ∀ l ∈ ls, 0 ≤ l.Consumer ∧ l.Consumer < n
  s0 : ∀ l ∈ ls, 0 ≤ l.Supplier ∧ l.Supplier < n
  nodup : ls.Nodup

theorem vcode_good {p : Int} {ls : List api_Link} (h : vcode p ls = 0) : ∃ n : Nat, p = n ∧ GoodG n ls := by
  unfold vcode at h
  split at h
  · cases h
  · rename_i h0
    simp only [Bool.or_eq_true, decide_eq_true_eq, not_or] at h0
    split at h
    · cases h
    · rename_i hb
      split at h
      · rename_i hn
        refine ⟨p.toNat, by omega, by omega, by omega, fun l hl => ?_, fun l hl => ?_, hn⟩
        all_goals
          have : badL p l = false := by
            rw [Bool.not_eq_true, List.any_eq_false] at hb
            simpa using hb l hl
          simp [badL] at this
          omega
      · cases h
theorem good_vcode {n : Nat} {ls : List api_Link} (g : GoodG n ls) : vcode n ls = 0 := by
  unfold vcode
  rw [if_neg (by have := g.n128; have := g.len; simp; omega), if_neg, if_pos g.nodup]
  rw [Bool.not_eq_true, List.any_eq_false]
  intro l hl
  have := g.c0 l hl
  have := g.s0 l hl
  simp [badL]; omega

/-! ### the graphs of the statements -/

theorem mod_ok {x n : Int} (h0 : 0 < n) (h1 : n < 9223372036854775808) : ∃ r, help_Mod.f x n = some r ∧ 0 ≤ r ∧ r < n := by
  have hn := wu_id (x := n) (by omega) (by omega)
  have hx := wu_range x
  refine ⟨wi (Int.tmod (wu x) (wu n)), by unfold help_Mod.f; rw [if_neg (by rw [hn]; omega)], ?_⟩
  rw [hn, Int.tmod_eq_emod_of_nonneg hx.1]
  have h2 := Int.emod_nonneg (wu x) (show n ≠ 0 by omega)
  have h3 := Int.emod_lt_of_pos (wu x) h0
  rw [wi_id (by omega) (by omega)]
  exact ⟨h2, h3⟩

end Go.Proofs.Ytcfcffbjdjacfaa.Sim

namespace Go.Proofs.Ytcfcffbjdjacfaa.Sim
open Go
set_option linter.unusedVariables false

/-! ### consumers and counts -/

def consOf (ls : List api_Link) (s : Int) : List Int := (ls.filter (fun l => l.Supplier == s)).map (·.Consumer)
def rem (ls : List api_Link) (out : List Int) (c : Int) : Nat := ls.countP (fun l => (l.Consumer == c) && decide (l.Supplier ∉ out))

theorem mem_consOf {ls : List api_Link} {s c : Int} : c ∈ consOf ls s ↔ api_Link.mk c s ∈ ls := by
  unfold consOf
  simp only [List.mem_map, List.mem_filter, beq_iff_eq]
  constructor
  · rintro ⟨l, ⟨h1, h2⟩, rfl⟩; subst h2; exact h1
  · intro h; exact ⟨_, ⟨h, rfl⟩, rfl⟩

theorem rem_split {out : List Int} {x : Int} (hx : x ∉ out) : ∀ (ls : List api_Link) (c : Int), rem ls out c = rem ls (out ++ [x]) c + (consOf ls x).count c
  | [], c => by simp [rem, consOf]
  | l :: t, c => by
    have ih := rem_split hx t c
    unfold rem consOf at ih ⊢
    simp only [List.countP_cons, List.filter_cons]
    by_cases h1 : l.Consumer = c <;> by_cases h2 : l.Supplier = x <;> by_cases h4 : l.Supplier ∈ out <;> grind

theorem consOf_snoc (ls : List api_Link) (l : api_Link) (s : Int) : consOf (ls ++ [l]) s = if l.Supplier = s then consOf ls s ++ [l.Consumer] else consOf ls s := by
  unfold consOf
  by_cases h : l.Supplier = s <;> simp [List.filter_append, h]
theorem rem_snoc (ls : List api_Link) (l : api_Link) (c : Int) : rem (ls ++ [l]) [] c = rem ls [] c + if l.Consumer = c then 1 else 0 := by
  unfold rem
  by_cases h : l.Consumer = c <;> simp [List.countP_append, h]
theorem rem_le (ls : List api_Link) (out : List Int) (c : Int) : rem ls out c ≤ ls.length := List.countP_le_length
theorem consOf_le (ls : List api_Link) (s : Int) : (consOf ls s).length ≤ ls.length := by
  unfold consOf; rw [List.length_map]; exact List.length_filter_le _ _

theorem adjacent_ok {n : Nat} {ls : List api_Link} (g : GoodG n ls) : ∃ adj cnt, depgraph_adjacent.f (n : Int) ls = some (adj, cnt) ∧ adj.length = n ∧ cnt.length = n ∧ ∀ v, 0 ≤ v → v < (n : Int) → idx adj v = some (consOf ls v) ∧ idx cnt v = some (rem ls [] v : Int) := by
  have hn := g.n128
  have hl := g.len
  unfold depgraph_adjacent.f
  rw [mk_ok (by omega), mk_ok (by omega)]
  simp only [Option.bind_some]
  have key : ∃ adj cnt, depgraph_adjacent.l0 ls FUEL (List.replicate n []) (List.replicate n 0) 0 = some (adj, cnt) ∧ adj.length = n ∧ cnt.length = n ∧ ∀ v, 0 ≤ v → v < (n : Int) → idx adj v = some (consOf ls v) ∧ idx cnt v = some (rem ls [] v : Int) := by
    refine loop_c (L := fun k (s : List (List Int) × List Int) i => depgraph_adjacent.l0 ls k s.1 s.2 i) ls.length (fun i s => s.1.length = n ∧ s.2.length = n ∧ ∀ v, 0 ≤ v → v < (n : Int) → idx s.1 v = some (consOf (ls.take i) v) ∧ idx s.2 v = some (rem (ls.take i) [] v : Int))
      (fun o => ∃ adj cnt, o = some (adj, cnt) ∧ adj.length = n ∧ cnt.length = n ∧ ∀ v, 0 ≤ v → v < (n : Int) → idx adj v = some (consOf ls v) ∧ idx cnt v = some (rem ls [] v : Int)) ?_ ?_ FUEL 0 (_, _) (Nat.zero_le _) (FUEL_pos (by omega)) ?_
    · rintro k ⟨adj, cnt⟩ i hi ⟨h1, h2, h3⟩
      simp only at h1 h2 h3 ⊢
      have hm := List.getElem_mem hi
      have hc := g.c0 _ hm
      have hs := g.s0 _ hm
      rw [depgraph_adjacent.l0, if_pos (by simp; omega), idx_get hi]
      simp only [Option.bind_some]
      have hcl := consOf_le (ls.take i) ls[i].Supplier
      rw [List.length_take] at hcl
      have hrl := rem_le (ls.take i) [] ls[i].Consumer
      rw [List.length_take] at hrl
      rw [(h3 _ hs.1 hs.2).1]
      simp only [Option.bind_some]
      rw [app_ok (by simp only [List.length_singleton]; omega)]
      simp only [Option.bind_some]
      rw [(h3 _ hc.1 hc.2).2]
      simp only [Option.bind_some]
      refine .inl ⟨(upd adj ls[i].Supplier (consOf (ls.take i) ls[i].Supplier ++ [ls[i].Consumer]), upd cnt ls[i].Consumer ((rem (ls.take i) [] ls[i].Consumer + 1 : Nat) : Int)), ?_, by rw [wi_succ (by omega), wi_succ (by omega)]⟩
      refine ⟨by rw [upd_length]; exact h1, by rw [upd_length]; exact h2, fun v v0 v1 => ?_⟩
      rw [idx_upd (xs := adj) hs.1 v0 (by omega), idx_upd (xs := cnt) hc.1 v0 (by omega), List.take_succ_eq_append_getElem hi, consOf_snoc, rem_snoc]
      obtain ⟨q1, q2⟩ := h3 v v0 v1
      constructor
      · by_cases e : ls[i].Supplier = v
        · subst e; rw [if_pos rfl, if_pos rfl]
        · rw [if_neg e, if_neg e]; exact q1
      · by_cases e : ls[i].Consumer = v
        · subst e; rw [if_pos rfl, if_pos rfl]
        · rw [if_neg e, if_neg e]; exact q2
    · rintro k ⟨adj, cnt⟩ ⟨h1, h2, h3⟩
      simp only at h1 h2 h3 ⊢
      rw [depgraph_adjacent.l0, if_neg (by simp)]
      rw [List.take_length] at h3
      exact ⟨adj, cnt, rfl, h1, h2, h3⟩
    · refine ⟨by simp, by simp, fun v v0 v1 => ?_⟩
      simp only
      rw [idx_replicate v0 v1, idx_replicate v0 v1]
      simp [consOf, rem]
  obtain ⟨adj, cnt, h1, h2⟩ := key
  rw [h1]
  exact ⟨adj, cnt, rfl, h2⟩

/-! ### the order -/

def free (ls : List api_Link) (out : List Int) (v : Int) : Bool := decide (v ∉ out) && ls.all (fun l => !(l.Consumer == v) || decide (l.Supplier ∈ out))
def least (n : Nat) (ls : List api_Link) (out : List Int) : Option Int := (below n).find? (free ls out)

theorem free_iff {ls : List api_Link} {out : List Int} {v : Int} : free ls out v = true ↔ v ∉ out ∧ ∀ l ∈ ls, l.Consumer = v → l.Supplier ∈ out := by
  unfold free
  simp only [Bool.and_eq_true, decide_eq_true_eq, List.all_eq_true, Bool.or_eq_true, Bool.not_eq_true', beq_eq_false_iff_ne, ne_eq]
  constructor
  · rintro ⟨h1, h2⟩; exact ⟨h1, fun l hl e => (h2 l hl).resolve_left (fun h => h e)⟩
  · rintro ⟨h1, h2⟩; exact ⟨h1, fun l hl => by by_cases e : l.Consumer = v <;> simp [e, h2 l hl]⟩

theorem free_rem {ls : List api_Link} {out : List Int} {v : Int} : free ls out v = true ↔ v ∉ out ∧ rem ls out v = 0 := by
  rw [free_iff]
  unfold rem
  rw [List.countP_eq_zero]
  simp only [Bool.and_eq_true, beq_iff_eq, decide_eq_true_eq, not_and, Decidable.not_not]

theorem find_below (P : Int → Bool) : ∀ (n : Nat), ((∀ u : Int, 0 ≤ u → u < n → P u = false) ∧ (below n).find? P = none) ∨ ∃ v : Int, 0 ≤ v ∧ v < n ∧ P v = true ∧ (∀ u : Int, 0 ≤ u → u < v → P u = false) ∧ (below n).find? P = some v
  | 0 => .inl ⟨fun u h0 h1 => by omega, by simp [below]⟩
  | n + 1 => by
    rw [below_succ, List.find?_append]
    rcases find_below P n with ⟨h1, h2⟩ | ⟨v, h1, h2, h3, h4, h5⟩
    · rw [h2]
      by_cases hp : P (n : Int) = true
      · exact .inr ⟨n, by omega, by omega, hp, h1, by simp [hp]⟩
      · refine .inl ⟨fun u h0 h3 => ?_, by simp [hp]⟩
        by_cases e : u = n
        · subst e; simpa using hp
        · exact h1 u h0 (by omega)
    · exact .inr ⟨v, h1, by omega, h3, h4, by rw [h5]; rfl⟩

theorem least_of {n : Nat} {ls : List api_Link} {out : List Int} {v : Int} (h0 : 0 ≤ v) (h1 : v < n) (h2 : free ls out v = true) (h3 : ∀ u, 0 ≤ u → u < v → free ls out u = false) : least n ls out = some v := by
  rcases find_below (free ls out) n with ⟨h4, h5⟩ | ⟨u, h4, h5, h6, h7, h8⟩
  · rw [h4 v h0 h1] at h2; cases h2
  · have : u = v := by
      rcases Int.lt_trichotomy u v with h | h | h
      · rw [h3 u h4 h] at h6; cases h6
      · exact h
      · rw [h7 v h0 h] at h2; cases h2
    subst this; exact h8
theorem least_some {n : Nat} {ls : List api_Link} {out : List Int} {v : Int} (h : least n ls out = some v) : 0 ≤ v ∧ v < n ∧ free ls out v = true ∧ ∀ u, 0 ≤ u → u < v → free ls out u = false := by
  rcases find_below (free ls out) n with ⟨h4, h5⟩ | ⟨u, h4, h5, h6, h7, h8⟩
  · unfold least at h; rw [h5] at h; cases h
  · unfold least at h; rw [h8] at h; injection h with h; subst h; exact ⟨h4, h5, h6, h7⟩
theorem least_none {n : Nat} {ls : List api_Link} {out : List Int} : least n ls out = none ↔ ∀ u : Int, 0 ≤ u → u < n → free ls out u = false := by
  rcases find_below (free ls out) n with ⟨h4, h5⟩ | ⟨u, h4, h5, h6, h7, h8⟩
  · exact ⟨fun _ => h4, fun _ => h5⟩
  · refine ⟨fun h => ?_, fun h => ?_⟩
    · unfold least at h; rw [h8] at h; cases h
    · rw [h u h4 h5] at h6; cases h6

inductive Run (n : Nat) (ls : List api_Link) : List Int → Prop where
  | nil : Run n ls []
  | snoc {out : List Int} {v : Int} (h : Run n ls out) (hv : least n ls out = some v) : Run n ls (out ++ [v])

theorem Run.facts {n : Nat} {ls : List api_Link} {out : List Int} (h : Run n ls out) : out.Nodup ∧ (∀ v ∈ out, 0 ≤ v ∧ v < n) ∧ ∀ l ∈ ls, l.Consumer ∈ out → l.Supplier ∈ out := by
  induction h with
  | nil => simp
  | @snoc out v h hv ih =>
    obtain ⟨h1, h2, h3⟩ := ih
    obtain ⟨h4, h5, h6, h7⟩ := least_some hv
    obtain ⟨h8, h9⟩ := free_iff.1 h6
    refine ⟨?_, fun u hu => ?_, fun l hl hc => ?_⟩
    · rw [List.nodup_append]
      refine ⟨h1, by simp, fun a ha b hb => ?_⟩
      simp only [List.mem_singleton] at hb
      subst hb
      exact fun e => h8 (e ▸ ha)
    · rcases List.mem_append.1 hu with hu | hu
      · exact h2 u hu
      · simp only [List.mem_singleton] at hu; subst hu; exact ⟨h4, h5⟩
    · rcases List.mem_append.1 hc with hc | hc
      · exact List.mem_append.2 (.inl (h3 l hl hc))
      · simp only [List.mem_singleton] at hc
        exact List.mem_append.2 (.inl (h9 l hl hc))
theorem Run.length_le {n : Nat} {ls : List api_Link} {out : List Int} (h : Run n ls out) : out.length ≤ n := by
  have := nodup_le h.facts.1 (fun x hx => mem_below.2 (h.facts.2.1 x hx))
  rwa [below_length] at this

def greedy (n : Nat) (ls : List api_Link) : Nat → List Int → List Int
  | 0, out => out
  | k + 1, out => match least n ls out with
    | none => out
    | some v => greedy n ls k (out ++ [v])
def ord (n : Nat) (ls : List api_Link) : List Int := greedy n ls (n + 1) []

theorem Run.greedy {n : Nat} {ls : List api_Link} {out : List Int} (h : Run n ls out) (k : Nat) : Sim.greedy n ls (k + out.length) [] = Sim.greedy n ls k out := by
  induction h generalizing k with
  | nil => rfl
  | @snoc out v h hv ih =>
    have := ih (k + 1)
    rw [show k + 1 + out.length = k + (out ++ [v]).length from by simp; omega] at this
    rw [this, Sim.greedy, hv]
theorem Run.ord {n : Nat} {ls : List api_Link} {out : List Int} (h : Run n ls out) (hn : least n ls out = none) : out = Sim.ord n ls := by
  have h1 := h.length_le
  have h2 := h.greedy (n + 1 - out.length)
  rw [show n + 1 - out.length + out.length = n + 1 from by omega] at h2
  unfold Sim.ord
  rw [h2, show n + 1 - out.length = (n - out.length) + 1 from by omega, Sim.greedy, hn]
theorem greedy_run {n : Nat} {ls : List api_Link} : ∀ (k : Nat) (out : List Int), Run n ls out → n < k + out.length → Run n ls (greedy n ls k out) ∧ least n ls (greedy n ls k out) = none
  | 0, out, h, hk => by have := h.length_le; omega
  | k + 1, out, h, hk => by
    rw [greedy]
    split
    · rename_i hn; exact ⟨h, hn⟩
    · rename_i v hv; exact greedy_run k _ (h.snoc hv) (by simp; omega)
theorem ord_run (n : Nat) (ls : List api_Link) : Run n ls (ord n ls) ∧ least n ls (ord n ls) = none := greedy_run _ _ .nil (by simp)
theorem ord_le (n : Nat) (ls : List api_Link) : (ord n ls).length ≤ n := (ord_run n ls).1.length_le

/-! ### the program's way -/

structure Que (n : Nat) (q : List Int) (P : Int → Prop) : Prop where
  heap : Heap q q.length
  nodup : q.Nodup
  mem : ∀ v, v ∈ q ↔ 0 ≤ v ∧ v < (n : Int) ∧ P v

theorem Que.len {n : Nat} {q : List Int} {P : Int → Prop} (h : Que n q P) : q.length ≤ n := by
  have := nodup_le h.nodup (fun x hx => mem_below.2 ⟨((h.mem x).1 hx).1, ((h.mem x).1 hx).2.1⟩)
  rwa [below_length] at this
theorem Que.congr {n : Nat} {q : List Int} {P Q : Int → Prop} (h : Que n q P) (hpq : ∀ v, 0 ≤ v → v < (n : Int) → (P v ↔ Q v)) : Que n q Q :=
  ⟨h.heap, h.nodup, fun v => by rw [h.mem]; constructor <;> rintro ⟨a, b, c⟩; exact ⟨a, b, (hpq v a b).1 c⟩; exact ⟨a, b, (hpq v a b).2 c⟩⟩
theorem Que.push {n : Nat} {q : List Int} {P : Int → Prop} (h : Que n q P) (hn : n ≤ 128) {x : Int} (h0 : 0 ≤ x) (h1 : x < n) (hx : ¬ P x) : ∃ q', heap_Push.f ⟨q⟩ x = some ⟨q'⟩ ∧ Que n q' (fun v => v = x ∨ P v) := by
  have hl := h.len
  obtain ⟨q', e, hp, hh⟩ := push_ok q x (by omega) h.heap
  refine ⟨q', e, hh, ?_, fun v => ?_⟩
  · rw [hp.nodup_iff, List.nodup_cons]
    exact ⟨fun hm => hx ((h.mem x).1 hm).2.2, h.nodup⟩
  · rw [hp.mem_iff, List.mem_cons, h.mem]
    constructor
    · rintro (rfl | ⟨a, b, c⟩)
      · exact ⟨h0, h1, .inl rfl⟩
      · exact ⟨a, b, .inr c⟩
    · rintro ⟨a, b, rfl | c⟩
      · exact .inl rfl
      · exact .inr ⟨a, b, c⟩

theorem sort_l0 {n : Nat} (hn : n ≤ 128) {adj : List (List Int)} {cnt : List Int} (hc : cnt.length = n) : ∃ q, depgraph_sort.l0 (adj, cnt) FUEL [] 0 = some q ∧ Que n q (fun v => idx cnt v = some 0) := by
  refine loop_c (L := fun k (s : List Int) i => depgraph_sort.l0 (adj, cnt) k s i) n (fun i s => Que n s (fun v => v < (i : Int) ∧ idx cnt v = some 0)) (fun o => ∃ q, o = some q ∧ Que n q (fun v => idx cnt v = some 0)) ?_ ?_ FUEL 0 [] (Nat.zero_le _) (FUEL_pos (by omega)) ⟨fun k h0 h1 => by simp at h1, by simp, fun v => by simp; omega⟩
  · rintro k s i hi hq
    rw [depgraph_sort.l0, if_pos (by show decide ((i : Int) < (cnt.length : Int)) = true; simp; omega), idx_get (xs := cnt) (by omega)]
    simp only [Option.bind_some]
    by_cases e : cnt[i] = 0
    · rw [if_pos (by simp [e])]
      obtain ⟨q', h1, h2⟩ := hq.push hn (x := (i : Int)) (by omega) (by omega) (fun h => by omega)
      rw [h1]
      refine .inl ⟨q', h2.congr (fun v v0 v1 => ?_), by rw [wi_succ (by omega)]; rfl⟩
      constructor
      · rintro (rfl | ⟨h3, h4⟩)
        · exact ⟨by omega, by rw [idx_get (by omega), e]⟩
        · exact ⟨by omega, h4⟩
      · rintro ⟨h3, h4⟩
        by_cases e2 : v = i
        · exact .inl e2
        · exact .inr ⟨by omega, h4⟩
    · rw [if_neg (by simp [e])]
      refine .inl ⟨s, hq.congr (fun v v0 v1 => ?_), by rw [wi_succ (by omega)]; rfl⟩
      constructor
      · rintro ⟨h3, h4⟩; exact ⟨by omega, h4⟩
      · rintro ⟨h3, h4⟩
        by_cases e2 : v = i
        · subst e2; rw [idx_get (by omega)] at h4; injection h4 with h4; exact absurd h4 e
        · exact ⟨by omega, h4⟩
  · rintro k s hq
    rw [depgraph_sort.l0, if_neg (by simp only [decide_eq_true_eq]; omega)]
    exact ⟨s, rfl, hq.congr (fun v v0 v1 => ⟨fun h => h.2, fun h => ⟨v1, h⟩⟩)⟩

theorem sort_l2 {n : Nat} {ls : List api_Link} (g : GoodG n ls) {out : List Int} (hr : Run n ls out) {x : Int} (hx : least n ls out = some x) {cnt q : List Int} (hc : cnt.length = n) (hcv : ∀ v : Int, 0 ≤ v → v < n → idx cnt v = some (rem ls out v : Int)) (hq : Que n q (fun v => v ∉ out ++ [x] ∧ idx cnt v = some 0)) :
    ∃ cnt' q', depgraph_sort.l2 (out ++ [x]) (consOf ls x) FUEL cnt q 0 = some (.nxt (cnt', q', out ++ [x])) ∧ cnt'.length = n ∧ (∀ v : Int, 0 ≤ v → v < n → idx cnt' v = some (rem ls (out ++ [x]) v : Int)) ∧ Que n q' (fun v => v ∉ out ++ [x] ∧ idx cnt' v = some 0) := by
  have hn := g.n128
  have hl := g.len
  have hcl := consOf_le ls x
  obtain ⟨x0, x1, hfree, _⟩ := least_some hx
  obtain ⟨hxo, hxs⟩ := free_iff.1 hfree
  have hmem : ∀ c ∈ consOf ls x, (0 ≤ c ∧ c < n) ∧ c ∉ out ++ [x] := by
    intro c hc
    have hm := mem_consOf.1 hc
    refine ⟨g.c0 _ hm, fun h => ?_⟩
    rcases List.mem_append.1 h with h | h
    · exact hxo (hr.facts.2.2 _ hm h)
    · simp only [List.mem_singleton] at h
      exact hxo (hxs _ hm h)
  refine loop_c (L := fun k (s : List Int × List Int) i => depgraph_sort.l2 (out ++ [x]) (consOf ls x) k s.1 s.2 i) (consOf ls x).length
    (fun i s => s.1.length = n ∧ (∀ v : Int, 0 ≤ v → v < n → idx s.1 v = some ((rem ls (out ++ [x]) v + ((consOf ls x).drop i).count v : Nat) : Int)) ∧ Que n s.2 (fun v => v ∉ out ++ [x] ∧ idx s.1 v = some 0))
    (fun o => ∃ cnt' q', o = some (.nxt (cnt', q', out ++ [x])) ∧ cnt'.length = n ∧ (∀ v : Int, 0 ≤ v → v < n → idx cnt' v = some (rem ls (out ++ [x]) v : Int)) ∧ Que n q' (fun v => v ∉ out ++ [x] ∧ idx cnt' v = some 0)) ?_ ?_ FUEL 0 (cnt, q) (Nat.zero_le _) (FUEL_pos (by omega)) ⟨hc, fun v v0 v1 => by rw [hcv v v0 v1, rem_split hxo]; rfl, hq⟩
  · rintro k ⟨cn, qq⟩ i hi ⟨i1, i2, i3⟩
    simp only at i1 i2 i3 ⊢
    obtain ⟨⟨c0, c1⟩, co⟩ := hmem _ (List.getElem_mem hi)
    rw [depgraph_sort.l2, if_pos (by simp; omega), idx_get hi]
    simp only [Option.bind_some]
    generalize hcc : (consOf ls x)[i] = c at *
    have hdrop : (consOf ls x).drop i = c :: (consOf ls x).drop (i + 1) := by rw [List.drop_eq_getElem_cons hi, hcc]
    have hcur := i2 c c0 c1
    have hrle := rem_le ls (out ++ [x]) c
    have hcle : ((consOf ls x).drop (i + 1)).count c ≤ (consOf ls x).length := Nat.le_trans List.count_le_length (by simp)
    rw [hdrop, List.count_cons_self] at hcur
    rw [hcur]
    simp only [Option.bind_some]
    have e1 : wi (((rem ls (out ++ [x]) c + (((consOf ls x).drop (i + 1)).count c + 1) : Nat) : Int) - 1) = ((rem ls (out ++ [x]) c + ((consOf ls x).drop (i + 1)).count c : Nat) : Int) := by
      rw [wi_id (by omega) (by omega)]; omega
    rw [e1]
    have hnew : ∀ v : Int, 0 ≤ v → v < n → idx (upd cn c ((rem ls (out ++ [x]) c + ((consOf ls x).drop (i + 1)).count c : Nat) : Int)) v = some ((rem ls (out ++ [x]) v + ((consOf ls x).drop (i + 1)).count v : Nat) : Int) := by
      intro v v0 v1
      rw [idx_upd (xs := cn) c0 v0 (by omega)]
      by_cases e : c = v
      · subst e; rw [if_pos rfl]
      · rw [if_neg e, i2 v v0 v1, hdrop, List.count_cons_of_ne e]
    rw [hnew c c0 c1]
    simp only [Option.bind_some]
    have hne : ∀ v, v ≠ c → 0 ≤ v → v < (n : Int) → (idx (upd cn c ((rem ls (out ++ [x]) c + ((consOf ls x).drop (i + 1)).count c : Nat) : Int)) v = some 0 ↔ idx cn v = some 0) := by
      intro v hv v0 v1
      rw [idx_upd (xs := cn) c0 v0 (by omega), if_neg (fun e => hv e.symm)]
    have hpos : idx cn c ≠ some 0 := by
      rw [hcur]; intro h; injection h with h; omega
    by_cases hz : (rem ls (out ++ [x]) c + ((consOf ls x).drop (i + 1)).count c) = 0
    · rw [if_pos (by rw [hz]; rfl)]
      obtain ⟨q', p1, p2⟩ := i3.push hn c0 c1 (fun h => hpos h.2)
      rw [p1]
      refine .inl ⟨(upd cn c ((rem ls (out ++ [x]) c + ((consOf ls x).drop (i + 1)).count c : Nat) : Int), q'), ⟨by rw [upd_length]; exact i1, hnew, p2.congr (fun v v0 v1 => ?_)⟩, by rw [wi_succ (by omega)]; rfl⟩
      by_cases e : v = c
      · subst e
        refine ⟨fun _ => ⟨co, by rw [hnew v c0 c1, hz]; rfl⟩, fun _ => .inl rfl⟩
      · constructor
        · rintro (h | ⟨h1, h2⟩)
          · exact absurd h e
          · exact ⟨h1, (hne v e v0 v1).2 h2⟩
        · rintro ⟨h1, h2⟩; exact .inr ⟨h1, (hne v e v0 v1).1 h2⟩
    · rw [if_neg (by simp only [beq_iff_eq]; omega)]
      refine .inl ⟨(upd cn c ((rem ls (out ++ [x]) c + ((consOf ls x).drop (i + 1)).count c : Nat) : Int), qq), ⟨by rw [upd_length]; exact i1, hnew, i3.congr (fun v v0 v1 => ?_)⟩, by rw [wi_succ (by omega)]; rfl⟩
      by_cases e : v = c
      · subst e
        refine ⟨fun h => absurd h.2 hpos, fun h => ?_⟩
        have h2 := h.2
        rw [hnew v c0 c1] at h2
        injection h2 with h2; omega
      · exact ⟨fun h => ⟨h.1, (hne v e v0 v1).2 h.2⟩, fun h => ⟨h.1, (hne v e v0 v1).1 h.2⟩⟩
  · rintro k ⟨cn, qq⟩ ⟨i1, i2, i3⟩
    simp only at i1 i2 i3 ⊢
    rw [depgraph_sort.l2, if_neg (by simp)]
    refine ⟨cn, qq, rfl, i1, fun v v0 v1 => ?_, i3⟩
    rw [i2 v v0 v1, List.drop_length]; rfl

theorem sort_ok {n : Nat} {ls : List api_Link} (g : GoodG n ls) : depgraph_sort.f (n : Int) ls = some (ord n ls) := by
  have hn := g.n128
  unfold depgraph_sort.f
  obtain ⟨adj, cnt, ha, hal, hcl, hac⟩ := adjacent_ok g
  rw [ha]
  simp only [Option.bind_some]
  obtain ⟨q, h1, h2⟩ := sort_l0 (n := n) hn (adj := adj) (cnt := cnt) hcl
  rw [h1]
  simp only [Option.bind_some]
  have key : depgraph_sort.l1 (adj, cnt) FUEL cnt q [] = some (ord n ls) := by
    refine loop_m (L := fun k (s : List Int × List Int × List Int) => depgraph_sort.l1 (adj, cnt) k s.1 s.2.1 s.2.2) (fun s => Run n ls s.2.2 ∧ s.1.length = n ∧ (∀ v : Int, 0 ≤ v → v < n → idx s.1 v = some (rem ls s.2.2 v : Int)) ∧ Que n s.2.1 (fun v => v ∉ s.2.2 ∧ idx s.1 v = some 0))
      (fun s => n - s.2.2.length) (fun o => o = some (ord n ls)) ?_ FUEL (cnt, q, []) ⟨.nil, hcl, fun v v0 v1 => (hac v v0 v1).2, h2.congr (fun v _ _ => by simp)⟩ (FUEL_pos (by show n - 0 ≤ _; omega))
    rintro k ⟨cn, qq, out⟩ ⟨i1, i2, i3, i4⟩
    simp only at i1 i2 i3 i4 ⊢
    have hlen := i1.length_le
    have hql := i4.len
    have hiff : ∀ v : Int, 0 ≤ v → v < n → ((v ∉ out ∧ idx cn v = some 0) ↔ free ls out v = true) := by
      intro v v0 v1
      rw [free_rem, i3 v v0 v1]
      constructor
      · rintro ⟨h1, h2⟩; injection h2 with h2; exact ⟨h1, by omega⟩
      · rintro ⟨h1, h2⟩; exact ⟨h1, by rw [h2]; rfl⟩
    rw [depgraph_sort.l1]
    by_cases h0 : 0 < qq.length
    · rw [if_pos (by simp; omega)]
      obtain ⟨q', x, p1, p2, p3, p4⟩ := pop_ok qq (by omega) h0 i4.heap
      rw [p1]
      simp only [Option.bind_some, Bool.not_true, Bool.false_eq_true, if_false]
      have hxq : x ∈ qq := p2.mem_iff.1 (List.mem_cons_self ..)
      obtain ⟨x0, x1, hxf⟩ := (i4.mem x).1 hxq
      have hx : least n ls out = some x := least_of x0 x1 ((hiff x x0 x1).1 hxf) (fun u u0 ux => by
        rw [Bool.eq_false_iff]
        intro hf
        have := p4 u ((i4.mem u).2 ⟨u0, by omega, (hiff u u0 (by omega)).2 hf⟩)
        omega)
      rw [app_ok (by simp; omega)]
      simp only [Option.bind_some]
      rw [(hac x x0 x1).1]
      simp only [Option.bind_some]
      have hnd : (x :: q').Nodup := p2.nodup_iff.2 i4.nodup
      rw [List.nodup_cons] at hnd
      obtain ⟨cnt', q2, r1, r2, r3, r4⟩ := sort_l2 g i1 hx i2 i3 (q := q') ⟨p3, hnd.2, fun v => by
        have hv := i4.mem v
        rw [← p2.mem_iff, List.mem_cons] at hv
        constructor
        · intro hm
          obtain ⟨v0, v1, v2, v3⟩ := hv.1 (.inr hm)
          refine ⟨v0, v1, fun h => ?_, v3⟩
          rcases List.mem_append.1 h with h | h
          · exact v2 h
          · simp only [List.mem_singleton] at h; subst h; exact hnd.1 hm
        · rintro ⟨v0, v1, v2, v3⟩
          rw [List.mem_append, List.mem_singleton, not_or] at v2
          exact (hv.2 ⟨v0, v1, v2.1, v3⟩).resolve_left v2.2⟩
      rw [r1]
      have hr' := i1.snoc hx
      have := hr'.length_le
      simp only [List.length_append, List.length_singleton] at this
      exact .inl ⟨(cnt', q2, out ++ [x]), ⟨hr', r2, r3, r4⟩, by simp; omega, rfl⟩
    · rw [if_neg (by simp only [decide_eq_true_eq]; omega)]
      have hq0 : qq = [] := List.eq_nil_of_length_eq_zero (by omega)
      subst hq0
      refine .inr ?_
      have := i1.ord (least_none.2 (fun u u0 u1 => by
        rw [Bool.eq_false_iff]
        intro hf
        have := (i4.mem u).2 ⟨u0, u1, (hiff u u0 u1).2 hf⟩
        simp at this))
      rw [← this]
  rw [key]
  rfl

end Go.Proofs.Ytcfcffbjdjacfaa.Sim

namespace Go.Proofs.Ytcfcffbjdjacfaa.Sim
open Go
set_option linter.unusedVariables false

inductive Path (ls : List api_Link) : Int → Int → Prop where
  | one {a b : Int} (h : api_Link.mk a b ∈ ls) : Path ls a b
  | more {a b c : Int} (h : api_Link.mk a b ∈ ls) (h' : Path ls b c) : Path ls a c

theorem Path.trans {ls : List api_Link} {a b c : Int} (h : Path ls a b) (h' : Path ls b c) : Path ls a c := by
  induction h with
  | one h => exact .more h h'
  | more h _ ih => exact .more h (ih h')
theorem Path.first {ls : List api_Link} {a b : Int} (h : Path ls a b) : ∃ c, api_Link.mk a c ∈ ls ∧ (c = b ∨ Path ls c b) := by
  cases h with
  | one h => exact ⟨_, h, .inl rfl⟩
  | more h h' => exact ⟨_, h, .inr h'⟩
theorem Path.range {n : Nat} {ls : List api_Link} (g : GoodG n ls) {a b : Int} (h : Path ls a b) : (0 ≤ a ∧ a < n) ∧ (0 ≤ b ∧ b < n) := by
  induction h with
  | one h => exact ⟨g.c0 _ h, g.s0 _ h⟩
  | more h _ ih => exact ⟨g.c0 _ h, ih.2⟩

theorem Run.closed {n : Nat} {ls : List api_Link} {out : List Int} (hr : Run n ls out) {a b : Int} (h : Path ls a b) (ha : a ∈ out) : b ∈ out := by
  induction h with
  | one h => exact hr.facts.2.2 _ h ha
  | more h _ ih => exact ih (hr.facts.2.2 _ h ha)

/-- A walk that never leaves n numbers comes back. -/
theorem walk_back {n : Nat} (w : Nat → Int) (h : ∀ i, 0 ≤ w i ∧ w i < n) : ∃ i j, i < j ∧ j ≤ n ∧ w i = w j := by
  refine Classical.byContradiction fun hno => ?_
  have hnd : ((List.range (n + 1)).map w).Nodup := by
    rw [List.nodup_iff_pairwise_ne, List.pairwise_map]
    refine List.Pairwise.imp_of_mem ?_ List.pairwise_lt_range
    intro i j hi hj hij e
    exact hno ⟨i, j, hij, by have := List.mem_range.1 hj; omega, e⟩
  have := nodup_le hnd (s := below n) (fun x hx => by
    obtain ⟨i, _, rfl⟩ := List.mem_map.1 hx
    exact mem_below.2 (h i))
  rw [below_length, List.length_map, List.length_range] at this
  omega

theorem ord_short {n : Nat} {ls : List api_Link} (g : GoodG n ls) (h : (ord n ls).length < n) : ∃ u : Int, 0 ≤ u ∧ u < n ∧ u ∉ ord n ls := by
  refine Classical.byContradiction fun hno => ?_
  have := nodup_le (below_nodup n) (s := ord n ls) (fun x hx => Classical.byContradiction fun hx' => hno ⟨x, (mem_below.1 hx).1, (mem_below.1 hx).2, hx'⟩)
  rw [below_length] at this
  omega
theorem ord_full {n : Nat} {ls : List api_Link} (h : ¬ (ord n ls).length < n) {v : Int} (h0 : 0 ≤ v) (h1 : v < n) : v ∈ ord n ls := by
  refine Classical.byContradiction fun hv => ?_
  have hr := (ord_run n ls).1.facts
  have := nodup_le (l := v :: ord n ls) (s := below n) (List.nodup_cons.2 ⟨hv, hr.1⟩) (fun x hx => by
    rcases List.mem_cons.1 hx with rfl | hx
    · exact mem_below.2 ⟨h0, h1⟩
    · exact mem_below.2 (hr.2.1 x hx))
  rw [below_length, List.length_cons] at this
  omega

/-- A node outside the order has a supplier outside the order. -/
theorem ord_stuck {n : Nat} {ls : List api_Link} (g : GoodG n ls) {u : Int} (h0 : 0 ≤ u) (h1 : u < n) (hu : u ∉ ord n ls) : ∃ s, api_Link.mk u s ∈ ls ∧ s ∉ ord n ls := by
  have hn := least_none.1 (ord_run n ls).2 u h0 h1
  refine Classical.byContradiction fun hno => ?_
  have : free ls (ord n ls) u = true := free_iff.2 ⟨hu, fun l hl hc => Classical.byContradiction fun hs => hno ⟨l.Supplier, by subst hc; exact hl, hs⟩⟩
  rw [this] at hn; cases hn

theorem ord_cyclic {n : Nat} {ls : List api_Link} (g : GoodG n ls) (h : (ord n ls).length < n) : ∃ i : Int, 0 ≤ i ∧ i < n ∧ Path ls i i := by
  obtain ⟨u, u0, u1, hu⟩ := ord_short g h
  let R := { v : Int // 0 ≤ v ∧ v < n ∧ v ∉ ord n ls }
  have nx : ∀ v : R, ∃ s : R, api_Link.mk v.1 s.1 ∈ ls := fun v => by
    obtain ⟨s, h1, h2⟩ := ord_stuck g v.2.1 v.2.2.1 v.2.2.2
    have := g.s0 _ h1
    exact ⟨⟨s, this.1, this.2, h2⟩, h1⟩
  let f : R → R := fun v => (nx v).choose
  have hf : ∀ v : R, api_Link.mk v.1 (f v).1 ∈ ls := fun v => (nx v).choose_spec
  let w : Nat → R := fun i => Nat.rec ⟨u, u0, u1, hu⟩ (fun _ v => f v) i
  have hw : ∀ i, api_Link.mk (w i).1 (w (i + 1)).1 ∈ ls := fun i => hf (w i)
  obtain ⟨i, j, hij, _, e⟩ := walk_back (n := n) (fun i => (w i).1) (fun i => ⟨(w i).2.1, (w i).2.2.1⟩)
  have hp : ∀ d, Path ls (w i).1 (w (i + d + 1)).1 := by
    intro d
    induction d with
    | zero => exact .one (hw i)
    | succ d ih => exact ih.trans (.one (hw (i + d + 1)))
  have := hp (j - i - 1)
  rw [show i + (j - i - 1) + 1 = j from by omega] at this
  refine ⟨(w i).1, (w i).2.1, (w i).2.2.1, ?_⟩
  rw [← e] at this
  exact this

/-! ### Check, Order -/

def ccode (p : Int) (ls : List api_Link) : Int := if vcode p ls = 0 then (if (ord p.toNat ls).length < p.toNat then 18 else 0) else vcode p ls

theorem ccode_good {n : Nat} {ls : List api_Link} (g : GoodG n ls) : ccode (n : Int) ls = if (ord n ls).length < n then 18 else 0 := by
  unfold ccode; rw [if_pos (good_vcode g)]; rfl

def ores (p : Int) (ls : List api_Link) : List Int × Int := if ccode p ls = 0 then (ord p.toNat ls, 0) else ([], ccode p ls)

theorem order_ok (p : Int) (ls : List api_Link) (h : ls.length ≤ maxLen) : depgraph_Order.f p ls = some (ores p ls) := by
  unfold depgraph_Order.f
  rw [validate_ok p ls h]
  simp only [Option.bind_some]
  by_cases hv : vcode p ls = 0
  · obtain ⟨n, rfl, g⟩ := vcode_good hv
    unfold ores
    rw [if_neg (by simp [hv]), ccode_good g, sort_ok g]
    simp only [Option.bind_some]
    by_cases hc : (ord n ls).length < n
    · rw [if_pos (by simp; omega), if_pos hc, if_neg (by decide)]
    · rw [if_neg (by simp; omega), if_neg hc, if_pos rfl]; rfl
  · rw [if_pos (by simpa using hv)]
    unfold ores ccode; rw [if_neg hv, if_neg hv]

end Go.Proofs.Ytcfcffbjdjacfaa.Sim

namespace Go.Proofs.Ytcfcffbjdjacfaa.Sim
open Go
set_option linter.unusedVariables false
set_option maxRecDepth 100000

def fset {α : Type} (f : Int → α) (k : Int) (v : α) : Int → α := fun i => if i = k then v else f i
theorem fset_self {α : Type} (f : Int → α) (k : Int) (v : α) : fset f k v k = v := by simp [fset]
theorem fset_ne {α : Type} (f : Int → α) {k i : Int} (v : α) (h : i ≠ k) : fset f k v i = f i := by simp [fset, h]

/-- Which devices are active, their counts, since when they idle, the clock. -/
structure Pm where
  act : Int → Bool
  cnt : Int → Int
  idl : Int → Int
  now : Int
def idle (ls : List api_Link) (m : Pm) (k : Int) : Bool := m.act k && decide (m.cnt k = 0) && ls.all (fun l => !(decide (l.Supplier = k) && m.act l.Consumer))
theorem idle_iff {ls : List api_Link} {m : Pm} {k : Int} : idle ls m k = true ↔ m.act k = true ∧ m.cnt k = 0 ∧ ∀ l ∈ ls, l.Supplier = k → m.act l.Consumer = false := by
  unfold idle
  simp only [Bool.and_eq_true, decide_eq_true_eq, List.all_eq_true, Bool.not_eq_true', Bool.and_eq_false_iff, decide_eq_false_iff_not, and_assoc]
  refine and_congr Iff.rfl (and_congr Iff.rfl ⟨fun h l hl e => (h l hl).resolve_left (fun hn => hn e), fun h l hl => ?_⟩)
  by_cases e : l.Supplier = k
  · exact .inr (h l hl e)
  · exact .inl e

def nxTo (ls : List api_Link) (de : Int → Int) (m : Pm) : Nat → Option (Int × Int)
  | 0 => none
  | i + 1 => if idle ls m (i : Int) = true ∧ (∀ z, nxTo ls de m i = some z → m.idl i + de i < z.2) then some ((i : Int), m.idl i + de i) else nxTo ls de m i
section
variable {ls : List api_Link} {de : Int → Int} {m : Pm}
theorem nxTo_none : ∀ {n : Nat}, nxTo ls de m n = none → ∀ k : Int, 0 ≤ k → k < n → idle ls m k = false
  | 0, _, k, h0, h1 => by omega
  | n + 1, h, k, h0, h1 => by
    rw [nxTo] at h
    split at h
    · cases h
    · rename_i hn
      by_cases e : k = n
      · subst e
        refine Bool.eq_false_iff.2 fun hi => hn ⟨hi, fun z hz => ?_⟩
        rw [h] at hz; cases hz
      · exact nxTo_none h k h0 (by omega)
theorem nxTo_some : ∀ {n : Nat} {k t : Int}, nxTo ls de m n = some (k, t) → (0 ≤ k ∧ k < n) ∧ idle ls m k = true ∧ t = m.idl k + de k ∧ ∀ j : Int, 0 ≤ j → j < n → idle ls m j = true → t ≤ m.idl j + de j
  | 0, k, t, h => by cases h
  | n + 1, k, t, h => by
    rw [nxTo] at h
    split at h
    · rename_i hp
      injection h with h; injection h with h1 h2; subst h1
      refine ⟨by omega, hp.1, h2.symm, fun j j0 j1 hj => ?_⟩
      by_cases e : j = n
      · subst e; omega
      · cases hq : nxTo ls de m n with
        | none => rw [nxTo_none hq j j0 (by omega)] at hj; cases hj
        | some z =>
          have := hp.2 z hq
          obtain ⟨_, _, _, h5⟩ := nxTo_some (k := z.1) (t := z.2) hq
          have := h5 j j0 (by omega) hj
          omega
    · rename_i hn
      obtain ⟨a, b, c, d⟩ := nxTo_some h
      refine ⟨by omega, b, c, fun j j0 j1 hj => ?_⟩
      by_cases e : j = n
      · subst e
        refine Classical.byContradiction fun hlt => hn ⟨hj, fun z hz => ?_⟩
        rw [h] at hz; injection hz with hz; subst hz
        simp only; omega
      · exact d j j0 (by omega) hj
end

def off1 (ls : List api_Link) (m : Pm) (k at_ : Int) : Pm :=
  { m with act := fset m.act k false, idl := fun s => if (ls.any (fun l => decide (l.Consumer = k) && decide (l.Supplier = s)) && idle ls { m with act := fset m.act k false } s) = true then at_ else m.idl s }

def stop (n : Nat) (ls : List api_Link) (de : Int → Int) (t : Int) (m : Pm) : Prop := ∀ k at_, nxTo ls de m n = some (k, at_) → t < at_
/-- The expiration up to time t. -/
inductive Exp (n : Nat) (ls : List api_Link) (de : Int → Int) (t : Int) : Pm → List api_PowerOp → Pm → Prop where
  | nil {m : Pm} (h : stop n ls de t m) : Exp n ls de t m [] m
  | cons {m m' : Pm} {k at_ : Int} {ops : List api_PowerOp} (h : nxTo ls de m n = some (k, at_)) (ht : at_ ≤ t) (h' : Exp n ls de t (off1 ls m k at_) ops m') : Exp n ls de t m (api_PowerOp.mk k false at_ :: ops) m'

section
variable {n : Nat} {ls : List api_Link} {de : Int → Int} {t : Int}
theorem Exp.det {m m1 m2 : Pm} {o1 o2 : List api_PowerOp} (h1 : Exp n ls de t m o1 m1) (h2 : Exp n ls de t m o2 m2) : o1 = o2 ∧ m1 = m2 := by
  induction h1 generalizing o2 m2 with
  | nil h =>
    cases h2 with
    | nil _ => exact ⟨rfl, rfl⟩
    | cons h' ht _ => have := h _ _ h'; omega
  | cons h ht _ ih =>
    cases h2 with
    | nil h' => have := h' _ _ h; omega
    | cons h' ht' h3 =>
      rw [h] at h'; injection h' with h'; injection h' with e1 e2; subst e1; subst e2
      obtain ⟨a, b⟩ := ih h3
      exact ⟨by rw [a], b⟩
def nact (n : Nat) (m : Pm) : Nat := (below n).countP (fun k => m.act k)
theorem countP_lt {α : Type} {p q : α → Bool} {x : α} : ∀ {l : List α}, (∀ y ∈ l, q y = true → p y = true) → x ∈ l → p x = true → q x = false → l.countP q < l.countP p
  | [], _, hx, _, _ => by cases hx
  | a :: l, h, hx, hp, hq => by
    rw [List.countP_cons, List.countP_cons]
    have hle : l.countP q ≤ l.countP p := List.countP_mono_left fun y hy hqy => h y (List.mem_cons_of_mem _ hy) hqy
    rcases List.mem_cons.1 hx with e | e
    · subst e; rw [hp, hq]; simp; omega
    · have := countP_lt (l := l) (fun y hy => h y (List.mem_cons_of_mem _ hy)) e hp hq
      by_cases ha : q a = true
      · have := h a (by simp) ha
        rw [ha, this]; simp; omega
      · rw [if_neg ha]
        by_cases hb : p a = true
        · rw [if_pos hb]; omega
        · rw [if_neg hb]; omega
theorem nact_off {m : Pm} {k at_ : Int} (h0 : 0 ≤ k) (h1 : k < n) (hk : m.act k = true) : nact n (off1 ls m k at_) < nact n m := by
  unfold nact
  refine countP_lt (x := k) (fun y _ hy => ?_) (mem_below.2 ⟨h0, h1⟩) hk ?_
  · unfold off1 fset at hy
    simp only at hy
    split at hy
    · cases hy
    · exact hy
  · unfold off1 fset; simp
theorem nact_le (n : Nat) (m : Pm) : nact n m ≤ n := by
  unfold nact
  exact Nat.le_trans List.countP_le_length (by rw [below_length]; exact Nat.le_refl _)
theorem Exp.total : ∀ (q : Nat) (m : Pm), nact n m ≤ q → ∃ ops m', Exp n ls de t m ops m' ∧ ops.length ≤ nact n m := by
  intro q
  induction q with
  | zero =>
    intro m hq
    refine ⟨[], m, .nil fun k at_ h => ?_, by simp⟩
    obtain ⟨⟨a, b⟩, c, _, _⟩ := nxTo_some h
    have := nact_off (ls := ls) (at_ := 0) a b (idle_iff.1 c).1
    omega
  | succ q ih =>
    intro m hq
    cases hn : nxTo ls de m n with
    | none => exact ⟨[], m, .nil fun k at_ h => (by rw [hn] at h; cases h), by simp⟩
    | some z =>
      obtain ⟨k, at_⟩ := z
      by_cases ht : at_ ≤ t
      · obtain ⟨⟨a, b⟩, c, _, _⟩ := nxTo_some hn
        have hlt := nact_off (ls := ls) (at_ := at_) a b (idle_iff.1 c).1
        obtain ⟨ops, m', h1, h2⟩ := ih (off1 ls m k at_) (by omega)
        exact ⟨_, m', .cons hn ht h1, by simp only [List.length_cons]; omega⟩
      · refine ⟨[], m, .nil fun k' at' h => ?_, by simp⟩
        rw [hn] at h; injection h with h; injection h with _ h; omega
theorem Exp.exists_ (m : Pm) : ∃ ops m', Exp n ls de t m ops m' ∧ ops.length ≤ n := by
  obtain ⟨ops, m', h1, h2⟩ := Exp.total (n := n) (ls := ls) (de := de) (t := t) (nact n m) m (Nat.le_refl _)
  exact ⟨ops, m', h1, Nat.le_trans h2 (nact_le n m)⟩
/-- What every step keeps, an expiration keeps. -/
theorem Exp.ind {P : Pm → Prop} (hs : ∀ m k at_, P m → nxTo ls de m n = some (k, at_) → at_ ≤ t → P (off1 ls m k at_)) {m m' : Pm} {ops : List api_PowerOp} (h : Exp n ls de t m ops m') : P m → P m' := by
  induction h with
  | nil h => exact fun hp => hp
  | cons h ht _ ih => exact fun hp => ih (hs _ _ _ hp h ht)
theorem Exp.stop_ {m m' : Pm} {ops : List api_PowerOp} (h : Exp n ls de t m ops m') : stop n ls de t m' := by
  induction h with
  | nil h => exact h
  | cons _ _ _ ih => exact ih
theorem stop_iff {m : Pm} : stop n ls de t m ↔ ∀ k : Int, 0 ≤ k → k < n → idle ls m k = true → t < m.idl k + de k := by
  constructor
  · intro h k k0 k1 hk
    cases hn : nxTo ls de m n with
    | none => rw [nxTo_none hn k k0 k1] at hk; cases hk
    | some z =>
      have h1 := h z.1 z.2 hn
      obtain ⟨_, _, _, h2⟩ := nxTo_some (k := z.1) (t := z.2) hn
      have := h2 k k0 k1 hk
      omega
  · intro h k at_ hn
    obtain ⟨⟨a, b⟩, c, d, _⟩ := nxTo_some hn
    rw [d]; exact h k a b c
/-- First up to t, then up to a later time: the same as at once. -/
theorem Exp.split {u : Int} (htu : t ≤ u) {m m1 m2 : Pm} {o1 o2 : List api_PowerOp} (h1 : Exp n ls de t m o1 m1) (h2 : Exp n ls de u m1 o2 m2) : Exp n ls de u m (o1 ++ o2) m2 := by
  induction h1 with
  | nil _ => exact h2
  | cons h ht _ ih => exact .cons h (by omega) (ih h2)
/-- The clock and the counts stay. -/
theorem Exp.same {m m' : Pm} {ops : List api_PowerOp} (h : Exp n ls de t m ops m') : m'.now = m.now ∧ m'.cnt = m.cnt := by
  induction h with
  | nil h => exact ⟨rfl, rfl⟩
  | cons _ _ _ ih => exact ih
/-- The clock tells nothing. -/
def setNow (m : Pm) (t : Int) : Pm := { m with now := t }
theorem nxTo_now {m : Pm} {q : Int} : ∀ (i : Nat), nxTo ls de (setNow m q) i = nxTo ls de m i
  | 0 => rfl
  | i + 1 => by
    rw [nxTo, nxTo, nxTo_now i]; rfl
theorem Exp.setNow {m m' : Pm} {ops : List api_PowerOp} (h : Exp n ls de t m ops m') (q : Int) : Exp n ls de t (Sim.setNow m q) ops (Sim.setNow m' q) := by
  induction h with
  | nil h => exact .nil fun k at_ hk => h k at_ (by rw [← hk, nxTo_now])
  | cons h ht _ ih => exact .cons (by rw [nxTo_now]; exact h) ht ih
end
end Go.Proofs.Ytcfcffbjdjacfaa.Sim

namespace Go.Proofs.Ytcfcffbjdjacfaa.Sim
open Go
set_option linter.unusedVariables false
set_option maxRecDepth 100000

def RepV {α : Type} (n : Nat) (l : List α) (c : Int → α) : Prop := l.length = n ∧ ∀ i : Int, 0 ≤ i → i < n → idx l i = some (c i)
theorem RepV.set {α : Type} {n : Nat} {l : List α} {c : Int → α} (h : RepV n l c) {k : Int} (h0 : 0 ≤ k) (v : α) : RepV n (upd l k v) (fset c k v) := by
  refine ⟨by rw [upd_length]; exact h.1, fun i i0 i1 => ?_⟩
  rw [idx_upd_some h0 (h.2 i i0 i1)]
  unfold fset
  by_cases e : k = i
  · subst e; simp
  · simp [e, Ne.symm e]
theorem RepV.rep {α : Type} (n : Nat) (x : α) : RepV n (List.replicate n x) (fun _ => x) := ⟨by simp, fun i h0 h1 => idx_replicate h0 h1⟩
theorem RepV.congr {α : Type} {n : Nat} {l : List α} {c d : Int → α} (h : RepV n l c) (e : ∀ i : Int, 0 ≤ i → i < n → c i = d i) : RepV n l d := ⟨h.1, fun i i0 i1 => by rw [h.2 i i0 i1, e i i0 i1]⟩

def supOf (ls : List api_Link) (k : Int) : List Int := (ls.filter (fun l => l.Consumer == k)).map (·.Supplier)
theorem mem_supOf {ls : List api_Link} {k s : Int} : s ∈ supOf ls k ↔ ∃ l ∈ ls, l.Consumer = k ∧ l.Supplier = s := by
  unfold supOf
  simp only [List.mem_map, List.mem_filter, beq_iff_eq]
  exact ⟨fun ⟨l, ⟨a, b⟩, c⟩ => ⟨l, a, b, c⟩, fun ⟨l, a, b, c⟩ => ⟨l, ⟨a, b⟩, c⟩⟩
theorem mem_consOf' {ls : List api_Link} {k c : Int} : c ∈ consOf ls k ↔ ∃ l ∈ ls, l.Supplier = k ∧ l.Consumer = c := by
  unfold consOf
  simp only [List.mem_map, List.mem_filter, beq_iff_eq]
  exact ⟨fun ⟨l, ⟨a, b⟩, c⟩ => ⟨l, a, b, c⟩, fun ⟨l, a, b, c⟩ => ⟨l, ⟨a, b⟩, c⟩⟩
theorem supOf_le (ls : List api_Link) (k : Int) : (supOf ls k).length ≤ ls.length := by unfold supOf; rw [List.length_map]; exact List.length_filter_le _ _

abbrev dev (ls : List api_Link) (de : Int → Int) (m : Pm) (i : Int) : runtimepm_device := runtimepm_device.mk (de i) (supOf ls i) (consOf ls i) (m.act i) (m.cnt i) (m.idl i)
structure RM (n : Nat) (ls : List api_Link) (de : Int → Int) (p : runtimepm_Manager) (m : Pm) : Prop where
  dv : RepV n p.devices (dev ls de m)
  lk : p.links = ls
  od : p.order = ord n ls
  nw : p.now = m.now
/-- Times fit. -/
structure Tb (de : Int → Int) (m : Pm) : Prop where
  d : ∀ k, 0 ≤ de k ∧ de k ≤ 1048576
  i : ∀ k, 0 ≤ m.idl k ∧ m.idl k ≤ 1152921504606846976
theorem Tb.off {de : Int → Int} {m : Pm} {ls : List api_Link} {n : Nat} {t : Int} (ht : t ≤ 1152921504606846976) (B : Tb de m) {k at_ : Int} (h : nxTo ls de m n = some (k, at_)) (h1 : at_ ≤ t) : Tb de (off1 ls m k at_) := by
  obtain ⟨_, _, e, _⟩ := nxTo_some h
  have hd := B.d k
  have hi := B.i k
  refine ⟨B.d, fun s => ?_⟩
  unfold off1
  simp only
  split
  · omega
  · exact B.i s

section
variable {n : Nat} {ls : List api_Link} {de : Int → Int} {p : runtimepm_Manager} {m : Pm}

theorem indexFunc_ok (g : GoodG n ls) (R : RM n ls de p m) {xs : List Int} (hl : xs.length ≤ 100000) (hx : ∀ x ∈ xs, 0 ≤ x ∧ x < n) : ∃ r, slices_IndexFunc_int_int_isIdle_1.f xs p = some r ∧ (0 ≤ r ↔ ∃ x ∈ xs, m.act x = true) := by
  unfold slices_IndexFunc_int_int_isIdle_1.f
  have key : ((∃ x ∈ xs, m.act x = true) ∧ ∃ i : Nat, slices_IndexFunc_int_int_isIdle_1.l0 xs p FUEL 0 = some (.out (i : Int))) ∨ ((¬ ∃ x ∈ xs, m.act x = true) ∧ slices_IndexFunc_int_int_isIdle_1.l0 xs p FUEL 0 = some (.nxt ())) := by
    refine loop_c (L := fun k (_ : Unit) i => slices_IndexFunc_int_int_isIdle_1.l0 xs p k i) xs.length (fun i _ => ∀ x ∈ xs.take i, m.act x = false)
      (fun o => ((∃ x ∈ xs, m.act x = true) ∧ ∃ i : Nat, o = some (.out (i : Int))) ∨ ((¬ ∃ x ∈ xs, m.act x = true) ∧ o = some (.nxt ()))) ?_ ?_ FUEL 0 () (Nat.zero_le _) (FUEL_pos (by omega)) (by simp)
    · intro k _ i hi hI
      have hm := List.getElem_mem hi
      have hr := hx _ hm
      rw [slices_IndexFunc_int_int_isIdle_1.l0, if_pos (by simp; omega), idx_get hi, Option.bind_some]
      unfold runtimepm_Manager_isIdle_1.f
      rw [R.dv.2 _ hr.1 hr.2, Option.bind_some, Option.bind_some]
      cases ha : m.act xs[i]
      · rw [if_neg (by simp [dev, ha]), wi_succ (by omega)]
        refine .inl ⟨(), fun x hx' => ?_, rfl⟩
        rcases (mem_take_succ hi).1 hx' with h | h
        · exact hI x h
        · rw [h]; exact ha
      · rw [if_pos (by simp [dev, ha])]
        exact .inr (.inl ⟨⟨_, hm, ha⟩, i, rfl⟩)
    · intro k _ hI
      rw [slices_IndexFunc_int_int_isIdle_1.l0, if_neg (by simp)]
      rw [List.take_length] at hI
      exact .inr ⟨fun ⟨x, hx, ha⟩ => (by rw [hI x hx] at ha; cases ha), rfl⟩
  rcases key with ⟨h, i, e⟩ | ⟨h, e⟩
  · exact ⟨i, by rw [e]; rfl, ⟨fun _ => h, fun _ => by omega⟩⟩
  · exact ⟨-1, by rw [e]; rfl, ⟨fun h' => by omega, fun h' => absurd h' h⟩⟩

theorem isIdle_ok (g : GoodG n ls) (R : RM n ls de p m) {k : Int} (h0 : 0 ≤ k) (h1 : k < n) : runtimepm_Manager_isIdle.f p k = some (idle ls m k) := by
  have hc : ∀ x ∈ consOf ls k, 0 ≤ x ∧ x < n := fun x hx => by
    obtain ⟨l, hl, _, rfl⟩ := mem_consOf'.1 hx
    exact g.c0 l hl
  have hll := g.len
  have hcl := consOf_le ls k
  obtain ⟨r, e, hr⟩ := indexFunc_ok g R (by omega) hc
  unfold runtimepm_Manager_isIdle.f slices_ContainsFunc_int_int_isIdle_1.f
  rw [R.dv.2 k h0 h1, Option.bind_some]
  simp only [dev]
  rw [e, Option.bind_some, Option.bind_some]
  by_cases ha : m.act k = true
  rotate_left
  · rw [if_neg (by simp [ha]), Option.bind_some]
    congr 1
    symm
    rw [Bool.eq_false_iff]
    exact fun h => ha (idle_iff.1 h).1
  · by_cases hq : m.cnt k = 0
    · rw [if_pos (by simp [ha, hq]), Option.bind_some]
      congr 1
      rw [Bool.eq_iff_iff, idle_iff]
      simp only [Bool.not_eq_true', decide_eq_false_iff_not, hr, mem_consOf']
      constructor
      · intro h
        refine ⟨ha, hq, fun l hl hs => ?_⟩
        refine Bool.eq_false_iff.2 fun hb => h ⟨l.Consumer, ⟨l, hl, hs, rfl⟩, hb⟩
      · rintro ⟨_, _, h⟩ ⟨x, ⟨l, hl, hs, rfl⟩, hb⟩
        rw [h l hl hs] at hb; cases hb
    · rw [if_neg (by simp [hq]), Option.bind_some]
      congr 1
      symm
      rw [Bool.eq_false_iff]
      exact fun h => hq (idle_iff.1 h).2.1

def enc (o : Option (Int × Int)) : Int × Int := match o with
  | none => (-1, 0)
  | some z => z
theorem next_ok (g : GoodG n ls) (R : RM n ls de p m) (B : Tb de m) : runtimepm_Manager_next.f p = some (enc (nxTo ls de m n)) := by
  have hn := g.n128
  unfold runtimepm_Manager_next.f
  have key : runtimepm_Manager_next.l0 p FUEL (-1) 0 0 = some (enc (nxTo ls de m n)) := by
    refine loop_c (L := fun k (s : Int × Int) i => runtimepm_Manager_next.l0 p k s.1 s.2 i) n (fun i s => s = enc (nxTo ls de m i)) (fun o => o = some (enc (nxTo ls de m n))) ?_ ?_ FUEL 0 (-1, 0) (Nat.zero_le _) (FUEL_pos (by omega)) rfl
    · rintro k s i hi rfl
      have hd := B.d i
      have hi' := B.i i
      rw [runtimepm_Manager_next.l0, R.dv.1, if_pos (by simp; omega), R.dv.2 (i : Int) (by omega) (by omega), Option.bind_some, isIdle_ok g R (by omega) (by omega), Option.bind_some, wi_succ (by omega)]
      have hw : wu (m.idl i + de i) = m.idl i + de i := wu_id (by omega) (by omega)
      simp only [dev, hw]
      have hc : (idle ls m (i : Int) && ((decide ((enc (nxTo ls de m i)).1 < 0)) || (decide (m.idl i + de i < (enc (nxTo ls de m i)).2)))) = true ↔ (idle ls m (i : Int) = true ∧ (∀ z, nxTo ls de m i = some z → m.idl i + de i < z.2)) := by
        simp only [Bool.and_eq_true, Bool.or_eq_true, decide_eq_true_eq]
        refine and_congr Iff.rfl ?_
        cases hz : nxTo ls de m i with
        | none => simp [enc]
        | some z =>
          obtain ⟨⟨h0, _⟩, _⟩ := nxTo_some (k := z.1) (t := z.2) hz
          simp only [enc]
          constructor
          · rintro (h | h) z' hz'
            · omega
            · injection hz' with hz'; subst hz'; exact h
          · intro h; exact .inr (h z rfl)
      refine .inl ⟨enc (nxTo ls de m (i + 1)), rfl, ?_⟩
      rw [nxTo]
      by_cases h : idle ls m (i : Int) = true ∧ (∀ z, nxTo ls de m i = some z → m.idl i + de i < z.2)
      · rw [if_pos (hc.2 h), if_pos h, Option.bind_some]; rfl
      · rw [if_neg (fun h' => h (hc.1 h')), if_neg h, Option.bind_some]
    · rintro k s rfl
      rw [runtimepm_Manager_next.l0, R.dv.1, if_neg (by simp)]
  rw [key]; rfl

theorem expire_l1 (g : GoodG n ls) {k at_ : Int} {ops : List api_PowerOp} {r : Int × Int} (hr : r.2 = at_) {x : runtimepm_device} (hx : x.suppliers = supOf ls k) {m : Pm} {p : runtimepm_Manager} (R : RM n ls de p { m with act := fset m.act k false }) :
    ∃ p', runtimepm_Manager_expire.l1 r ops x FUEL p 0 = some (.nxt (p', ops)) ∧ RM n ls de p' (off1 ls m k at_) := by
  have hll := g.len
  have hsl := supOf_le ls k
  have hsr : ∀ s ∈ supOf ls k, 0 ≤ s ∧ s < n := fun s hs => by
    obtain ⟨l, hl, _, rfl⟩ := mem_supOf.1 hs
    exact g.s0 l hl
  let m0 : Pm := { m with act := fset m.act k false }
  let mi : Nat → Pm := fun j => { m0 with idl := fun s => if decide (s ∈ (supOf ls k).take j) && idle ls m0 s then at_ else m.idl s }
  have hid : ∀ j, idle ls (mi j) = idle ls m0 := fun j => rfl
  have key : ∃ p', runtimepm_Manager_expire.l1 r ops x FUEL p 0 = some (.nxt (p', ops)) ∧ RM n ls de p' (mi (supOf ls k).length) := by
    refine loop_c (L := fun q (s : runtimepm_Manager) i => runtimepm_Manager_expire.l1 r ops x q s i) (supOf ls k).length (fun j s => RM n ls de s (mi j)) (fun o => ∃ p', o = some (.nxt (p', ops)) ∧ RM n ls de p' (mi (supOf ls k).length)) ?_ ?_ FUEL 0 p (Nat.zero_le _) (FUEL_pos (by omega)) ?_
    · intro q s j hj hI
      have hm := List.getElem_mem hj
      obtain ⟨s0, s1⟩ := hsr _ hm
      rw [runtimepm_Manager_expire.l1, hx, if_pos (by simp; omega), idx_get hj, Option.bind_some, isIdle_ok g hI s0 s1, Option.bind_some, wi_succ (by omega), hid]
      have hstep : ∀ s', (decide (s' ∈ (supOf ls k).take (j + 1)) && idle ls m0 s') = ((decide (s' ∈ (supOf ls k).take j) && idle ls m0 s') || (decide (s' = (supOf ls k)[j]) && idle ls m0 s')) := fun s' => by
        rw [Bool.eq_iff_iff]
        simp only [Bool.and_eq_true, Bool.or_eq_true, decide_eq_true_eq, mem_take_succ hj]
        constructor
        · rintro ⟨h | h, h'⟩
          · exact .inl ⟨h, h'⟩
          · exact .inr ⟨h, h'⟩
        · rintro (⟨h, h'⟩ | ⟨h, h'⟩)
          · exact ⟨.inl h, h'⟩
          · exact ⟨.inr h, h'⟩
      cases hi : idle ls m0 (supOf ls k)[j]
      · rw [if_neg (by simp), Option.bind_some]
        refine .inl ⟨s, ⟨hI.dv.congr fun i i0 i1 => ?_, hI.lk, hI.od, hI.nw⟩, rfl⟩
        unfold dev
        congr 1
        show (if (decide (i ∈ (supOf ls k).take j) && idle ls m0 i) = true then at_ else m.idl i) = (if (decide (i ∈ (supOf ls k).take (j + 1)) && idle ls m0 i) = true then at_ else m.idl i)
        rw [hstep i]
        by_cases e : i = (supOf ls k)[j]
        · subst e; rw [hi]; simp
        · simp [e]
      · rw [if_pos rfl, hI.dv.2 _ s0 s1, Option.bind_some, Option.bind_some, hr]
        refine .inl ⟨runtimepm_Manager.mk (upd s.devices (supOf ls k)[j] ({ dev ls de (mi j) (supOf ls k)[j] with idle := at_ } : runtimepm_device)) s.links s.order s.now, ⟨(hI.dv.set s0 _).congr fun i i0 i1 => ?_, hI.lk, hI.od, hI.nw⟩, rfl⟩
        have hgoal : (mi (j + 1)).idl i = if (decide (i ∈ (supOf ls k).take j) && idle ls m0 i || decide (i = (supOf ls k)[j]) && idle ls m0 i) = true then at_ else m.idl i := by
          show (if (decide (i ∈ (supOf ls k).take (j + 1)) && idle ls m0 i) = true then at_ else m.idl i) = _
          rw [hstep i]
        unfold fset
        by_cases e : i = (supOf ls k)[j]
        · rw [if_pos e]
          unfold dev
          rw [hgoal, e, hi]
          simp
          exact ⟨rfl, rfl⟩
        · rw [if_neg e]
          unfold dev
          rw [hgoal]
          simp only [e, decide_false, Bool.false_and, Bool.or_false]
          rfl
    · intro q s hI
      rw [runtimepm_Manager_expire.l1, hx, if_neg (by simp)]
      exact ⟨s, rfl, hI⟩
    · refine ⟨R.dv.congr fun i _ _ => ?_, R.lk, R.od, R.nw⟩
      unfold dev
      congr 1
  obtain ⟨p', e, h⟩ := key
  refine ⟨p', e, h.dv.congr fun i _ _ => ?_, h.lk, h.od, h.nw⟩
  unfold dev
  congr 1
  show (if (decide (i ∈ (supOf ls k).take (supOf ls k).length) && idle ls m0 i) = true then at_ else m.idl i) = (if (ls.any (fun l => decide (l.Consumer = k) && decide (l.Supplier = i)) && idle ls m0 i) = true then at_ else m.idl i)
  rw [List.take_length]
  have : decide (i ∈ supOf ls k) = ls.any (fun l => decide (l.Consumer = k) && decide (l.Supplier = i)) := by
    rw [Bool.eq_iff_iff, decide_eq_true_eq, mem_supOf, List.any_eq_true]
    simp
  rw [this]

theorem expire_l0 (g : GoodG n ls) {t : Int} (ht : t ≤ 1152921504606846976) {m m' : Pm} {ops : List api_PowerOp} (h : Exp n ls de t m ops m') : ∀ (p : runtimepm_Manager) (o0 : List api_PowerOp) (fuel : Nat), RM n ls de p m → Tb de m → ops.length < fuel → o0.length + ops.length ≤ 100000 →
    ∃ p', runtimepm_Manager_expire.l0 t fuel p o0 = some (p', o0 ++ ops) ∧ RM n ls de p' m' ∧ Tb de m' := by
  induction h with
  | @nil m h =>
    intro p o0 fuel R B hf hl
    match fuel, hf with
    | fuel + 1, _ =>
      have hc : (decide ((enc (nxTo ls de m n)).1 < 0) || decide (t < (enc (nxTo ls de m n)).2)) = true := by
        rw [Bool.or_eq_true, decide_eq_true_eq, decide_eq_true_eq]
        cases hz : nxTo ls de m n with
        | none => exact .inl (by decide)
        | some z => exact .inr (h z.1 z.2 hz)
      rw [runtimepm_Manager_expire.l0, next_ok g R B, Option.bind_some, if_pos hc, Option.bind_some, Fl.go]
      exact ⟨p, by simp, R, B⟩
  | @cons m m' k at_ ops h hat h' ih =>
    intro p o0 fuel R B hf hl
    match fuel, hf with
    | fuel + 1, hf =>
      obtain ⟨⟨k0, k1⟩, hk, _, _⟩ := nxTo_some h
      simp only [List.length_cons] at hf hl
      have hc : ¬ (decide ((enc (some (k, at_))).1 < 0) || decide (t < (enc (some (k, at_))).2)) = true := by
        rw [Bool.or_eq_true, decide_eq_true_eq, decide_eq_true_eq]
        show ¬ (k < 0 ∨ t < at_)
        omega
      rw [runtimepm_Manager_expire.l0, next_ok g R B, Option.bind_some, h, if_neg hc]
      simp only [enc]
      have hdv := (R.dv.set k0 ({ dev ls de m k with active := false } : runtimepm_device))
      rw [R.dv.2 k k0 k1, Option.bind_some, app_ok (by simp; omega), Option.bind_some, hdv.2 k k0 k1, Option.bind_some, fset_self]
      have R1 : RM n ls de (runtimepm_Manager.mk (upd p.devices k ({ dev ls de m k with active := false } : runtimepm_device)) p.links p.order p.now) { m with act := fset m.act k false } := by
        refine ⟨hdv.congr fun i i0 i1 => ?_, R.lk, R.od, R.nw⟩
        unfold fset
        by_cases e : i = k
        · rw [if_pos e]; subst e; simp [dev]
        · rw [if_neg e]; simp [dev, e]
      obtain ⟨p1, e1, R2⟩ := expire_l1 (n := n) (de := de) g (k := k) (at_ := at_) (ops := o0 ++ [api_PowerOp.mk k false at_]) (r := (k, at_)) rfl (x := ({ dev ls de m k with active := false } : runtimepm_device)) rfl R1
      rw [e1, Option.bind_some, Fl.go]
      obtain ⟨p2, e2, R3, B3⟩ := ih p1 (o0 ++ [api_PowerOp.mk k false at_]) fuel R2 (B.off ht h hat) (by omega) (by simp; omega)
      exact ⟨p2, by rw [e2]; simp, R3, B3⟩

theorem expire_ok (g : GoodG n ls) {t : Int} (ht : t ≤ 1152921504606846976) {m m' : Pm} {ops : List api_PowerOp} (h : Exp n ls de t m ops m') (hl : ops.length ≤ 1000) {p : runtimepm_Manager} (R : RM n ls de p m) (B : Tb de m) :
    ∃ p', runtimepm_Manager_expire.f p t = some (p', ops) ∧ RM n ls de p' m' ∧ Tb de m' := by
  unfold runtimepm_Manager_expire.f
  obtain ⟨p', e, h1, h2⟩ := expire_l0 g ht h p [] FUEL R B (by unfold FUEL; omega) (by simp; omega)
  exact ⟨p', by rw [e]; simp, h1, h2⟩
end
end Go.Proofs.Ytcfcffbjdjacfaa.Sim

namespace Go.Proofs.Ytcfcffbjdjacfaa.Sim
open Go
set_option linter.unusedVariables false

/-- Reached from of: along the links to suppliers (down), or to consumers. -/
def Rch (down : Bool) (ls : List api_Link) (of : List Int) (x : Int) : Prop := ∃ a ∈ of, x = a ∨ (if down = true then Path ls a x else Path ls x a)

def revL (ls : List api_Link) : List api_Link := ls.map (fun l => api_Link.mk l.Supplier l.Consumer)
theorem mem_revL {ls : List api_Link} {a b : Int} : api_Link.mk a b ∈ revL ls ↔ api_Link.mk b a ∈ ls := by
  unfold revL
  rw [List.mem_map]
  constructor
  · rintro ⟨l, h, e⟩; injection e with e1 e2; subst e1; subst e2; exact h
  · intro h; exact ⟨_, h, rfl⟩
theorem path_revL {ls : List api_Link} {a b : Int} (h : Path (revL ls) a b) : Path ls b a := by
  induction h with
  | one h => exact .one (mem_revL.1 h)
  | more h _ ih => exact ih.trans (.one (mem_revL.1 h))
theorem path_revL' {ls : List api_Link} {a b : Int} (h : Path ls a b) : Path (revL ls) b a := by
  induction h with
  | one h => exact .one (mem_revL.2 h)
  | more h _ ih => exact ih.trans (.one (mem_revL.2 h))
theorem nodup_map_inj {α β : Type} {f : α → β} (hf : ∀ a b, f a = f b → a = b) {l : List α} (h : l.Nodup) : (l.map f).Nodup := by
  rw [List.nodup_iff_pairwise_ne, List.pairwise_map]
  exact List.Pairwise.imp (fun {a b} hab e => hab (hf a b e)) h
theorem good_revL {n : Nat} {ls : List api_Link} (g : GoodG n ls) : GoodG n (revL ls) := by
  refine ⟨g.n128, by unfold revL; rw [List.length_map]; exact g.len, fun l hl => ?_, fun l hl => ?_, ?_⟩
  · have : api_Link.mk l.Supplier l.Consumer ∈ ls := mem_revL.1 hl; exact g.s0 _ this
  · have : api_Link.mk l.Supplier l.Consumer ∈ ls := mem_revL.1 hl; exact g.c0 _ this
  · exact nodup_map_inj (fun a b e => by cases a; cases b; injection e with e1 e2; simp only at e1 e2; subst e1; subst e2; rfl) g.nodup
theorem rch_rev {ls : List api_Link} {of : List Int} {x : Int} : Rch false (revL ls) of x ↔ Rch true ls of x := by
  unfold Rch
  simp only [Bool.false_eq_true, if_false, if_true]
  constructor
  · rintro ⟨a, h, e | e⟩
    · exact ⟨a, h, .inl e⟩
    · exact ⟨a, h, .inr (path_revL e)⟩
  · rintro ⟨a, h, e | e⟩
    · exact ⟨a, h, .inl e⟩
    · exact ⟨a, h, .inr (path_revL' e)⟩

theorem reversed_ok (ls : List api_Link) (h : ls.length ≤ 4294967295) : depgraph_reversed.f ls = some (revL ls) := by
  unfold depgraph_reversed.f
  have key : depgraph_reversed.l0 ls FUEL [] 0 = some (revL ls) := by
    refine loop_c (L := fun k (s : List api_Link) i => depgraph_reversed.l0 ls k s i) ls.length (fun i s => s = revL (ls.take i)) (fun o => o = some (revL ls)) ?_ ?_ FUEL 0 [] (Nat.zero_le _) (FUEL_pos (by omega)) rfl
    · rintro k s i hi rfl
      rw [depgraph_reversed.l0, if_pos (by simp; omega), idx_get hi]
      simp only [Option.bind_some]
      rw [app_ok (by simp [revL]; omega)]
      refine .inl ⟨_, rfl, ?_⟩
      have e : revL (ls.take (i + 1)) = revL (ls.take i) ++ [api_Link.mk ls[i].Supplier ls[i].Consumer] := by
        rw [List.take_succ_eq_append_getElem hi]; unfold revL; rw [List.map_append]; rfl
      rw [wi_succ (by omega), e]; rfl
    · rintro k s rfl
      rw [depgraph_reversed.l0, if_neg (by simp), List.take_length]
  rw [key]; rfl

/-- A list of flags, its set. -/
structure Fl1 (n : Nat) (r : List Bool) (S : Int → Prop) : Prop where
  len : r.length = n
  say : ∀ v : Int, 0 ≤ v → v < n → ∃ b, idx r v = some b ∧ (b = true ↔ S v)

theorem Fl1.true_ {n : Nat} {r : List Bool} {S : Int → Prop} (h : Fl1 n r S) {v : Int} (h0 : 0 ≤ v) (h1 : v < n) (hs : S v) : idx r v = some true := by
  obtain ⟨b, e, hb⟩ := h.say v h0 h1
  rw [e, hb.2 hs]
theorem Fl1.false_ {n : Nat} {r : List Bool} {S : Int → Prop} (h : Fl1 n r S) {v : Int} (h0 : 0 ≤ v) (h1 : v < n) (hs : ¬ S v) : idx r v = some false := by
  obtain ⟨b, e, hb⟩ := h.say v h0 h1
  cases b
  · exact e
  · exact absurd (hb.1 rfl) hs
theorem Fl1.set {n : Nat} {r : List Bool} {S : Int → Prop} (h : Fl1 n r S) {x : Int} (x0 : 0 ≤ x) : Fl1 n (upd r x true) (fun v => v = x ∨ S v) := by
  refine ⟨by rw [upd_length]; exact h.len, fun v v0 v1 => ?_⟩
  rw [idx_upd (xs := r) x0 v0 (by rw [h.len]; exact v1)]
  by_cases e : x = v
  · exact ⟨true, by rw [if_pos e], fun _ => .inl e.symm, fun _ => rfl⟩
  · obtain ⟨b, hb, hs⟩ := h.say v v0 v1
    refine ⟨b, by rw [if_neg e]; exact hb, fun h => .inr (hs.1 h), fun h => ?_⟩
    rcases h with h | h
    · exact absurd h.symm e
    · exact hs.2 h
theorem Fl1.congr {n : Nat} {r : List Bool} {S S' : Int → Prop} (h : Fl1 n r S) (e : ∀ v : Int, 0 ≤ v → v < n → (S v ↔ S' v)) : Fl1 n r S' :=
  ⟨h.len, fun v v0 v1 => by obtain ⟨b, hb, hs⟩ := h.say v v0 v1; exact ⟨b, hb, hs.trans (e v v0 v1)⟩⟩
theorem Fl1.empty (n : Nat) : Fl1 n (List.replicate n false) (fun _ => False) := ⟨by simp, fun v v0 v1 => ⟨false, idx_replicate v0 v1, by simp⟩⟩

theorem count_upd {r : List Bool} {x : Int} (h : idx r x = some false) : (upd r x true).count true = r.count true + 1 := by
  have h0 := idx_lo h
  have h1 := idx_hi h
  have hl : x.toNat < r.length := by omega
  rw [idx_nat h0, List.getElem?_eq_getElem hl] at h
  injection h with h
  unfold upd
  rw [List.count_set hl, h]
  simp
/-- The flags' numbers in ascending order. -/
noncomputable def upto (n : Nat) (S : Int → Prop) : List Int := (below n).filter (fun v => @decide (S v) (Classical.propDecidable _))
theorem mem_upto {n : Nat} {S : Int → Prop} {v : Int} : v ∈ upto n S ↔ (0 ≤ v ∧ v < n) ∧ S v := by
  unfold upto; rw [List.mem_filter, mem_below, @decide_eq_true_eq _ (Classical.propDecidable _)]
theorem upto_len (n : Nat) (S : Int → Prop) : (upto n S).length ≤ n := by
  unfold upto; have := List.length_filter_le (fun v => @decide (S v) (Classical.propDecidable _)) (below n); rwa [below_length] at this
theorem upto_succ (n : Nat) (S : Int → Prop) : (S n → upto (n + 1) S = upto n S ++ [(n : Int)]) ∧ (¬ S n → upto (n + 1) S = upto n S) := by
  unfold upto
  rw [below_succ, List.filter_append]
  constructor
  · intro h; rw [List.filter_cons_of_pos (by rw [@decide_eq_true_eq _ (Classical.propDecidable _)]; exact h)]; rfl
  · intro h; rw [List.filter_cons_of_neg (by rw [@decide_eq_true_eq _ (Classical.propDecidable _)]; exact h)]; simp
theorem upto_congr {n : Nat} {S S' : Int → Prop} (h : ∀ v : Int, 0 ≤ v → v < n → (S v ↔ S' v)) : upto n S = upto n S' := by
  unfold upto
  apply List.filter_congr
  intro v hv
  obtain ⟨h0, h1⟩ := mem_below.1 hv
  rw [@decide_eq_decide _ _ (Classical.propDecidable _) (Classical.propDecidable _)]
  exact h v h0 h1

theorem clos_l3 {n : Nat} (hn : n ≤ 128) {r : List Bool} {S : Int → Prop} (h : Fl1 n r S) : depgraph_closure.l3 r FUEL [] 0 = some (upto n S) := by
  refine loop_c (L := fun k (s : List Int) i => depgraph_closure.l3 r k s i) n (fun i s => s = upto i S) (fun o => o = some (upto n S)) ?_ ?_ FUEL 0 [] (Nat.zero_le _) (FUEL_pos (by omega)) (by simp [upto, below])
  · rintro k s i hi rfl
    have hlen := upto_len i S
    have hr := h.len
    rw [depgraph_closure.l3, if_pos (by simp only [decide_eq_true_eq]; omega)]
    refine .inl ⟨upto (i + 1) S, rfl, ?_⟩
    rw [wi_succ (by omega)]
    by_cases hs : S (i : Int)
    · rw [h.true_ (by omega) (by omega) hs, (upto_succ i S).1 hs]
      simp only [Option.bind_some, if_true]
      rw [app_ok (by simp; omega)]; rfl
    · rw [h.false_ (by omega) (by omega) hs, (upto_succ i S).2 hs]
      simp
  · rintro k s rfl
    rw [depgraph_closure.l3, if_neg (by rw [h.len]; simp)]

def badV (n : Int) (v : Int) : Bool := (decide (v < 0)) || (decide (n ≤ v))
theorem badV_iff {n : Nat} {v : Int} : badV (n : Int) v = false ↔ 0 ≤ v ∧ v < n := by unfold badV; simp
theorem any_take_false {α : Type} {xs : List α} {P : α → Bool} {i : Nat} (hi : i < xs.length) : ((xs.take (i + 1)).any P = false) ↔ (xs.take i).any P = false ∧ P xs[i] = false := by
  rw [List.take_succ_eq_append_getElem hi, List.any_append, Bool.or_eq_false_iff]; simp

/-! ### the program: a stack -/

theorem clos_l0 {n : Nat} (hn : n ≤ 128) (of : List Int) (hof : of.length ≤ maxLen) :
    (of.any (badV n) = true ∧ depgraph_closure.l0 (n : Int) of FUEL (List.replicate n false) [] 0 = some (.out ([], 1))) ∨
    (of.any (badV n) = false ∧ ∃ r o, depgraph_closure.l0 (n : Int) of FUEL (List.replicate n false) [] 0 = some (.nxt (r, o)) ∧ Fl1 n r (fun v => v ∈ of) ∧ o.Nodup ∧ ∀ v, v ∈ o ↔ v ∈ of) := by
  rw [maxLen_eq] at hof
  refine loop_c (L := fun k (s : List Bool × List Int) i => depgraph_closure.l0 (n : Int) of k s.1 s.2 i) of.length (fun i s => (of.take i).any (badV n) = false ∧ Fl1 n s.1 (fun v => v ∈ of.take i) ∧ s.2.Nodup ∧ ∀ v, v ∈ s.2 ↔ v ∈ of.take i)
    (fun x => (of.any (badV n) = true ∧ x = some (.out ([], 1))) ∨ (of.any (badV n) = false ∧ ∃ r o, x = some (.nxt (r, o)) ∧ Fl1 n r (fun v => v ∈ of) ∧ o.Nodup ∧ ∀ v, v ∈ o ↔ v ∈ of)) ?_ ?_ FUEL 0 (_, _) (Nat.zero_le _) (FUEL_pos (by omega)) ⟨by simp, (Fl1.empty n).congr (by simp), by simp, by simp⟩
  · rintro k ⟨r, o⟩ i hi ⟨h1, h2, h3, h4⟩
    simp only at h2 h3 h4 ⊢
    rw [depgraph_closure.l0, if_pos (by simp; omega), idx_get hi]
    simp only [Option.bind_some]
    by_cases hb : badV n of[i] = true
    · rw [if_pos (show ((decide (of[i] < 0)) || (decide ((n : Int) ≤ of[i]))) = true from hb)]
      exact .inr (.inl ⟨List.any_eq_true.2 ⟨_, List.getElem_mem hi, hb⟩, rfl⟩)
    · rw [if_neg (show ¬ ((decide (of[i] < 0)) || (decide ((n : Int) ≤ of[i]))) = true from hb)]
      rw [Bool.not_eq_true] at hb
      obtain ⟨v0, v1⟩ := badV_iff.1 hb
      have h1' := (any_take_false hi).2 ⟨h1, hb⟩
      by_cases hm : of[i] ∈ of.take i
      · rw [h2.true_ v0 v1 hm]
        refine .inl ⟨(r, o), ⟨h1', h2.congr (fun v _ _ => ?_), h3, fun v => ?_⟩, by rw [wi_succ (by omega)]; rfl⟩
        all_goals
          rw [mem_take_succ hi]
        · exact ⟨.inl, fun h => h.elim id (fun e => e ▸ hm)⟩
        · rw [h4]; exact ⟨.inl, fun h => h.elim id (fun e => e ▸ hm)⟩
      · rw [h2.false_ v0 v1 hm]
        have hol : o.length ≤ n := by
          have := nodup_le h3 (s := below n) (fun x hx => by
            rw [List.any_eq_false] at h1
            have := h1 x ((h4 x).1 hx)
            rw [Bool.not_eq_true] at this
            exact mem_below.2 (badV_iff.1 this))
          rwa [below_length] at this
        simp only [Option.bind_some, Bool.not_false, if_true]
        rw [app_ok (by simp; omega)]
        refine .inl ⟨(upd r of[i] true, o ++ [of[i]]), ⟨h1', (h2.set v0).congr (fun v _ _ => ?_), ?_, fun v => ?_⟩, by rw [wi_succ (by omega)]; rfl⟩
        · rw [mem_take_succ hi]; exact or_comm
        · rw [List.nodup_append]
          refine ⟨h3, by simp, fun a ha b hb => ?_⟩
          simp only [List.mem_singleton] at hb
          subst hb
          exact fun e => hm ((h4 _).1 (e ▸ ha))
        · rw [mem_take_succ hi, List.mem_append, List.mem_singleton, h4]
  · rintro k ⟨r, o⟩ ⟨h1, h2, h3, h4⟩
    simp only at h2 h3 h4 ⊢
    rw [depgraph_closure.l0, if_neg (by simp)]
    rw [List.take_length] at h1 h2 h4
    exact .inr ⟨h1, r, o, rfl, h2, h3, h4⟩

/-- A set that is on its way: all reached, what is missing lies behind the open nodes. -/
structure Way (n : Nat) (ls : List api_Link) (of : List Int) (r : List Bool) (o : List Int) (S : Int → Prop) : Prop where
  fl : Fl1 n r S
  start : ∀ v ∈ of, S v
  sound : ∀ v, S v → (0 ≤ v ∧ v < n) ∧ Rch false ls of v
  nodup : o.Nodup
  open_ : ∀ v ∈ o, S v
  closed : ∀ v, S v → v ∉ o → ∀ c, api_Link.mk c v ∈ ls → S c

theorem clos_l2 {n : Nat} {ls : List api_Link} (g : GoodG n ls) {of : List Int} {r : List Bool} {o : List Int} {S : Int → Prop} {x : Int} (hw : Way n ls of r (o ++ [x]) S) :
    ∃ r' o' S', depgraph_closure.l2 (consOf ls x) FUEL r o 0 = some (r', o') ∧ Way n ls of r' o' S' ∧ 2 * (n - r'.count true) + o'.length < 2 * (n - r.count true) + (o ++ [x]).length := by
  have hn := g.n128
  have hl := g.len
  have hcl := consOf_le ls x
  have hx := hw.open_ x (by simp)
  have hxo : x ∉ o := by
    have := hw.nodup
    rw [List.nodup_append] at this
    exact fun h => this.2.2 x h x (by simp) rfl
  have hmem : ∀ c ∈ consOf ls x, 0 ≤ c ∧ c < n := fun c hc => g.c0 _ (mem_consOf.1 hc)
  have hrx := (hw.sound x hx).2
  refine loop_c (L := fun k (s : List Bool × List Int) i => depgraph_closure.l2 (consOf ls x) k s.1 s.2 i) (consOf ls x).length
    (fun i s => ∃ S', Fl1 n s.1 S' ∧ (∀ v, S v → S' v) ∧ (∀ v, S' v → (0 ≤ v ∧ v < n) ∧ Rch false ls of v) ∧ s.2.Nodup ∧ (∀ v ∈ s.2, S' v) ∧ x ∉ s.2 ∧ (∀ v, S' v → v ∉ s.2 → v ≠ x → ∀ c, api_Link.mk c v ∈ ls → S' c) ∧ (∀ c ∈ (consOf ls x).take i, S' c) ∧ 2 * (n - s.1.count true) + s.2.length ≤ 2 * (n - r.count true) + o.length)
    (fun q => ∃ r' o' S', q = some (r', o') ∧ Way n ls of r' o' S' ∧ 2 * (n - r'.count true) + o'.length < 2 * (n - r.count true) + (o ++ [x]).length) ?_ ?_ FUEL 0 (r, o) (Nat.zero_le _) (FUEL_pos (by omega))
    ⟨S, hw.fl, fun _ h => h, hw.sound, by have := hw.nodup; rw [List.nodup_append] at this; exact this.1, fun v hv => hw.open_ v (by simp [hv]), hxo, fun v h1 h2 h3 => hw.closed v h1 (by simp [h2, h3]), by simp, Nat.le_refl _⟩
  · rintro k ⟨r1, o1⟩ i hi ⟨S1, i1, i2, i3, i4, i5, i6, i7, i8, i9⟩
    simp only at i1 i4 i5 i6 i7 i9 ⊢
    have hc := hmem _ (List.getElem_mem hi)
    have hlink := mem_consOf.1 (List.getElem_mem hi)
    generalize hcc : (consOf ls x)[i] = c at *
    rw [depgraph_closure.l2, if_pos (by simp; omega), idx_get hi, hcc]
    simp only [Option.bind_some]
    by_cases hs : S1 c
    · rw [i1.true_ hc.1 hc.2 hs]
      refine .inl ⟨(r1, o1), ⟨S1, i1, i2, i3, i4, i5, i6, i7, fun d hd => ?_, i9⟩, by rw [wi_succ (by omega)]; rfl⟩
      rcases (mem_take_succ hi).1 hd with h | h
      · exact i8 d h
      · rw [hcc] at h; subst h; exact hs
    · rw [i1.false_ hc.1 hc.2 hs]
      simp only [Option.bind_some, Bool.not_false, if_true]
      have hol : o1.length ≤ n := by
        have := nodup_le i4 (s := below n) (fun y hy => mem_below.2 (i3 y (i5 y hy)).1)
        rwa [below_length] at this
      have hco : c ∉ o1 := fun h => hs (i5 c h)
      have hcx : c ≠ x := fun e => hs (i2 c (e ▸ hx))
      rw [app_ok (by simp; omega)]
      have hcount := count_upd (i1.false_ hc.1 hc.2 hs)
      have hcle : (upd r1 c true).count true ≤ n := by
        have := List.count_le_length (a := true) (l := upd r1 c true)
        rwa [upd_length, i1.len] at this
      refine .inl ⟨(upd r1 c true, o1 ++ [c]), ⟨fun v => v = c ∨ S1 v, i1.set hc.1, fun v h => .inr (i2 v h), ?_, ?_, ?_, ?_, ?_, ?_, ?_⟩, by rw [wi_succ (by omega)]; rfl⟩
      · rintro v (rfl | h)
        · refine ⟨hc, ?_⟩
          obtain ⟨a, ha, e⟩ := hrx
          refine ⟨a, ha, .inr ?_⟩
          simp only [Bool.false_eq_true, if_false] at e ⊢
          rcases e with e | e
          · subst e; exact .one hlink
          · exact .more hlink e
        · exact i3 v h
      · rw [List.nodup_append]
        refine ⟨i4, by simp, fun a ha b hb => ?_⟩
        simp only [List.mem_singleton] at hb
        subst hb
        exact fun e => hco (e ▸ ha)
      · intro v hv
        rcases List.mem_append.1 hv with h | h
        · exact .inr (i5 v h)
        · exact .inl (List.mem_singleton.1 h)
      · simp only [List.mem_append, List.mem_singleton, not_or]; exact ⟨i6, fun e => hcx e.symm⟩
      · rintro v (rfl | h) h2 h3 d hd
        · exact absurd (by simp) h2
        · simp only [List.mem_append, List.mem_singleton, not_or] at h2
          exact .inr (i7 v h h2.1 h3 d hd)
      · intro d hd
        rcases (mem_take_succ hi).1 hd with h | h
        · exact .inr (i8 d h)
        · rw [hcc] at h; exact .inl h
      · rw [hcount] at hcle ⊢
        rw [List.length_append, List.length_singleton]; omega
  · rintro k ⟨r1, o1⟩ ⟨S1, i1, i2, i3, i4, i5, i6, i7, i8, i9⟩
    simp only at i1 i4 i5 i6 i7 i9 ⊢
    rw [depgraph_closure.l2, if_neg (by simp)]
    rw [List.take_length] at i8
    refine ⟨r1, o1, S1, rfl, ⟨i1, fun v hv => i2 v (hw.start v hv), i3, i4, i5, fun v h1 h2 c hc => ?_⟩, by rw [List.length_append, List.length_singleton]; omega⟩
    by_cases e : v = x
    · subst e; exact i8 c (mem_consOf.2 hc)
    · exact i7 v h1 h2 e c hc

theorem rch_closed {ls : List api_Link} {of : List Int} {S : Int → Prop} (h0 : ∀ v ∈ of, S v) (h1 : ∀ v, S v → ∀ c, api_Link.mk c v ∈ ls → S c) : ∀ v, Rch false ls of v → S v := by
  rintro v ⟨a, ha, e⟩
  simp only [Bool.false_eq_true, if_false] at e
  rcases e with rfl | e
  · exact h0 _ ha
  · induction e with
    | one h => exact h1 _ (h0 _ ha) _ h
    | more h _ ih => exact h1 _ (ih ha) _ h

theorem clos_l1 {n : Nat} {ls : List api_Link} (g : GoodG n ls) {adj : List (List Int)} (ha : ∀ v, 0 ≤ v → v < (n : Int) → idx adj v = some (consOf ls v)) {of : List Int} {r0 : List Bool} {o0 : List Int} {S0 : Int → Prop} (h0 : Way n ls of r0 o0 S0) :
    ∃ r, depgraph_closure.l1 adj FUEL r0 o0 = some r ∧ Fl1 n r (Rch false ls of) := by
  have hn := g.n128
  have hol : ∀ {r o S}, Way n ls of r o S → o.length ≤ n := fun {r o S} hw => by
    have := nodup_le hw.nodup (s := below n) (fun y hy => mem_below.2 (hw.sound y (hw.open_ y hy)).1)
    rwa [below_length] at this
  have h00 := hol h0
  refine loop_m (L := fun k (s : List Bool × List Int) => depgraph_closure.l1 adj k s.1 s.2) (fun s => ∃ S, Way n ls of s.1 s.2 S) (fun s => 2 * (n - s.1.count true) + s.2.length) (fun q => ∃ r, q = some r ∧ Fl1 n r (Rch false ls of)) ?_ FUEL (r0, o0) ⟨S0, h0⟩ (FUEL_pos (by show 2 * (n - r0.count true) + o0.length ≤ _; omega))
  rintro k ⟨r, o⟩ ⟨S, hw⟩
  simp only at hw ⊢
  have hlen := hol hw
  rw [depgraph_closure.l1]
  by_cases hz : 0 < o.length
  · rw [if_pos (by simp only [decide_eq_true_eq]; omega)]
    have e : wi ((o.length : Int) - 1) = ((o.length - 1 : Nat) : Int) := by rw [wi_id (by omega) (by omega)]; omega
    have hdec : o = o.take (o.length - 1) ++ [o[o.length - 1]] := by
      have := List.take_append_drop (o.length - 1) o
      rw [List.drop_eq_getElem_cons (by omega), List.drop_of_length_le (by omega)] at this
      exact this.symm
    rw [e, idx_get (by omega), slc_front (by omega)]
    simp only [Option.bind_some]
    have hx := (hw.sound _ (hw.open_ o[o.length - 1] (List.getElem_mem _))).1
    rw [ha _ hx.1 hx.2]
    simp only [Option.bind_some]
    have hw' := hw
    rw [hdec] at hw'
    obtain ⟨r', o', S', q1, q2, q3⟩ := clos_l2 g hw'
    rw [q1]
    rw [← hdec] at q3
    exact .inl ⟨(r', o'), ⟨S', q2⟩, q3, rfl⟩
  · rw [if_neg (by simp only [decide_eq_true_eq]; omega)]
    have ho : o = [] := List.eq_nil_of_length_eq_zero (by omega)
    subst ho
    exact .inr ⟨r, rfl, hw.fl.congr (fun v _ _ => ⟨fun h => (hw.sound v h).2, rch_closed hw.start (fun v h c hc => hw.closed v h (by simp) c hc) v⟩)⟩

theorem closure_good {n : Nat} {ls : List api_Link} (g : GoodG n ls) {adj : List (List Int)} (ha : ∀ v, 0 ≤ v → v < (n : Int) → idx adj v = some (consOf ls v)) (of : List Int) (hof : of.length ≤ maxLen) :
    depgraph_closure.f (n : Int) adj of = some (if of.any (badV n) = true then ([], 1) else (upto n (Rch false ls of), 0)) := by
  have hn := g.n128
  unfold depgraph_closure.f
  rw [mk_ok (by omega)]
  simp only [Option.bind_some]
  rcases clos_l0 hn of hof with ⟨h1, h2⟩ | ⟨h1, r, o, h2, h3, h4, h5⟩
  · rw [h2, if_pos h1]; rfl
  · rw [h2, h1]
    simp only [Option.bind_some, Fl.go]
    have hin : ∀ v ∈ of, 0 ≤ v ∧ v < (n : Int) := fun v hv => by
      rw [List.any_eq_false] at h1
      have := h1 v hv
      rw [Bool.not_eq_true] at this
      exact badV_iff.1 this
    obtain ⟨r', q1, q2⟩ := clos_l1 g ha (of := of) (r0 := r) (o0 := o) (S0 := fun v => v ∈ of) ⟨h3, fun v h => h, fun v h => ⟨hin v h, ⟨v, h, .inl rfl⟩⟩, h4, fun v h => (h5 v).1 h, fun v h1 h2 => absurd ((h5 v).2 h1) h2⟩
    rw [q1]
    simp only [Option.bind_some]
    rw [clos_l3 hn q2]
    rfl

noncomputable def clres (down : Bool) (p : Int) (ls : List api_Link) (of : List Int) : List Int × Int := if vcode p ls = 0 then (if of.any (badV p) = true then ([], 1) else (upto p.toNat (Rch down ls of), 0)) else ([], vcode p ls)
theorem clres_good {down : Bool} {n : Nat} {ls : List api_Link} (g : GoodG n ls) (of : List Int) : clres down (n : Int) ls of = if of.any (badV n) = true then ([], 1) else (upto n (Rch down ls of), 0) := by
  unfold clres; rw [if_pos (good_vcode g)]; rfl
theorem clres_bad {down : Bool} {p : Int} {ls : List api_Link} (h : ¬ vcode p ls = 0) (of : List Int) : clres down p ls of = ([], vcode p ls) := by
  unfold clres; rw [if_neg h]
theorem suppliers_ok (p : Int) (ls : List api_Link) (of : List Int) (h : ls.length ≤ maxLen) (hof : of.length ≤ maxLen) : depgraph_Suppliers.f p ls of = some (clres true p ls of) := by
  unfold depgraph_Suppliers.f
  rw [validate_ok p ls h, Option.bind_some]
  by_cases hv : vcode p ls = 0
  · obtain ⟨n, rfl, g⟩ := vcode_good hv
    have hl := g.len
    rw [if_neg (by simp [hv]), clres_good g, reversed_ok ls (by omega), Option.bind_some]
    obtain ⟨adj, cnt, ha, _, _, hac⟩ := adjacent_ok (good_revL g)
    rw [ha, Option.bind_some]
    rw [closure_good (good_revL g) (fun v v0 v1 => (hac v v0 v1).1) of hof, upto_congr (fun v _ _ => rch_rev)]
    rfl
  · rw [if_pos (by simpa using hv), clres_bad hv]

end Go.Proofs.Ytcfcffbjdjacfaa.Sim

namespace Go.Proofs.Ytcfcffbjdjacfaa.Sim
open Go
set_option linter.unusedVariables false
set_option linter.unusedSimpArgs false

/-! ### runtimepm_Manager_Usage: function 29 -/
def runtimepm_Manager_Usage.f (p0 : runtimepm_Manager) (p1 : Int) : Option (Int) := (runtimepm_Manager_has.f p0 p1).bind fun r4 => if (!r4) = true then (some 0) else ((idx p0.devices p1).bind fun x16 => some x16.count)
set_option maxRecDepth 100000 in
set_option maxHeartbeats 4000000 in
theorem runtimepm_Manager_Usage.calls {p0 : runtimepm_Manager} {c0 : Nat}  {b_p0 : Nat} {A_devices_p0 : Option Addr} {cap_devices_p0 : Nat} {A_links_p0 : Option Addr} {cap_links_p0 : Nat} {A_order_p0 : Option Addr} {cap_order_p0 : Nat} {p1 : Int} {w : World} {g : Nat → Nat} {out : Int} (N : Nat) (hp0 : runtimepm_Manager_At w g c0 b_p0 A_devices_p0 cap_devices_p0 A_links_p0 cap_links_p0 A_order_p0 cap_order_p0 p0) (hc0 : c0 + 7 ≤ N) (H : runtimepm_Manager_Usage.f p0 p1 = some out) :
    Calls Try.prog 29 #[.pointer (some ⟨b_p0, 0, none⟩), .int .i64 p1] w (fun e w' => ∃ v, e = .returned v ∧ ∃ (g' : Nat → Nat), v = .int .i64 out ∧ Fr (fun q => N ≤ q) w g w' g') := by
  unfold runtimepm_Manager_Usage.f at H
  refine calls_enter Try.func29 rfl Try.ntmps29 rfl (fun a hS => ?_)
  replace hS : Sl 17 a [(0, .pointer (some ⟨b_p0, 0, none⟩)), (1, .int .i64 p1)] := hS
  have hF : Fr (fun q => N ≤ q) w g w g := Fr.refl _ _ _
  obtain ⟨hb0, hf0_devices, hf0_links, hf0_order⟩ := hp0
  refine c_pure [(0, .pointer (some ⟨b_p0, 0, none⟩)), (1, .int .i64 p1)] (fun R hR => st_val hS rfl rfl rfl (r_assign hS rfl rfl) fun a1 hS1 => wpList_nil (hR _ (hS1.re ⟨rfl, rfl, trivial⟩))) ?_
  clear hS
  clear a
  intro a hS
  refine wp_seq ?_
  obtain ⟨r4, hr5, H⟩ := bind_el H
  refine c_region (fun K hK => ?_)
  refine st_val hS rfl rfl rfl (r_move hS rfl rfl) fun a2 hS2 => st_val hS2 rfl rfl rfl (r_move hS2 rfl rfl) fun a3 hS3 => ?_
  refine st_enter hS3 rfl rfl rfl (r_call hS3 rfl rfl (by kernel_rfl)) (runtimepm_Manager_has.calls (c0 := c0) (b_p0 := b_p0) (A_devices_p0 := A_devices_p0) (cap_devices_p0 := cap_devices_p0) (A_links_p0 := A_links_p0) (cap_links_p0 := cap_links_p0) (A_order_p0 := A_order_p0) (cap_order_p0 := cap_order_p0) (p0 := p0) (p1 := p1) (g := g) (N + 0)  ⟨hb0, hf0_devices, hf0_links, hf0_order⟩ (by omega) hr5) ?_
  rintro _ a6 w7 ⟨g7, rfl, F7⟩ hS6
  replace hb0 := hb0.fr F7 (fun (hm : N + 0 ≤ c0) => by omega)
  replace hf0_devices := OwS.fr hf0_devices F7 (fun c' hc (hm : N + 0 ≤ c') => by omega)
  replace hf0_links := OwS.fr hf0_links F7 (fun c' hc (hm : N + 0 ≤ c') => by omega)
  replace hf0_order := OwS.fr hf0_order F7 (fun c' hc (hm : N + 0 ≤ c') => by omega)
  replace hF := hF.trans F7 (fun c' (hm : N + 0 ≤ c') => by show N ≤ c'; omega)
  refine st_val hS6 rfl rfl rfl (r_not hS6 rfl rfl) fun a8 hS8 => wpList_nil (hK _ _ ?_)
  replace hS : Sl 17 _ [(0, .pointer (some ⟨b_p0, 0, none⟩)), (1, .int .i64 p1), (8, .bool (!r4))] := hS8.re ⟨rfl, rfl, rfl, trivial⟩
  clear hK K
  try clear hS2 hS3 hS6 hS8
  obtain ⟨a, ha⟩ : ∃ a', a' = a8 := ⟨_, rfl⟩
  rw [← ha] at hS ⊢; clear ha
  refine c_cond hS rfl (fun hb9 => ?_) (fun hb9 => ?_)
  · replace H := ite_t hb9 H
    refine c_pure [(4, .int .i64 0)] (fun R hR => st_val hS rfl rfl rfl (r_assign hS rfl rfl) fun a10 hS10 => wpList_nil (hR _ (hS10.re ⟨rfl, trivial⟩))) ?_
    clear hS
    clear a
    intro a hS
    refine wp_ret ?_
    have e := Option.some.inj H
    subst e
    repeat (with_reducible first | refine then_ret ?_ | refine inBlock_ret ?_)
    exact c_ret1 hS Try.results29 rfl ⟨_, rfl, g7, rfl, hF⟩
  · replace H := ite_f hb9 H
    refine wp_skip ?_
    change Code.wp _ _ _ _ _
    obtain ⟨x16, hx17, H⟩ := bind_el H
    refine c_region (fun K hK => ?_)
    refine st_val hS rfl rfl rfl (r_move hS rfl rfl) fun a11 hS11 => st_val hS11 rfl rfl rfl (r_nil hS11 rfl rfl) fun a12 hS12 => st_val hS12 rfl rfl rfl (r_fieldB (off := 0) hS12 rfl rfl (by kernel_rfl)) fun a13 hS13 => st_val hS13 rfl rfl rfl (r_load1 (n := 1) hS13 rfl rfl (by kernel_rfl) (Bx.cell hb0 rfl)) fun a14 hS14 => st_val hS14 rfl rfl rfl (r_move hS14 rfl rfl) fun a15 hS15 => ?_
    obtain ⟨_, ⟨A19, cap20, A23, cap24, rfl, h21, h25⟩, hel18⟩ := El.of (OwD.rdx hf0_devices) hx17 (by decide)
    replace hel18 : El w7 g7 (fun q => q = c0 + 1) A_devices_p0 (p1.toNat * 6) [.int .u64 x16.delay, .slice A19 x16.suppliers.length cap20, .slice A23 x16.consumers.length cap24, .bool x16.active, .int .i64 x16.count, .int .u64 x16.idle] := hel18
    refine st_val hS15 rfl rfl rfl (r_index (e := 88) (sz := 6) (by_ := 80) hS15 rfl rfl rfl (by kernel_rfl) (RdS.some_ (OwS.rd hf0_devices) hx17) (idx_lo hx17) (idx_hi hx17)) fun a28 hS28 => st_val hS28 rfl rfl rfl (r_fieldE (off := 4) hS28 rfl rfl (by kernel_rfl)) fun a29 hS29 => st_val hS29 rfl rfl rfl (r_load1 (n := 1) hS29 rfl rfl (by kernel_rfl) (El.cell (j := 4) hel18 rfl)) fun a30 hS30 => st_val hS30 rfl rfl rfl (r_assign hS30 rfl rfl) fun a31 hS31 => wpList_nil (hK _ _ ?_)
    replace hS : Sl 17 _ [(4, .int .i64 x16.count)] := hS31.re ⟨rfl, trivial⟩
    clear hK K
    try clear hS11 hS12 hS13 hS14 hS15 hS28 hS29 hS30 hS31
    obtain ⟨a, ha⟩ : ∃ a', a' = a31 := ⟨_, rfl⟩
    rw [← ha] at hS ⊢; clear ha
    refine wp_ret ?_
    have e := Option.some.inj H
    subst e
    repeat (with_reducible first | refine then_ret ?_ | refine inBlock_ret ?_)
    exact c_ret1 hS Try.results29 rfl ⟨_, rfl, g7, rfl, hF⟩


end Go.Proofs.Ytcfcffbjdjacfaa.Sim

namespace Go.Proofs.Ytcfcffbjdjacfaa.Sim
open Go
set_option linter.unusedVariables false
set_option maxRecDepth 100000

def maxT : Int := 1152921504606846976
noncomputable def req (n : Nat) (ls : List api_Link) (d : Int) : List Int := upto n (Rch true ls [d])
noncomputable def wake (n : Nat) (ls : List api_Link) (m : Pm) (d t : Int) : List api_PowerOp := ((ord n ls).filter (fun k => decide (k ∈ req n ls d) && !m.act k)).map (fun k => api_PowerOp.mk k true t)
noncomputable def getM (n : Nat) (ls : List api_Link) (m : Pm) (d t : Int) : Pm := ⟨fun k => m.act k || (decide (k ∈ req n ls d) && decide (k ∈ ord n ls)), fset m.cnt d (m.cnt d + 1), m.idl, t⟩
def putC (m : Pm) (d t : Int) : Pm := ⟨m.act, fset m.cnt d (m.cnt d - 1), m.idl, t⟩
def putM (ls : List api_Link) (m : Pm) (d t : Int) : Pm := if idle ls (putC m d t) d = true then { putC m d t with idl := fset m.idl d t } else putC m d t

/-- What a call comes to: 2 is Put, 3 Advance, the others Get. -/
inductive Res (n : Nat) (ls : List api_Link) (de : Int → Int) (kind d t : Int) (m : Pm) : Pm → List api_PowerOp → Int → Prop where
  | badG (h2 : kind ≠ 2) (h3 : kind ≠ 3) (h : ¬ ((0 ≤ d ∧ d < n) ∧ m.now ≤ t ∧ t ≤ maxT)) : Res n ls de kind d t m m [] 1
  | get {m1 : Pm} {o1 : List api_PowerOp} (h2 : kind ≠ 2) (h3 : kind ≠ 3) (hd : 0 ≤ d ∧ d < n) (ht : m.now ≤ t ∧ t ≤ maxT) (h : Exp n ls de t m o1 m1) : Res n ls de kind d t m (getM n ls m1 d t) (o1 ++ wake n ls m1 d t) 0
  | badP (h2 : kind = 2) (h : ¬ ((0 ≤ d ∧ d < n) ∧ m.now ≤ t ∧ t ≤ maxT)) : Res n ls de kind d t m m [] 1
  | stateP (h2 : kind = 2) (hd : 0 ≤ d ∧ d < n) (ht : m.now ≤ t ∧ t ≤ maxT) (h : m.cnt d = 0) : Res n ls de kind d t m m [] 9
  | put {m1 m2 : Pm} {o1 o2 : List api_PowerOp} (h2 : kind = 2) (hd : 0 ≤ d ∧ d < n) (ht : m.now ≤ t ∧ t ≤ maxT) (h : m.cnt d ≠ 0) (he : Exp n ls de t m o1 m1) (he2 : Exp n ls de t (putM ls m1 d t) o2 m2) : Res n ls de kind d t m m2 (o1 ++ o2) 0
  | badA (h3 : kind = 3) (h : ¬ (m.now ≤ t ∧ t ≤ maxT)) : Res n ls de kind d t m m [] 1
  | adv {m1 : Pm} {o1 : List api_PowerOp} (h3 : kind = 3) (ht : m.now ≤ t ∧ t ≤ maxT) (h : Exp n ls de t m o1 m1) : Res n ls de kind d t m (setNow m1 t) o1 0

theorem Res.det {n : Nat} {ls : List api_Link} {de : Int → Int} {kind d t : Int} {m m1 m2 : Pm} {o1 o2 : List api_PowerOp} {e1 e2 : Int} (h1 : Res n ls de kind d t m m1 o1 e1) (h2 : Res n ls de kind d t m m2 o2 e2) : m1 = m2 ∧ o1 = o2 ∧ e1 = e2 := by
  cases h1 with
  | badG a b c =>
    cases h2 with
    | badG => exact ⟨rfl, rfl, rfl⟩
    | get _ _ hd ht _ => exact absurd ⟨hd, ht⟩ c
    | badP h _ => exact absurd h a
    | stateP h _ _ _ => exact absurd h a
    | put h _ _ _ _ _ => exact absurd h a
    | badA h _ => exact absurd h b
    | adv h _ _ => exact absurd h b
  | get a b hd ht he =>
    cases h2 with
    | badG _ _ c => exact absurd ⟨hd, ht⟩ c
    | get _ _ _ _ he' => obtain ⟨x, y⟩ := he.det he'; subst x; subst y; exact ⟨rfl, rfl, rfl⟩
    | badP h _ => exact absurd h a
    | stateP h _ _ _ => exact absurd h a
    | put h _ _ _ _ _ => exact absurd h a
    | badA h _ => exact absurd h b
    | adv h _ _ => exact absurd h b
  | badP a c =>
    cases h2 with
    | badG h _ _ => exact absurd a h
    | get h _ _ _ _ => exact absurd a h
    | badP _ _ => exact ⟨rfl, rfl, rfl⟩
    | stateP _ hd ht _ => exact absurd ⟨hd, ht⟩ c
    | put _ hd ht _ _ _ => exact absurd ⟨hd, ht⟩ c
    | badA h _ => omega
    | adv h _ _ => omega
  | stateP a hd ht hc =>
    cases h2 with
    | badG h _ _ => exact absurd a h
    | get h _ _ _ _ => exact absurd a h
    | badP _ c => exact absurd ⟨hd, ht⟩ c
    | stateP _ _ _ _ => exact ⟨rfl, rfl, rfl⟩
    | put _ _ _ h _ _ => exact absurd hc h
    | badA h _ => omega
    | adv h _ _ => omega
  | put a hd ht hc he he2 =>
    cases h2 with
    | badG h _ _ => exact absurd a h
    | get h _ _ _ _ => exact absurd a h
    | badP _ c => exact absurd ⟨hd, ht⟩ c
    | stateP _ _ _ h => exact absurd h hc
    | put _ _ _ _ he' he2' =>
      obtain ⟨x, y⟩ := he.det he'; subst x; subst y
      obtain ⟨x, y⟩ := he2.det he2'; subst x; subst y
      exact ⟨rfl, rfl, rfl⟩
    | badA h _ => omega
    | adv h _ _ => omega
  | badA a c =>
    cases h2 with
    | badG _ h _ => exact absurd a h
    | get _ h _ _ _ => exact absurd a h
    | badP h _ => omega
    | stateP h _ _ _ => omega
    | put h _ _ _ _ _ => omega
    | badA _ _ => exact ⟨rfl, rfl, rfl⟩
    | adv _ h _ => exact absurd h c
  | adv a ht he =>
    cases h2 with
    | badG _ h _ => exact absurd a h
    | get _ h _ _ _ => exact absurd a h
    | badP h _ => omega
    | stateP h _ _ _ => omega
    | put h _ _ _ _ _ => omega
    | badA _ h => exact absurd ht h
    | adv _ _ he' => obtain ⟨x, y⟩ := he.det he'; subst x; subst y; exact ⟨rfl, rfl, rfl⟩

theorem containsI_ok (xs : List Int) (v : Int) (hl : xs.length ≤ 1000000) : slices_Contains_int_int.f xs v = some (decide (v ∈ xs)) := by
  unfold slices_Contains_int_int.f slices_Index_int_int.f
  have key : (v ∈ xs ∧ ∃ i : Nat, slices_Index_int_int.l0 xs v FUEL 0 = some (.out (i : Int))) ∨ (v ∉ xs ∧ slices_Index_int_int.l0 xs v FUEL 0 = some (.nxt ())) := by
    refine loop_c (L := fun k (_ : Unit) i => slices_Index_int_int.l0 xs v k i) xs.length (fun i _ => v ∉ xs.take i) (fun o => (v ∈ xs ∧ ∃ i : Nat, o = some (.out (i : Int))) ∨ (v ∉ xs ∧ o = some (.nxt ()))) ?_ ?_ FUEL 0 () (Nat.zero_le _) (FUEL_pos (by omega)) (by simp)
    · intro k _ i hi hI
      rw [slices_Index_int_int.l0, if_pos (by simp; omega), idx_get hi, Option.bind_some]
      by_cases c : v = xs[i]
      · rw [if_pos (by simpa using c)]
        exact .inr (.inl ⟨c ▸ List.getElem_mem hi, i, rfl⟩)
      · rw [if_neg (by simpa using c), wi_succ (by omega)]
        refine .inl ⟨(), fun h => ?_, rfl⟩
        rcases (mem_take_succ hi).1 h with h | h
        · exact hI h
        · exact c h
    · intro k _ hI
      rw [slices_Index_int_int.l0, if_neg (by simp)]
      rw [List.take_length] at hI
      exact .inr ⟨hI, rfl⟩
  rcases key with ⟨h, i, e⟩ | ⟨h, e⟩
  · rw [e]; simp [h, Fl.go]
  · rw [e]; simp [h, Fl.go]

section
variable {n : Nat} {ls : List api_Link} {de : Int → Int}

theorem has_ok {p : runtimepm_Manager} {m : Pm} (R : RM n ls de p m) (d : Int) : runtimepm_Manager_has.f p d = some (decide (0 ≤ d ∧ d < n)) := by
  unfold runtimepm_Manager_has.f
  rw [R.dv.1]
  congr 1
  rw [Bool.eq_iff_iff]; simp
theorem valid_ok {p : runtimepm_Manager} {m : Pm} (R : RM n ls de p m) (t : Int) : runtimepm_Manager_valid.f p t = some (decide (m.now ≤ t ∧ t ≤ maxT)) := by
  unfold runtimepm_Manager_valid.f
  rw [R.nw]
  congr 1
  rw [Bool.eq_iff_iff, decide_eq_true_eq, Bool.and_eq_true, decide_eq_true_eq, decide_eq_true_eq]; exact Iff.rfl
theorem RM.setNow {p : runtimepm_Manager} {m : Pm} (R : RM n ls de p m) (t : Int) : RM n ls de (runtimepm_Manager.mk p.devices p.links p.order t) (Sim.setNow m t) := ⟨R.dv, R.lk, R.od, rfl⟩
theorem Tb.setNow {m : Pm} (B : Tb de m) (t : Int) : Tb de (Sim.setNow m t) := ⟨B.d, B.i⟩

theorem advance_ok (g : GoodG n ls) {p : runtimepm_Manager} {m : Pm} (R : RM n ls de p m) (B : Tb de m) (t d : Int) : ∃ p' m' ops e, runtimepm_Manager_Advance.f p t = some (p', ops, e) ∧ Res n ls de 3 d t m m' ops e ∧ RM n ls de p' m' ∧ Tb de m' := by
  unfold runtimepm_Manager_Advance.f
  rw [valid_ok R, Option.bind_some]
  by_cases h : m.now ≤ t ∧ t ≤ maxT
  · rw [if_neg (by simp [h])]
    obtain ⟨ops, m1, he, hl⟩ := Exp.exists_ (n := n) (ls := ls) (de := de) (t := t) m
    have hn := g.n128
    obtain ⟨p', e1, R1, B1⟩ := expire_ok g h.2 (he.setNow t) (by omega) (R.setNow t) (B.setNow t)
    rw [e1]
    exact ⟨p', _, ops, 0, rfl, .adv rfl h he, R1, B1⟩
  · rw [if_pos (by rw [Bool.not_eq_true', decide_eq_false_iff_not]; exact h)]
    exact ⟨p, m, [], 1, rfl, .badA rfl h, R, B⟩

theorem Tb.put {m : Pm} (B : Tb de m) {d t : Int} (ht : 0 ≤ t ∧ t ≤ maxT) : Tb de (putM ls m d t) := by
  have h2 := ht.2
  unfold maxT at h2
  unfold putM
  split
  · refine ⟨B.d, fun s => ?_⟩
    simp only [fset]
    split
    · exact ⟨ht.1, h2⟩
    · exact B.i s
  · exact ⟨B.d, B.i⟩

theorem put_ok (g : GoodG n ls) {p : runtimepm_Manager} {m : Pm} (R : RM n ls de p m) (B : Tb de m) {d t : Int} (hc : ∀ k, 0 ≤ m.cnt k ∧ m.cnt k ≤ 1000000) (h0 : 0 ≤ m.now) : ∃ p' m' ops e, runtimepm_Manager_Put.f p d t = some (p', ops, e) ∧ Res n ls de 2 d t m m' ops e ∧ RM n ls de p' m' ∧ Tb de m' := by
  have hn := g.n128
  unfold runtimepm_Manager_Put.f
  rw [has_ok R, Option.bind_some]
  have hor : (if (!decide (0 ≤ d ∧ d < (n : Int))) = true then some true else (runtimepm_Manager_valid.f p t).bind fun r14 => some (!r14)) = some (!decide ((0 ≤ d ∧ d < (n : Int)) ∧ m.now ≤ t ∧ t ≤ maxT)) := by
    rw [valid_ok R, Option.bind_some]
    by_cases h1 : 0 ≤ d ∧ d < (n : Int)
    · rw [if_neg (by simp [h1])]; congr 2; simp [h1]
    · rw [if_pos (by rw [Bool.not_eq_true', decide_eq_false_iff_not]; exact h1)]; congr 1; simp [h1]
  rw [hor, Option.bind_some]
  by_cases h : (0 ≤ d ∧ d < (n : Int)) ∧ m.now ≤ t ∧ t ≤ maxT
  · rw [if_neg (by simp [h])]
    obtain ⟨⟨d0, d1⟩, ht⟩ := h
    rw [R.dv.2 d d0 d1, Option.bind_some]
    by_cases hz : m.cnt d = 0
    · rw [if_pos (by simpa using hz)]
      exact ⟨p, m, [], 9, rfl, .stateP rfl ⟨d0, d1⟩ ht hz, R, B⟩
    · rw [if_neg (by simpa using hz)]
      obtain ⟨o1, m1, he, hl⟩ := Exp.exists_ (n := n) (ls := ls) (de := de) (t := t) m
      obtain ⟨p1, e1, R1, B1⟩ := expire_ok g ht.2 (he.setNow t) (by omega) (R.setNow t) (B.setNow t)
      have hcnt : m1.cnt = m.cnt := he.same.2
      rw [e1, Option.bind_some, R1.dv.2 d d0 d1, Option.bind_some]
      have hcd := hc d
      have hw : wi (m1.cnt d - 1) = m1.cnt d - 1 := wi_id (by rw [hcnt]; omega) (by rw [hcnt]; omega)
      have R2 : RM n ls de (runtimepm_Manager.mk (upd p1.devices d ({ dev ls de (Sim.setNow m1 t) d with count := wi ((dev ls de (Sim.setNow m1 t) d).count - 1) } : runtimepm_device)) p1.links p1.order p1.now) (putC m1 d t) := by
        refine ⟨(R1.dv.set d0 _).congr fun i i0 i1 => ?_, R1.lk, R1.od, R1.nw⟩
        unfold fset
        by_cases e : i = d
        · rw [if_pos e, e]
          simp [dev, putC, fset, setNow, hw]
        · rw [if_neg e]
          simp [dev, putC, fset, setNow, e]
      simp only
      rw [isIdle_ok g R2 d0 d1, Option.bind_some]
      have hfin : ∀ p2, RM n ls de p2 (putM ls m1 d t) → ∃ p' m' ops e, ((runtimepm_Manager_expire.f p2 t).bind fun r145 => (app o1 r145.2).bind fun y153 => some (r145.1, y153, (0 : Int))) = some (p', ops, e) ∧ Res n ls de 2 d t m m' ops e ∧ RM n ls de p' m' ∧ Tb de m' := fun p2 R3 => by
        have B2 : Tb de (putM ls m1 d t) := Tb.put (⟨B1.d, B1.i⟩ : Tb de m1) ⟨by omega, ht.2⟩
        obtain ⟨o2, m2, he2, hl2⟩ := Exp.exists_ (n := n) (ls := ls) (de := de) (t := t) (putM ls m1 d t)
        obtain ⟨p3, e3, R4, B4⟩ := expire_ok g ht.2 he2 (by omega) R3 B2
        rw [e3, Option.bind_some, app_ok (by simp only; omega), Option.bind_some]
        exact ⟨p3, m2, o1 ++ o2, 0, rfl, .put rfl ⟨d0, d1⟩ ht hz he he2, R4, B4⟩
      cases hi : idle ls (putC m1 d t) d
      · rw [if_neg (by simp), Option.bind_some]
        refine hfin _ ?_
        unfold putM
        rw [if_neg (by simp [hi])]
        exact R2
      · rw [if_pos rfl, R2.dv.2 d d0 d1, Option.bind_some, Option.bind_some]
        refine hfin _ ?_
        unfold putM
        rw [if_pos hi]
        refine ⟨(R2.dv.set d0 _).congr fun i i0 i1 => ?_, R2.lk, R2.od, R2.nw⟩
        unfold fset
        by_cases e : i = d
        · rw [if_pos e, e]
          simp [dev, fset]
        · rw [if_neg e]
          simp [dev, fset, e, putC]
  · rw [if_pos (by rw [Bool.not_eq_true', decide_eq_false_iff_not]; exact h)]
    exact ⟨p, m, [], 1, rfl, .badP rfl h, R, B⟩

theorem get_ok (g : GoodG n ls) {p : runtimepm_Manager} {m : Pm} (R : RM n ls de p m) (B : Tb de m) {kind d t : Int} (h2 : kind ≠ 2) (h3 : kind ≠ 3) (hc : ∀ k, 0 ≤ m.cnt k ∧ m.cnt k ≤ 1000000) : ∃ p' m' ops e, runtimepm_Manager_Get.f p d t = some (p', ops, e) ∧ Res n ls de kind d t m m' ops e ∧ RM n ls de p' m' ∧ Tb de m' := by
  have hn := g.n128
  unfold runtimepm_Manager_Get.f
  rw [has_ok R, Option.bind_some]
  have hor : (if (!decide (0 ≤ d ∧ d < (n : Int))) = true then some true else (runtimepm_Manager_valid.f p t).bind fun r14 => some (!r14)) = some (!decide ((0 ≤ d ∧ d < (n : Int)) ∧ m.now ≤ t ∧ t ≤ maxT)) := by
    rw [valid_ok R, Option.bind_some]
    by_cases h1 : 0 ≤ d ∧ d < (n : Int)
    · rw [if_neg (by simp [h1])]; congr 2; simp [h1]
    · rw [if_pos (by rw [Bool.not_eq_true', decide_eq_false_iff_not]; exact h1)]; congr 1; simp [h1]
  rw [hor, Option.bind_some]
  by_cases h : (0 ≤ d ∧ d < (n : Int)) ∧ m.now ≤ t ∧ t ≤ maxT
  · rw [if_neg (by simp [h])]
    obtain ⟨⟨d0, d1⟩, ht⟩ := h
    obtain ⟨o1, m1, he, hl⟩ := Exp.exists_ (n := n) (ls := ls) (de := de) (t := t) m
    obtain ⟨p1, e1, R1, B1⟩ := expire_ok g ht.2 (he.setNow t) (by omega) (R.setNow t) (B.setNow t)
    have hcnt : m1.cnt = m.cnt := he.same.2
    have hcd := hc d
    have hw : wi (m1.cnt d + 1) = m1.cnt d + 1 := wi_id (by rw [hcnt]; omega) (by rw [hcnt]; omega)
    have hll : ls.length ≤ maxLen := by have := g.len; rw [maxLen_eq]; omega
    have hs : clres true (n : Int) ls [d] = (req n ls d, 0) := by
      rw [clres_good g, if_neg]
      · rfl
      · simp [badV]; omega
    rw [e1, Option.bind_some, R1.dv.2 d d0 d1, Option.bind_some, R1.lk]
    have R2 : RM n ls de (runtimepm_Manager.mk (upd p1.devices d ({ dev ls de (Sim.setNow m1 t) d with count := wi ((dev ls de (Sim.setNow m1 t) d).count + 1) } : runtimepm_device)) ls p1.order p1.now) ⟨m1.act, fset m1.cnt d (m1.cnt d + 1), m1.idl, t⟩ := by
      refine ⟨(R1.dv.set d0 _).congr fun i i0 i1 => ?_, rfl, R1.od, R1.nw⟩
      unfold fset
      by_cases e : i = d
      · rw [if_pos e, e]
        simp [dev, fset, setNow, hw]
      · rw [if_neg e]
        simp [dev, fset, setNow, e]
    have hlen2 : ((upd p1.devices d ({ dev ls de (Sim.setNow m1 t) d with count := wi ((dev ls de (Sim.setNow m1 t) d).count + 1) } : runtimepm_device)).length : Int) = n := by rw [upd_length, R1.dv.1]
    simp only
    simp only at hlen2
    rw [hlen2, suppliers_ok _ _ _ hll (by simp [maxLen]), hs, Option.bind_some]
    have hod : p1.order = ord n ls := R1.od
    have hr := (ord_run n ls).1
    have hol := ord_le n ls
    -- the pass along the order
    let mi : Nat → Pm := fun j => ⟨fun k => m1.act k || (decide (k ∈ req n ls d) && decide (k ∈ (ord n ls).take j)), fset m1.cnt d (m1.cnt d + 1), m1.idl, t⟩
    let oi : Nat → List api_PowerOp := fun j => o1 ++ (((ord n ls).take j).filter (fun k => decide (k ∈ req n ls d) && !m1.act k)).map (fun k => api_PowerOp.mk k true t)
    have hoil : ∀ j, j ≤ (ord n ls).length → (oi j).length ≤ 256 := fun j hj => by
      have h1 := List.length_filter_le (fun k => decide (k ∈ req n ls d) && !m1.act k) ((ord n ls).take j)
      simp only [oi, List.length_append, List.length_map]
      simp only [List.length_take] at h1
      omega
    have key : ∃ p2, runtimepm_Manager_Get.l0 t (p1, o1) (req n ls d, 0) FUEL (runtimepm_Manager.mk (upd p1.devices d ({ dev ls de (Sim.setNow m1 t) d with count := wi ((dev ls de (Sim.setNow m1 t) d).count + 1) } : runtimepm_device)) ls p1.order p1.now) o1 0 = some (oi (ord n ls).length, p2) ∧ RM n ls de p2 (mi (ord n ls).length) := by
      refine loop_c (L := fun q (s : runtimepm_Manager × List api_PowerOp) i => runtimepm_Manager_Get.l0 t (p1, o1) (req n ls d, 0) q s.1 s.2 i) (ord n ls).length (fun j s => RM n ls de s.1 (mi j) ∧ s.2 = oi j)
        (fun o => ∃ p2, o = some (oi (ord n ls).length, p2) ∧ RM n ls de p2 (mi (ord n ls).length)) ?_ ?_ FUEL 0 (_, o1) (Nat.zero_le _) (FUEL_pos (by omega)) ⟨⟨R2.dv.congr fun i _ _ => by simp [mi], R2.lk, R2.od, R2.nw⟩, by simp [oi]⟩
      · rintro q ⟨p2, os⟩ j hj ⟨hI, rfl⟩
        simp only at hI ⊢
        have hm := List.getElem_mem hj
        obtain ⟨k0, k1⟩ := hr.facts.2.1 _ hm
        have hlen := hoil j (by omega)
        have hrl : (req n ls d).length ≤ 1000000 := by have := upto_len n (Rch true ls [d]); unfold req; omega
        have hfresh : (ord n ls)[j] ∉ (ord n ls).take j := by
          have := hr.facts.1
          intro hmem
          obtain ⟨i, hi, e⟩ := List.getElem_of_mem hmem
          simp only [List.length_take] at hi
          rw [List.getElem_take] at e
          exact absurd e (by have := List.pairwise_iff_getElem.1 this i j (by omega) hj (by omega); exact this)
        have hact : (mi j).act (ord n ls)[j] = m1.act (ord n ls)[j] := by simp [mi, hfresh]
        have hin : ∀ k, (k ∈ (ord n ls).take (j + 1)) ↔ k ∈ (ord n ls).take j ∨ k = (ord n ls)[j] := fun k => mem_take_succ hj
        have hoi : oi (j + 1) = oi j ++ (if (decide ((ord n ls)[j] ∈ req n ls d) && !m1.act (ord n ls)[j]) = true then [api_PowerOp.mk (ord n ls)[j] true t] else []) := by
          simp only [oi]
          rw [List.take_succ_eq_append_getElem hj, List.filter_append, List.map_append, ← List.append_assoc]
          congr 1
          rw [List.filter_cons]
          split <;> simp
        rw [runtimepm_Manager_Get.l0, hod, if_pos (by simp; omega), hI.od, idx_get hj, Option.bind_some, containsI_ok _ _ hrl, Option.bind_some, wi_succ (by omega)]
        by_cases hreq : (ord n ls)[j] ∈ req n ls d
        · rw [if_pos (by simpa using hreq), hI.dv.2 _ k0 k1, Option.bind_some, Option.bind_some]
          simp only [hact]
          cases ha : m1.act (ord n ls)[j]
          · rw [if_pos (by simp), Option.bind_some, app_ok (by simp; omega), Option.bind_some, Option.bind_some]
            refine .inl ⟨(runtimepm_Manager.mk (upd p2.devices (ord n ls)[j] ({ dev ls de (mi j) (ord n ls)[j] with active := true } : runtimepm_device)) p2.links p2.order p2.now, oi (j + 1)), ⟨⟨(hI.dv.set k0 _).congr fun i i0 i1 => ?_, hI.lk, hI.od, hI.nw⟩, rfl⟩, ?_⟩
            · unfold fset
              by_cases e : i = (ord n ls)[j]
              · rw [if_pos e, e]
                simp [mi, hreq, hin]
              · rw [if_neg e]
                simp [mi, hin, e]
            · rw [hoi, if_pos (by simp [hreq, ha])]
              simp only [hact, ha]
              simp [hod, hI.od]
          · rw [if_neg (by simp), Option.bind_some]
            refine .inl ⟨(p2, oi (j + 1)), ⟨⟨hI.dv.congr fun i i0 i1 => ?_, hI.lk, hI.od, hI.nw⟩, rfl⟩, ?_⟩
            · by_cases e : i = (ord n ls)[j]
              · rw [e]; simp [mi, ha]
              · simp [mi, hin, e]
            · rw [hoi, if_neg (by simp [ha])]; simp
        · rw [if_neg (by simpa using hreq), Option.bind_some, if_neg (by simp), Option.bind_some]
          refine .inl ⟨(p2, oi (j + 1)), ⟨⟨hI.dv.congr fun i i0 i1 => ?_, hI.lk, hI.od, hI.nw⟩, rfl⟩, ?_⟩
          · by_cases e : i = (ord n ls)[j]
            · rw [e]; simp [mi, hreq]
            · simp [mi, hin, e]
          · rw [hoi, if_neg (by simp [hreq])]; simp
      · rintro q ⟨p2, os⟩ ⟨hI, rfl⟩
        simp only at hI ⊢
        rw [runtimepm_Manager_Get.l0, hod, if_neg (by simp)]
        exact ⟨p2, rfl, hI⟩
    obtain ⟨p2, e2, R3⟩ := key
    rw [e2, Option.bind_some]
    refine ⟨p2, getM n ls m1 d t, o1 ++ wake n ls m1 d t, 0, ?_, .get h2 h3 ⟨d0, d1⟩ ht he, ?_, ⟨B1.d, B1.i⟩⟩
    · simp only [oi, List.take_length]; rfl
    · refine ⟨R3.dv.congr fun i _ _ => ?_, R3.lk, R3.od, R3.nw⟩
      simp only [mi, getM, List.take_length]
  · rw [if_pos (by rw [Bool.not_eq_true', decide_eq_false_iff_not]; exact h)]
    exact ⟨p, m, [], 1, rfl, .badG h2 h3 h, R, B⟩

theorem do_ok (g : GoodG n ls) {p : runtimepm_Manager} {m : Pm} (R : RM n ls de p m) (B : Tb de m) {c : law28_Call} {now d t kind : Int} (hat : law28_Call_at.f c n now = some (d, t)) (hk : help_Mod.f c.Kind 4 = some kind) (hc : ∀ k, 0 ≤ m.cnt k ∧ m.cnt k ≤ 1000000) (h0 : 0 ≤ m.now) :
    ∃ p' m' ops e, law28_do.f p c n now = some (p', ops, e) ∧ Res n ls de kind d t m m' ops e ∧ RM n ls de p' m' ∧ Tb de m' := by
  unfold law28_do.f
  rw [hat, Option.bind_some, hk, Option.bind_some]
  by_cases h2 : kind = 2
  · subst h2
    obtain ⟨p', m', ops, e, e1, r⟩ := put_ok g R B (d := d) (t := t) hc h0
    rw [if_pos (by simp), e1]
    exact ⟨p', m', ops, e, rfl, r⟩
  · rw [if_neg (by simpa using h2)]
    by_cases h3 : kind = 3
    · subst h3
      obtain ⟨p', m', ops, e, e1, r⟩ := advance_ok g R B t d
      rw [if_pos (by simp), e1]
      exact ⟨p', m', ops, e, rfl, r⟩
    · rw [if_neg (by simpa using h3)]
      obtain ⟨p', m', ops, e, e1, r⟩ := get_ok g R B (d := d) (t := t) h2 h3 hc
      rw [e1]
      exact ⟨p', m', ops, e, rfl, r⟩

theorem active_ok {p : runtimepm_Manager} {m : Pm} (R : RM n ls de p m) (d : Int) : runtimepm_Manager_Active.f p d = some (decide (0 ≤ d ∧ d < n) && m.act d) := by
  unfold runtimepm_Manager_Active.f
  rw [has_ok R, Option.bind_some]
  by_cases h : 0 ≤ d ∧ d < (n : Int)
  · rw [if_pos (by simpa using h), R.dv.2 d h.1 h.2]; simp [h]
  · rw [if_neg (by simpa using h)]; simp [h]
end
end Go.Proofs.Ytcfcffbjdjacfaa.Sim

namespace Go.Proofs.Ytcfcffbjdjacfaa.Sim
open Go
set_option linter.unusedVariables false
set_option maxRecDepth 100000

/-- Suppliers are active, counted devices are active. -/
structure WA (n : Nat) (ls : List api_Link) (m : Pm) : Prop where
  a : ∀ l ∈ ls, m.act l.Consumer = true → m.act l.Supplier = true
  r : ∀ k, m.act k = true → 0 ≤ k ∧ k < n
  c0 : ∀ k, 0 ≤ m.cnt k
  c1 : ∀ k, 0 < m.cnt k → m.act k = true
def WI (ls : List api_Link) (t : Int) (m : Pm) : Prop := ∀ k, idle ls m k = true → m.idl k ≤ t
structure W (n : Nat) (ls : List api_Link) (de : Int → Int) (m : Pm) : Prop where
  w : WA n ls m
  n0 : 0 ≤ m.now
  n1 : m.now ≤ maxT
  i : WI ls m.now m
  x : ∀ k, idle ls m k = true → m.now < m.idl k + de k

section
variable {n : Nat} {ls : List api_Link} {de : Int → Int} {t : Int}

theorem off1_act (m : Pm) (k at_ s : Int) : (off1 ls m k at_).act s = true ↔ s ≠ k ∧ m.act s = true := by
  unfold off1 fset
  simp only
  by_cases e : s = k
  · rw [if_pos e]; simp [e]
  · rw [if_neg e]; simp [e]
theorem off1_idl (m : Pm) (k at_ s : Int) : (off1 ls m k at_).idl s = if ((∃ l ∈ ls, l.Consumer = k ∧ l.Supplier = s) ∧ idle ls (off1 ls m k at_) s = true) then at_ else m.idl s := by
  have : ((∃ l ∈ ls, l.Consumer = k ∧ l.Supplier = s) ∧ idle ls (off1 ls m k at_) s = true) ↔ (ls.any (fun l => decide (l.Consumer = k) && decide (l.Supplier = s)) && idle ls { m with act := fset m.act k false } s) = true := by
    rw [Bool.and_eq_true, List.any_eq_true]
    simp only [Bool.and_eq_true, decide_eq_true_eq]
    rfl
  by_cases h : (ls.any (fun l => decide (l.Consumer = k) && decide (l.Supplier = s)) && idle ls { m with act := fset m.act k false } s) = true
  · rw [if_pos (this.2 h)]
    show (if _ then at_ else m.idl s) = at_
    rw [if_pos h]
  · rw [if_neg (fun h' => h (this.1 h'))]
    show (if _ then at_ else m.idl s) = m.idl s
    rw [if_neg h]
/-- What idles behind a suspension: it idled before, or it is a supplier and idles from now on. -/
theorem off1_idle {m : Pm} {k at_ s : Int} (h : idle ls (off1 ls m k at_) s = true) : ((∃ l ∈ ls, l.Consumer = k ∧ l.Supplier = s) ∧ (off1 ls m k at_).idl s = at_) ∨ (idle ls m s = true ∧ (off1 ls m k at_).idl s = m.idl s) := by
  rw [off1_idl]
  by_cases c : ∃ l ∈ ls, l.Consumer = k ∧ l.Supplier = s
  · exact .inl ⟨c, by rw [if_pos ⟨c, h⟩]⟩
  · refine .inr ⟨?_, by rw [if_neg (fun h' => c h'.1)]⟩
    obtain ⟨h1, h2, h3⟩ := idle_iff.1 h
    refine idle_iff.2 ⟨((off1_act _ _ _ _).1 h1).2, h2, fun l hl hs => ?_⟩
    refine Bool.eq_false_iff.2 fun hb => ?_
    have := h3 l hl hs
    have hne : l.Consumer ≠ k := fun e => c ⟨l, hl, e, hs⟩
    rw [(off1_act _ _ _ _).2 ⟨hne, hb⟩] at this; cases this

theorem WA.off {m : Pm} (w : WA n ls m) {k at_ : Int} (hk : idle ls m k = true) : WA n ls (off1 ls m k at_) := by
  obtain ⟨h1, h2, h3⟩ := idle_iff.1 hk
  refine ⟨fun l hl hc => ?_, fun s hs => w.r s ((off1_act _ _ _ _).1 hs).2, w.c0, fun s hs => ?_⟩
  · obtain ⟨c1, c2⟩ := (off1_act _ _ _ _).1 hc
    refine (off1_act _ _ _ _).2 ⟨fun e => ?_, w.a l hl c2⟩
    rw [h3 l hl e] at c2; cases c2
  · have hs' : 0 < m.cnt s := hs
    refine (off1_act _ _ _ _).2 ⟨fun e => ?_, w.c1 s hs'⟩
    rw [e, h2] at hs'; omega
theorem WI.off {m : Pm} (w : WI ls t m) {k at_ : Int} (ht : at_ ≤ t) : WI ls t (off1 ls m k at_) := fun s hs => by
  rcases off1_idle hs with ⟨_, e⟩ | ⟨h, e⟩
  · rw [e]; exact ht
  · rw [e]; exact w s h
theorem Exp.W {m m' : Pm} {ops : List api_PowerOp} (h : Exp n ls de t m ops m') (w : WA n ls m) (i : WI ls t m) : WA n ls m' ∧ WI ls t m' :=
  h.ind (P := fun m => WA n ls m ∧ WI ls t m) (fun m k at_ ⟨a, b⟩ h ht => ⟨a.off (nxTo_some h).2.1, b.off ht⟩) ⟨w, i⟩
theorem Exp.x {m m' : Pm} {ops : List api_PowerOp} (h : Exp n ls de t m ops m') (w : WA n ls m') : ∀ k, idle ls m' k = true → t < m'.idl k + de k := fun k hk => by
  have := w.r k (idle_iff.1 hk).1
  exact stop_iff.1 h.stop_ k this.1 this.2 hk

theorem mem_req (g : GoodG n ls) {d k : Int} : k ∈ req n ls d ↔ (0 ≤ k ∧ k < n) ∧ (k = d ∨ Path ls d k) := by
  unfold req
  rw [mem_upto]
  refine and_congr Iff.rfl ?_
  unfold Rch
  simp
theorem path_last {ls : List api_Link} {a b : Int} (h : Path ls a b) : ∃ c, (c = a ∨ Path ls a c) ∧ api_Link.mk c b ∈ ls := by
  induction h with
  | one h => exact ⟨_, .inl rfl, h⟩
  | more h _ ih =>
    obtain ⟨c, h1, h2⟩ := ih
    rcases h1 with e | h1
    · subst e; exact ⟨_, .inr (.one h), h2⟩
    · exact ⟨c, .inr (.more h h1), h2⟩
theorem path_snoc {ls : List api_Link} {a b c : Int} (h : Path ls a b) (h' : api_Link.mk b c ∈ ls) : Path ls a c := h.trans (.one h')

theorem getM_act (g : GoodG n ls) (hfull : ¬ (ord n ls).length < n) (m : Pm) (d t k : Int) : (getM n ls m d t).act k = true ↔ m.act k = true ∨ ((0 ≤ k ∧ k < n) ∧ (k = d ∨ Path ls d k)) := by
  unfold getM
  simp only [Bool.or_eq_true, Bool.and_eq_true, decide_eq_true_eq, mem_req g]
  constructor
  · rintro (h | ⟨h, _⟩)
    · exact .inl h
    · exact .inr h
  · rintro (h | h)
    · exact .inl h
    · exact .inr ⟨h, ord_full hfull h.1.1 h.1.2⟩
theorem getM_idle (g : GoodG n ls) (hfull : ¬ (ord n ls).length < n) {m : Pm} (w : WA n ls m) {d t k : Int} (h : idle ls (getM n ls m d t) k = true) : idle ls m k = true := by
  obtain ⟨h1, h2, h3⟩ := idle_iff.1 h
  have hkd : k ≠ d := fun e => by
    subst e
    have h2' : fset m.cnt k (m.cnt k + 1) k = 0 := h2
    rw [fset_self] at h2'
    have := w.c0 k; omega
  have hc : m.cnt k = 0 := by
    have h2' : fset m.cnt d (m.cnt d + 1) k = 0 := h2
    rwa [fset_ne _ _ hkd] at h2'
  have hcon : ∀ l ∈ ls, l.Supplier = k → (getM n ls m d t).act l.Consumer = false := h3
  rcases (getM_act g hfull m d t k).1 h1 with ha | ⟨_, e | hp⟩
  · refine idle_iff.2 ⟨ha, hc, fun l hl hs => Bool.eq_false_iff.2 fun hb => ?_⟩
    have := hcon l hl hs
    rw [(getM_act g hfull m d t l.Consumer).2 (.inl hb)] at this; cases this
  · exact absurd e hkd
  · obtain ⟨c, h4, h5⟩ := path_last hp
    have := hcon _ h5 rfl
    have hcr := g.c0 _ h5
    simp only at this hcr
    rw [(getM_act g hfull m d t c).2 (.inr ⟨hcr, h4⟩)] at this; cases this

theorem putM_act (m : Pm) (d t : Int) : (putM ls m d t).act = m.act ∧ (putM ls m d t).cnt = fset m.cnt d (m.cnt d - 1) ∧ (putM ls m d t).now = t := by
  unfold putM
  split <;> exact ⟨rfl, rfl, rfl⟩
theorem putM_idle (m : Pm) (d t k : Int) : idle ls (putM ls m d t) k = idle ls (putC m d t) k := by
  unfold putM
  split <;> rfl

theorem Res.W {kind d : Int} {m m' : Pm} {ops : List api_PowerOp} {e : Int} (g : GoodG n ls) (hfull : ¬ (ord n ls).length < n) (w : W n ls de m) (h : Res n ls de kind d t m m' ops e) : Sim.W n ls de m' := by
  have h0 := w.n0
  cases h with
  | badG => exact w
  | badP => exact w
  | stateP => exact w
  | badA => exact w
  | @get m1 o1 h2 h3 hd ht he =>
    obtain ⟨w1, i1⟩ := he.W w.w (fun k hk => by have := w.i k hk; omega)
    have x1 := he.x w1
    refine ⟨⟨fun l hl hc => ?_, fun k hk => ?_, fun k => ?_, fun k hk => ?_⟩, by show (0 : Int) ≤ t; omega, ht.2, fun k hk => ?_, fun k hk => ?_⟩
    · rcases (getM_act g hfull m1 d t _).1 hc with h | ⟨_, h⟩
      · exact (getM_act g hfull m1 d t _).2 (.inl (w1.a l hl h))
      · refine (getM_act g hfull m1 d t _).2 (.inr ⟨g.s0 l hl, .inr ?_⟩)
        rcases h with e | h
        · rw [← e]; exact .one hl
        · exact path_snoc h hl
    · rcases (getM_act g hfull m1 d t _).1 hk with h | ⟨h, _⟩
      · exact w1.r k h
      · exact h
    · show 0 ≤ fset m1.cnt d (m1.cnt d + 1) k
      have h1 := w1.c0 d
      have h2 := w1.c0 k
      unfold fset; split <;> omega
    · have hk' : 0 < fset m1.cnt d (m1.cnt d + 1) k := hk
      by_cases e : k = d
      · exact (getM_act g hfull m1 d t _).2 (.inr ⟨by rw [e]; exact hd, .inl e⟩)
      · rw [fset_ne _ _ e] at hk'
        exact (getM_act g hfull m1 d t _).2 (.inl (w1.c1 k hk'))
    · exact i1 k (getM_idle g hfull w1 hk)
    · exact x1 k (getM_idle g hfull w1 hk)
  | @put m1 m2 o1 o2 h2 hd ht hc he he2 =>
    obtain ⟨w1, i1⟩ := he.W w.w (fun k hk => by have := w.i k hk; omega)
    obtain ⟨p1, p2, p3⟩ := putM_act (ls := ls) m1 d t
    have hcd : m1.cnt d ≠ 0 := by rw [he.same.2]; exact hc
    have hc0 := w1.c0 d
    have w2 : WA n ls (putM ls m1 d t) := by
      refine ⟨by rw [p1]; exact w1.a, by rw [p1]; exact w1.r, fun k => ?_, fun k hk => ?_⟩
      · rw [p2]
        have := w1.c0 k
        unfold fset; split <;> omega
      · rw [p2] at hk
        rw [p1]
        unfold fset at hk
        split at hk
        · rename_i e; rw [e]; exact w1.c1 d (by omega)
        · exact w1.c1 k hk
    have i2 : WI ls t (putM ls m1 d t) := fun k hk => by
      rw [putM_idle] at hk
      unfold putM
      by_cases hi : idle ls (putC m1 d t) d = true
      · rw [if_pos hi]
        show fset m1.idl d t k ≤ t
        unfold fset
        split
        · omega
        · rename_i e
          refine i1 k ?_
          obtain ⟨q1, q2, q3⟩ := idle_iff.1 hk
          have q2' : fset m1.cnt d (m1.cnt d - 1) k = 0 := q2
          rw [fset_ne _ _ e] at q2'
          exact idle_iff.2 ⟨q1, q2', q3⟩
      · rw [if_neg hi]
        show m1.idl k ≤ t
        have e : k ≠ d := fun e => hi (e ▸ hk)
        refine i1 k ?_
        obtain ⟨q1, q2, q3⟩ := idle_iff.1 hk
        have q2' : fset m1.cnt d (m1.cnt d - 1) k = 0 := q2
        rw [fset_ne _ _ e] at q2'
        exact idle_iff.2 ⟨q1, q2', q3⟩
    obtain ⟨w3, i3⟩ := he2.W w2 i2
    have hnow : m'.now = t := by rw [he2.same.1, p3]
    refine ⟨w3, by omega, by have := ht.2; omega, by rw [hnow]; exact i3, by rw [hnow]; exact he2.x w3⟩
  | @adv m1 o1 h3 ht he =>
    obtain ⟨w1, i1⟩ := he.W w.w (fun k hk => by have := w.i k hk; omega)
    exact ⟨⟨w1.a, w1.r, w1.c0, w1.c1⟩, by show (0 : Int) ≤ t; omega, ht.2, i1, he.x w1⟩

/-- The counts behind a call. -/
theorem Res.cnt {kind d : Int} {m m' : Pm} {ops : List api_PowerOp} {e : Int} (h : Res n ls de kind d t m m' ops e) : (e ≠ 0 → m' = m ∧ ops = []) ∧ (e = 0 → m'.now = t ∧ m'.cnt = if kind = 2 then fset m.cnt d (m.cnt d - 1) else if kind = 3 then m.cnt else fset m.cnt d (m.cnt d + 1)) := by
  cases h with
  | badG => exact ⟨fun _ => ⟨rfl, rfl⟩, fun h => by omega⟩
  | badP => exact ⟨fun _ => ⟨rfl, rfl⟩, fun h => by omega⟩
  | stateP => exact ⟨fun _ => ⟨rfl, rfl⟩, fun h => by omega⟩
  | badA => exact ⟨fun _ => ⟨rfl, rfl⟩, fun h => by omega⟩
  | @get m1 o1 h2 h3 hd ht he =>
    refine ⟨fun h => absurd rfl h, fun _ => ⟨rfl, ?_⟩⟩
    rw [if_neg h2, if_neg h3]
    show fset m1.cnt d (m1.cnt d + 1) = _
    rw [he.same.2]
  | @put m1 m2 o1 o2 h2 hd ht hc he he2 =>
    refine ⟨fun h => absurd rfl h, fun _ => ?_⟩
    obtain ⟨_, p2, p3⟩ := putM_act (ls := ls) m1 d t
    rw [if_pos h2, he2.same.1, he2.same.2, p2, p3, he.same.2]
    exact ⟨rfl, rfl⟩
  | @adv m1 o1 h3 ht he =>
    refine ⟨fun h => absurd rfl h, fun _ => ⟨rfl, ?_⟩⟩
    rw [if_neg (by omega), if_pos h3]
    exact he.same.2
end
end Go.Proofs.Ytcfcffbjdjacfaa.Sim

namespace Go.Proofs.Ytcfcffbjdjacfaa.Sim
open Go
set_option linter.unusedVariables false
set_option maxRecDepth 100000

def supl (d : api_IdleDevice) : List Int := if d.Parent < 0 then d.Suppliers else d.Parent :: d.Suppliers
structure GD (ds : List api_IdleDevice) : Prop where
  n8 : ds.length ≤ 8
  par : ∀ d ∈ ds, -1 ≤ d.Parent ∧ d.Parent < ds.length
  sup : ∀ d ∈ ds, ∀ s ∈ supl d, 0 ≤ s ∧ s < ds.length
  nd : ∀ d ∈ ds, (supl d).Nodup
  de : ∀ d ∈ ds, 0 ≤ d.Delay ∧ d.Delay ≤ 11
  sl : ∀ d ∈ ds, d.Suppliers.length ≤ 20
  rk : ∃ r : Int → Int, ∀ i (hi : i < ds.length), ∀ s ∈ supl ds[i], r s < r (i : Int)

/-- The device i of the first list: what it needs lies before it. -/
structure D1 (i : Int) (d : api_IdleDevice) : Prop where
  p : -1 ≤ d.Parent ∧ d.Parent < i
  s : ∀ s ∈ d.Suppliers, 0 ≤ s ∧ s < i
  n : d.Parent ∉ d.Suppliers ∧ d.Suppliers.Nodup
  dl : 0 ≤ d.Delay ∧ d.Delay ≤ 11
  l : d.Suppliers.length ≤ 20
structure D2 (n i : Int) (d : api_IdleDevice) : Prop where
  p : d.Parent = -1 ∨ i < d.Parent ∧ d.Parent < n
  s : ∀ s ∈ d.Suppliers, i < s ∧ s < n
  n : d.Parent ∉ d.Suppliers ∧ d.Suppliers.Nodup
  dl : 0 ≤ d.Delay ∧ d.Delay ≤ 11
  l : d.Suppliers.length ≤ 20

theorem some_l2 (d : api_IdleDevice) (hl : d.Suppliers.length ≤ 20) (r : Int) : law28_Some.l2 d r FUEL (r != d.Parent) 0 = some (decide (r ≠ d.Parent ∧ r ∉ d.Suppliers)) := by
  refine loop_c (L := fun k (s : Bool) i => law28_Some.l2 d r k s i) d.Suppliers.length (fun i s => s = decide (r ≠ d.Parent ∧ r ∉ d.Suppliers.take i)) (fun o => o = some (decide (r ≠ d.Parent ∧ r ∉ d.Suppliers))) ?_ ?_ FUEL 0 _ (Nat.zero_le _) (FUEL_pos (by omega)) (by rw [Bool.eq_iff_iff]; simp)
  · rintro k s i hi rfl
    rw [law28_Some.l2, if_pos (by simp; omega), wi_succ (by omega)]
    refine .inl ⟨_, rfl, ?_⟩
    by_cases c : r ≠ d.Parent ∧ r ∉ d.Suppliers.take i
    · rw [if_pos (by simpa using c), idx_get hi, Option.bind_some, Option.bind_some]
      congr 1
      rw [Bool.eq_iff_iff]
      simp only [bne_iff_ne, decide_eq_true_eq, mem_take_succ hi, not_or]
      exact ⟨fun h => ⟨c.1, c.2, Ne.symm h⟩, fun h => Ne.symm h.2.2⟩
    · rw [if_neg (by simpa using c), Option.bind_some]
      congr 1
      symm
      rw [decide_eq_false_iff_not]
      exact fun h => c ⟨h.1, fun hm => h.2 ((mem_take_succ hi).2 (.inl hm))⟩
  · rintro k s rfl
    rw [law28_Some.l2, if_neg (by simp), List.take_length]

theorem some_l1 {i : Nat} (hi : i ≤ 8) (x : api_IdleDevice) (hx : x.Suppliers.length ≤ 20) {d0 : api_IdleDevice} (h0 : D1 i d0) (he : d0.Suppliers = []) : ∃ d, law28_Some.l1 i x FUEL d0 0 = some d ∧ D1 i d := by
  by_cases hz : i = 0
  · refine ⟨d0, ?_, h0⟩
    have : FUEL = 18446744073709551615 + 1 := rfl
    rw [this, law28_Some.l1, if_neg (by simp [hz])]
  · refine loop_c (L := fun k (s : api_IdleDevice) j => law28_Some.l1 i x k s j) x.Suppliers.length (fun j d => D1 i d ∧ d.Suppliers.length ≤ j) (fun o => ∃ d, o = some d ∧ D1 i d) ?_ ?_ FUEL 0 d0 (Nat.zero_le _) (FUEL_pos (by omega)) ⟨h0, by simp [he]⟩
    · rintro k d j hj ⟨hd, hl⟩
      obtain ⟨r, e, r0, r1⟩ := mod_ok (x := x.Suppliers[j]) (n := (i : Int)) (by omega) (by omega)
      rw [law28_Some.l1, if_pos (by simp; omega), idx_get hj, Option.bind_some, e, Option.bind_some, some_l2 d hd.l, Option.bind_some, wi_succ (by omega)]
      by_cases c : r ≠ d.Parent ∧ r ∉ d.Suppliers
      · rw [if_pos (by simpa using c), app_ok (by simp; omega), Option.bind_some, Option.bind_some]
        refine .inl ⟨api_IdleDevice.mk d.Parent (d.Suppliers ++ [r]) d.Delay, ⟨⟨hd.p, fun s hs => ?_, ⟨?_, ?_⟩, hd.dl, by simp; omega⟩, by simp; omega⟩, rfl⟩
        · rcases List.mem_append.1 hs with h | h
          · exact hd.s s h
          · simp only [List.mem_singleton] at h; rw [h]; exact ⟨r0, r1⟩
        · intro h
          rcases List.mem_append.1 h with h | h
          · exact hd.n.1 h
          · simp only [List.mem_singleton] at h; exact c.1 h.symm
        · show (d.Suppliers ++ [r]).Nodup
          rw [List.nodup_append]
          refine ⟨hd.n.2, by simp, fun a ha b hb => ?_⟩
          simp only [List.mem_singleton] at hb
          rw [hb]; exact fun e => c.2 (e ▸ ha)
      · rw [if_neg (by simpa using c), Option.bind_some]
        exact .inl ⟨d, ⟨hd, by omega⟩, rfl⟩
    · rintro k d ⟨hd, _⟩
      rw [law28_Some.l1, if_neg (by simp)]
      exact ⟨d, rfl, hd⟩

theorem some_l0 {raw : List api_IdleDevice} (hl : raw.length ≤ 20) (hs : ∀ d ∈ raw, d.Suppliers.length ≤ 20) (hd : ∀ d ∈ raw, 0 ≤ d.Delay) : ∃ ds, law28_Some.l0 raw FUEL [] 0 = some ds ∧ ds.length = min raw.length 8 ∧ ∀ j (hj : j < ds.length), D1 j ds[j] := by
  have hmin : (min (raw.length : Int) 8) = ((min raw.length 8 : Nat) : Int) := by omega
  refine loop_c (L := fun k (s : List api_IdleDevice) i => law28_Some.l0 raw k s i) (min raw.length 8) (fun i s => s.length = i ∧ ∀ j (hj : j < s.length), D1 j s[j]) (fun o => ∃ ds, o = some ds ∧ ds.length = min raw.length 8 ∧ ∀ j (hj : j < ds.length), D1 j ds[j]) ?_ ?_ FUEL 0 [] (Nat.zero_le _) (FUEL_pos (by omega)) ⟨rfl, fun j hj => by simp at hj⟩
  · rintro k s i hi ⟨h1, h2⟩
    have hi' : i < raw.length := by omega
    have hm := List.getElem_mem hi'
    have hdl := hd _ hm
    obtain ⟨r, e, r0, r1⟩ := mod_ok (x := raw[i].Parent) (n := ((i + 1 : Nat) : Int)) (by omega) (by omega)
    have hw : wi (r - 1) = r - 1 := wi_id (by omega) (by omega)
    rw [law28_Some.l0, hmin, if_pos (by simp; omega), idx_get hi', Option.bind_some, wi_succ (by omega), e, Option.bind_some, hw]
    obtain ⟨d, e2, hD⟩ := some_l1 (i := i) (by omega) raw[i] (hs _ hm) (d0 := api_IdleDevice.mk (r - 1) ([] : List Int) (Int.tmod raw[i].Delay 12)) ⟨by simp only; omega, by simp, by simp, by simp only; rw [Int.tmod_eq_emod_of_nonneg hdl]; omega, by simp⟩ rfl
    rw [e2, Option.bind_some, app_ok (by simp; omega), Option.bind_some, Option.bind_some]
    refine .inl ⟨s ++ [d], ⟨by simp [h1], fun j hj => ?_⟩, rfl⟩
    by_cases c : j < s.length
    · rw [List.getElem_append_left c]; exact h2 j c
    · have : j = s.length := by simp only [List.length_append, List.length_singleton] at hj; omega
      subst this
      rw [List.getElem_append_right (Nat.le_refl _)]
      simpa [h1] using hD
  · rintro k s ⟨h1, h2⟩
    rw [law28_Some.l0, hmin, if_neg (by simp)]
    exact ⟨s, rfl, h1, h2⟩

theorem some_l4 {raw : List api_IdleDevice} {n : Nat} (hmin : (min (raw.length : Int) 8) = (n : Int)) (hn : n ≤ 8) {x : api_IdleDevice} {i : Nat} (hx : D1 i x) (hi : i < n) (p dl : Int) : law28_Some.l4 raw x FUEL (api_IdleDevice.mk p ([] : List Int) dl) 0 = some (api_IdleDevice.mk p (x.Suppliers.map (fun s => (n : Int) - 1 - s)) dl) := by
  have hl := hx.l
  refine loop_c (L := fun k (s : api_IdleDevice) j => law28_Some.l4 raw x k s j) x.Suppliers.length (fun j s => s = api_IdleDevice.mk p ((x.Suppliers.take j).map (fun s => (n : Int) - 1 - s)) dl) (fun o => o = some (api_IdleDevice.mk p (x.Suppliers.map (fun s => (n : Int) - 1 - s)) dl)) ?_ ?_ FUEL 0 _ (Nat.zero_le _) (FUEL_pos (by omega)) (by simp)
  · rintro k s j hj rfl
    have hr := hx.s _ (List.getElem_mem hj)
    rw [law28_Some.l4, if_pos (by simp; omega), idx_get hj, Option.bind_some, hmin, wi_id (x := (n : Int) - 1) (by omega) (by omega), wi_id (by omega) (by omega), app_ok (by simp; omega), Option.bind_some, wi_succ (by omega)]
    refine .inl ⟨_, ?_, rfl⟩
    rw [List.take_succ_eq_append_getElem hj, List.map_append, List.map_cons, List.map_nil]
  · rintro k s rfl
    rw [law28_Some.l4, if_neg (by simp), List.take_length]

theorem nodup_map_inj' {α β : Type} {f : α → β} (hf : ∀ a b, f a = f b → a = b) {l : List α} (h : l.Nodup) : (l.map f).Nodup := by
  unfold List.Nodup at h ⊢
  rw [List.pairwise_map]
  exact h.imp fun {a b} hab e => hab (hf a b e)

theorem some_l3 {raw : List api_IdleDevice} {n : Nat} (hmin : (min (raw.length : Int) 8) = (n : Int)) (hn : n ≤ 8) {ds : List api_IdleDevice} (hl : ds.length = n) (hD : ∀ j (hj : j < ds.length), D1 j ds[j]) :
    ∃ bs, law28_Some.l3 raw ds FUEL (List.replicate n (api_IdleDevice.mk 0 ([] : List Int) 0)) 0 = some bs ∧ bs.length = n ∧ ∀ j (hj : j < bs.length), D2 n j bs[j] := by
  refine loop_c (L := fun k (s : List api_IdleDevice) i => law28_Some.l3 raw ds k s i) n (fun i s => s.length = n ∧ ∀ j (hj : j < s.length), n - i ≤ j → D2 n j s[j]) (fun o => ∃ bs, o = some bs ∧ bs.length = n ∧ ∀ j (hj : j < bs.length), D2 n j bs[j]) ?_ ?_ FUEL 0 _ (Nat.zero_le _) (FUEL_pos (by omega)) ⟨by simp, fun j hj h => by simp at hj; omega⟩
  · rintro k s i hi ⟨h1, h2⟩
    have hi' : i < ds.length := by omega
    have hx := hD i hi'
    have hp := hx.p
    rw [law28_Some.l3, hmin, if_pos (by simp; omega), idx_get hi', Option.bind_some, wi_id (x := (n : Int) - 1) (by omega) (by omega), wi_succ (by omega)]
    have hq : wi ((n : Int) - 1 - (i : Int)) = ((n - 1 - i : Nat) : Int) := by rw [wi_id (by omega) (by omega)]; omega
    have hfin : ∀ p, (p = -1 ∨ (n : Int) - 1 - i < p ∧ p < n) → (p ∉ ds[i].Suppliers.map (fun s => (n : Int) - 1 - s)) → ∃ s', (s'.length = n ∧ ∀ j (hj : j < s'.length), n - (i + 1) ≤ j → D2 n j s'[j]) ∧
        ((law28_Some.l4 raw ds[i] FUEL (api_IdleDevice.mk p ([] : List Int) ds[i].Delay) 0).bind fun v389 => (idx s ((n - 1 - i : Nat) : Int)).bind fun x473 => some (upd s ((n - 1 - i : Nat) : Int) v389)) = some s' := fun p hp1 hp2 => by
      rw [some_l4 hmin hn hx hi p ds[i].Delay, Option.bind_some, idx_get (by omega : n - 1 - i < s.length), Option.bind_some]
      refine ⟨_, ⟨by rw [upd_length]; exact h1, fun j hj hij => ?_⟩, rfl⟩
      rw [upd_length] at hj
      unfold upd
      simp only [Int.toNat_natCast]
      rw [List.getElem_set]
      split
      · rename_i e
        refine ⟨by simp only; omega, fun s' hs' => ?_, ⟨hp2, nodup_map_inj' (fun a b h => by omega) hx.n.2⟩, hx.dl, by simp; exact hx.l⟩
        obtain ⟨q, hq', rfl⟩ := List.mem_map.1 hs'
        have := hx.s q hq'
        omega
      · exact h2 j hj (by omega)
    by_cases c : 0 ≤ ds[i].Parent
    · rw [if_pos (by simpa using c), Option.bind_some]
      simp only
      rw [wi_id (x := (n : Int) - 1 - ds[i].Parent) (by omega) (by omega), hq]
      obtain ⟨s', a, b⟩ := hfin ((n : Int) - 1 - ds[i].Parent) (by omega) (fun hm => by
        obtain ⟨q, hq', e⟩ := List.mem_map.1 hm
        exact hx.n.1 (by rw [show ds[i].Parent = q by omega]; exact hq'))
      rw [b]
      exact .inl ⟨s', a, rfl⟩
    · rw [if_neg (by simpa using c), Option.bind_some]
      simp only
      rw [hq]
      obtain ⟨s', a, b⟩ := hfin (-1) (.inl rfl) (fun hm => by
        obtain ⟨q, hq', e⟩ := List.mem_map.1 hm
        have := hx.s q hq'
        omega)
      rw [b]
      exact .inl ⟨s', a, rfl⟩
  · rintro k s ⟨h1, h2⟩
    rw [law28_Some.l3, hmin, if_neg (by simp)]
    exact ⟨s, rfl, h1, fun j hj => h2 j hj (by omega)⟩

theorem some_ok {raw : List api_IdleDevice} (hl : raw.length ≤ 20) (hs : ∀ d ∈ raw, d.Suppliers.length ≤ 20) (hd : ∀ d ∈ raw, 0 ≤ d.Delay) : ∃ ds, law28_Some.f raw = some ds ∧ GD ds := by
  obtain ⟨ds, e, h1, h2⟩ := some_l0 hl hs hd
  have hmin : (min (raw.length : Int) 8) = ((min raw.length 8 : Nat) : Int) := by omega
  unfold law28_Some.f
  rw [e, Option.bind_some]
  by_cases c : (Int.tmod (min (raw.length : Int) 8) 2 == 0) = true
  · rw [if_pos c]
    refine ⟨ds, rfl, by omega, ?_, ?_, ?_, ?_, ?_, fun i => i, ?_⟩
    all_goals first
      | (intro d hd'
         obtain ⟨j, hj, rfl⟩ := List.getElem_of_mem hd'
         have D := h2 j hj
         have hp := D.p)
      | skip
    · omega
    · intro s hs'
      unfold supl at hs'
      split at hs'
      · have := D.s s hs'; omega
      · rcases List.mem_cons.1 hs' with h | h
        · omega
        · have := D.s s h; omega
    · unfold supl
      split
      · exact D.n.2
      · rw [List.nodup_cons]; exact D.n
    · exact D.dl
    · exact D.l
    · intro i hi s hs'
      show s < (i : Int)
      have D := h2 i hi
      have hp := D.p
      unfold supl at hs'
      split at hs'
      · exact (D.s s hs').2
      · rcases List.mem_cons.1 hs' with h | h
        · omega
        · exact (D.s s h).2
  · rw [if_neg c, hmin, mk_ok (by omega), Option.bind_some]
    obtain ⟨bs, e2, b1, b2⟩ := some_l3 (raw := raw) (n := min raw.length 8) hmin (by omega) h1 h2
    rw [e2]
    refine ⟨bs, rfl, by omega, ?_, ?_, ?_, ?_, ?_, fun i => -i, ?_⟩
    all_goals first
      | (intro d hd'
         obtain ⟨j, hj, rfl⟩ := List.getElem_of_mem hd'
         have D := b2 j hj
         have hp := D.p)
      | skip
    · omega
    · intro s hs'
      unfold supl at hs'
      split at hs'
      · have := D.s s hs'; omega
      · rcases List.mem_cons.1 hs' with h | h
        · omega
        · have := D.s s h; omega
    · unfold supl
      split
      · exact D.n.2
      · rw [List.nodup_cons]; exact D.n
    · exact D.dl
    · exact D.l
    · intro i hi s hs'
      show -s < -(i : Int)
      have D := b2 i hi
      have hp := D.p
      unfold supl at hs'
      split at hs'
      · have := (D.s s hs').1; omega
      · rcases List.mem_cons.1 hs' with h | h
        · omega
        · have := (D.s s h).1; omega

theorem large_ok (raw : List api_IdleDevice) (l : List law28_Call) (h : raw.length ≤ maxLen) : law28_large.f raw l = some (decide (20 < raw.length ∨ 40 < l.length) || raw.any (fun d => decide (20 < d.Suppliers.length))) := by
  unfold law28_large.f
  by_cases h1 : 20 < raw.length ∨ 40 < l.length
  · rw [if_pos (by simp; omega)]; simp [h1]
  · rw [if_neg (by simp; omega)]
    have key : law28_large.l0 raw FUEL 0 = some (if raw.any (fun d => decide (20 < d.Suppliers.length)) = true then .out true else .nxt ()) :=
      search_ok (L := law28_large.l0 raw) raw (fun d => decide (20 < d.Suppliers.length)) true h (fun k i => by
        rw [law28_large.l0]
        congr 1
        congr 1
        funext x
        have : (decide (20 < (x.Suppliers.length : Int))) = decide (20 < x.Suppliers.length) := by rw [Bool.eq_iff_iff]; simp; omega
        rw [this])
    rw [key]
    cases raw.any (fun d => decide (20 < d.Suppliers.length)) <;> simp [h1, Fl.go]

/-! ### New -/

def lkTo (ds : List api_IdleDevice) : Nat → List api_Link
  | 0 => []
  | i + 1 => lkTo ds i ++ ((ds[i]?.map supl).getD []).map (fun s => api_Link.mk (i : Int) s)
theorem lkTo_succ {ds : List api_IdleDevice} {i : Nat} (hi : i < ds.length) : lkTo ds (i + 1) = lkTo ds i ++ (supl ds[i]).map (fun s => api_Link.mk (i : Int) s) := by
  rw [lkTo, List.getElem?_eq_getElem hi]; rfl
theorem mem_lkTo {ds : List api_IdleDevice} : ∀ {i : Nat}, i ≤ ds.length → ∀ {l : api_Link}, l ∈ lkTo ds i ↔ ∃ j, ∃ hj : j < ds.length, j < i ∧ l.Consumer = j ∧ l.Supplier ∈ supl ds[j]
  | 0, _, l => by simp [lkTo]
  | i + 1, hi, l => by
    rw [lkTo_succ (by omega), List.mem_append, mem_lkTo (by omega), List.mem_map]
    constructor
    · rintro (⟨j, hj, h1, h2⟩ | ⟨s, h1, rfl⟩)
      · exact ⟨j, hj, by omega, h2⟩
      · exact ⟨i, by omega, by omega, rfl, h1⟩
    · rintro ⟨j, hj, h1, h2, h3⟩
      by_cases e : j = i
      · subst e
        exact .inr ⟨l.Supplier, h3, by cases l; simp only at h2; rw [h2]⟩
      · exact .inl ⟨j, hj, by omega, h2, h3⟩
theorem supl_len (d : api_IdleDevice) : (supl d).length ≤ d.Suppliers.length + 1 := by unfold supl; split <;> simp
theorem supOf_append (a b : List api_Link) (k : Int) : supOf (a ++ b) k = supOf a k ++ supOf b k := by simp [supOf]
theorem supOf_lkTo {ds : List api_IdleDevice} : ∀ {i : Nat}, i ≤ ds.length → ∀ {k : Nat} (hk : k < ds.length), supOf (lkTo ds i) (k : Int) = if k < i then supl ds[k] else []
  | 0, _, k, hk => by simp [lkTo, supOf]
  | i + 1, hi, k, hk => by
    rw [lkTo_succ (by omega), supOf_append, supOf_lkTo (by omega) hk]
    have hb : supOf ((supl ds[i]).map (fun s => api_Link.mk (i : Int) s)) (k : Int) = if k = i then supl ds[i] else [] := by
      unfold supOf
      by_cases e : k = i
      · rw [if_pos e, List.filter_eq_self.2 (fun l hl => by obtain ⟨s, _, rfl⟩ := List.mem_map.1 hl; simp [e])]
        simp [Function.comp_def]
      · rw [if_neg e, List.filter_eq_nil_iff.2 (fun l hl => by obtain ⟨s, _, rfl⟩ := List.mem_map.1 hl; simp; omega)]; rfl
    rw [hb]
    by_cases e : k = i
    · subst e; simp
    · rw [if_neg e]
      by_cases c : k < i
      · rw [if_pos c, if_pos (by omega)]; simp
      · rw [if_neg c, if_neg (by omega)]; rfl

def lks (ds : List api_IdleDevice) : List api_Link := lkTo ds ds.length
def dly (ds : List api_IdleDevice) (k : Int) : Int := ((idx ds k).map (·.Delay)).getD 0
theorem GD.lkLen {ds : List api_IdleDevice} (G : GD ds) : ∀ {i : Nat}, i ≤ ds.length → (lkTo ds i).length ≤ i * 21
  | 0, _ => by simp [lkTo]
  | i + 1, hi => by
    have h1 := GD.lkLen G (i := i) (by omega)
    have h2 := supl_len (ds[i]'(by omega))
    have h3 := G.sl _ (List.getElem_mem (by omega : i < ds.length))
    rw [lkTo_succ (by omega), List.length_append, List.length_map]
    omega
theorem GD.good {ds : List api_IdleDevice} (G : GD ds) : GoodG ds.length (lks ds) := by
  have h8 := G.n8
  have hl := G.lkLen (Nat.le_refl ds.length)
  refine ⟨by omega, by unfold lks; omega, fun l h => ?_, fun l h => ?_, ?_⟩
  · obtain ⟨j, hj, _, e, _⟩ := (mem_lkTo (Nat.le_refl _)).1 h
    omega
  · obtain ⟨j, hj, _, _, e⟩ := (mem_lkTo (Nat.le_refl _)).1 h
    exact G.sup _ (List.getElem_mem hj) _ e
  · have key : ∀ i, i ≤ ds.length → (lkTo ds i).Nodup := by
      intro i
      induction i with
      | zero => intro _; simp [lkTo]
      | succ i ih =>
        intro hi
        rw [lkTo_succ (by omega), List.nodup_append]
        refine ⟨ih (by omega), nodup_map_inj' (fun a b h => by injection h) (G.nd _ (List.getElem_mem (by omega))), fun a ha b hb e => ?_⟩
        obtain ⟨j, hj, h1, h2, _⟩ := (mem_lkTo (by omega)).1 ha
        obtain ⟨s, _, rfl⟩ := List.mem_map.1 hb
        rw [e] at h2
        simp only at h2; omega
    exact key _ (Nat.le_refl _)
theorem GD.full {ds : List api_IdleDevice} (G : GD ds) : ¬ (ord ds.length (lks ds)).length < ds.length := fun hlt => by
  obtain ⟨r, hr⟩ := G.rk
  obtain ⟨i, _, _, hp⟩ := ord_cyclic G.good hlt
  have hlk : ∀ a b, api_Link.mk a b ∈ lks ds → r b < r a := fun a b h => by
    obtain ⟨j, hj, _, e, hs⟩ := (mem_lkTo (Nat.le_refl _)).1 h
    simp only at e hs
    rw [e]; exact hr j hj b hs
  have : ∀ {a b : Int}, Path (lks ds) a b → r b < r a := fun h => by
    induction h with
    | one h => exact hlk _ _ h
    | more h _ ih => have := hlk _ _ h; omega
  have := this hp
  omega
theorem GD.dly {ds : List api_IdleDevice} (G : GD ds) (k : Int) : 0 ≤ dly ds k ∧ dly ds k ≤ 11 := by
  unfold Sim.dly
  cases h : idx ds k with
  | none => simp
  | some d =>
    obtain ⟨x, hx, hm⟩ := idx_of (idx_lo h) (idx_hi h)
    rw [h] at hx; injection hx with hx; subst hx
    exact G.de d hm

def m00 : Pm := ⟨fun _ => false, fun _ => 0, fun _ => 0, 0⟩

theorem suppliersF_ok (d : api_IdleDevice) (hl : d.Suppliers.length ≤ 1000000) : runtimepm_suppliers.f d = some (supl d) := by
  unfold runtimepm_suppliers.f slices_Clone_int_int.f supl
  by_cases c : d.Parent < 0
  · rw [if_pos (by simpa using c), if_pos c, app_ok (by simp; omega)]; rfl
  · rw [if_neg (by simpa using c), if_neg c, app_ok (by simp; omega)]; rfl

/-- A device under way: the first i are known, the links so far are ls. -/
def devTo (ds : List api_IdleDevice) (i : Int) (ls : List api_Link) (k : Int) : runtimepm_device :=
  runtimepm_device.mk (if k < i then dly ds k else 0) (if k < i then ((idx ds k).map supl).getD [] else []) (consOf ls k) false 0 0

theorem new_l1 {ds : List api_IdleDevice} (G : GD ds) {i : Nat} (hi : i < ds.length) {x : runtimepm_device} (hx : x.suppliers = supl ds[i]) {dl : List runtimepm_device} (h0 : RepV ds.length dl (devTo ds ((i + 1 : Nat) : Int) (lkTo ds i))) :
    ∃ dl', runtimepm_New.l1 ds (i : Int) x FUEL (runtimepm_Manager.mk dl (lkTo ds i) ([] : List Int) 0) 0 = some (.nxt (runtimepm_Manager.mk dl' (lkTo ds (i + 1)) ([] : List Int) 0)) ∧ RepV ds.length dl' (devTo ds ((i + 1 : Nat) : Int) (lkTo ds (i + 1))) := by
  have h8 := G.n8
  have hm := List.getElem_mem hi
  have hsl := supl_len ds[i]
  have hsl2 := G.sl _ hm
  have hlk := G.lkLen (i := i) (by omega)
  rw [lkTo_succ hi]
  refine loop_c (L := fun k (s : runtimepm_Manager) j => runtimepm_New.l1 ds (i : Int) x k s j) (supl ds[i]).length (fun j s => ∃ dl, s = runtimepm_Manager.mk dl (lkTo ds i ++ ((supl ds[i]).take j).map (fun s => api_Link.mk (i : Int) s)) ([] : List Int) 0 ∧ RepV ds.length dl (devTo ds ((i + 1 : Nat) : Int) (lkTo ds i ++ ((supl ds[i]).take j).map (fun s => api_Link.mk (i : Int) s))))
    (fun o => ∃ dl', o = some (.nxt (runtimepm_Manager.mk dl' (lkTo ds i ++ (supl ds[i]).map (fun s => api_Link.mk (i : Int) s)) ([] : List Int) 0)) ∧ RepV ds.length dl' (devTo ds ((i + 1 : Nat) : Int) (lkTo ds i ++ (supl ds[i]).map (fun s => api_Link.mk (i : Int) s)))) ?_ ?_ FUEL 0 _ (Nat.zero_le _) (FUEL_pos (by omega)) ⟨dl, by simp, by simpa using h0⟩
  · rintro k s j hj ⟨dl, rfl, hR⟩
    have hs := G.sup _ hm _ (List.getElem_mem hj)
    have hlen : ((lkTo ds i ++ ((supl ds[i]).take j).map (fun s => api_Link.mk (i : Int) s)).length) ≤ 500 := by
      simp only [List.length_append, List.length_map, List.length_take]; omega
    have hcl := consOf_le (lkTo ds i ++ ((supl ds[i]).take j).map (fun s => api_Link.mk (i : Int) s)) (supl ds[i])[j]
    rw [runtimepm_New.l1, hx, if_pos (by simp; omega), idx_get hj, Option.bind_some, if_neg (by simp; omega)]
    simp only
    rw [app_ok (by simp only [List.length_singleton]; omega), Option.bind_some, hR.2 _ hs.1 hs.2, Option.bind_some]
    simp only [devTo]
    rw [app_ok (by simp only [List.length_singleton]; omega), Option.bind_some, wi_succ (by omega)]
    have e : (lkTo ds i ++ ((supl ds[i]).take j).map (fun s => api_Link.mk (i : Int) s)) ++ [api_Link.mk (i : Int) (supl ds[i])[j]] = lkTo ds i ++ ((supl ds[i]).take (j + 1)).map (fun s => api_Link.mk (i : Int) s) := by
      rw [List.take_succ_eq_append_getElem hj, List.map_append, List.append_assoc]; rfl
    rw [e]
    refine .inl ⟨_, ⟨_, rfl, (hR.set hs.1 _).congr fun q q0 q1 => ?_⟩, rfl⟩
    unfold fset
    have hcs := consOf_snoc (lkTo ds i ++ ((supl ds[i]).take j).map (fun s => api_Link.mk (i : Int) s)) (api_Link.mk (i : Int) (supl ds[i])[j]) q
    rw [e] at hcs
    by_cases c : q = (supl ds[i])[j]
    · rw [if_pos c]
      rw [if_pos (by simp [c])] at hcs
      simp only [devTo, hcs]
      subst c
      rfl
    · rw [if_neg c]
      rw [if_neg (by simp; exact fun h => c h.symm)] at hcs
      simp only [devTo, hcs]
  · rintro k s ⟨dl, rfl, hR⟩
    rw [runtimepm_New.l1, hx, if_neg (by simp)]
    rw [List.take_length] at hR
    exact ⟨dl, by rw [List.take_length], hR⟩

theorem new_ok {ds : List api_IdleDevice} (G : GD ds) : ∃ p, runtimepm_New.f ds = some (some p, 0) ∧ RM ds.length (lks ds) (dly ds) p m00 ∧ Tb (dly ds) m00 ∧ W ds.length (lks ds) (dly ds) m00 := by
  have h8 := G.n8
  unfold runtimepm_New.f
  rw [if_neg (by simp; omega), mk_ok (by omega), Option.bind_some]
  have key : ∃ dl, runtimepm_New.l0 ds FUEL (runtimepm_Manager.mk (List.replicate ds.length (runtimepm_device.mk 0 ([] : List Int) ([] : List Int) false 0 0)) ([] : List api_Link) ([] : List Int) 0) 0 = some (.nxt (runtimepm_Manager.mk dl (lks ds) ([] : List Int) 0)) ∧ RepV ds.length dl (devTo ds (ds.length : Int) (lks ds)) := by
    refine loop_c (L := fun k (s : runtimepm_Manager) i => runtimepm_New.l0 ds k s i) ds.length (fun i s => ∃ dl, s = runtimepm_Manager.mk dl (lkTo ds i) ([] : List Int) 0 ∧ RepV ds.length dl (devTo ds (i : Int) (lkTo ds i)))
      (fun o => ∃ dl, o = some (.nxt (runtimepm_Manager.mk dl (lks ds) ([] : List Int) 0)) ∧ RepV ds.length dl (devTo ds (ds.length : Int) (lks ds))) ?_ ?_ FUEL 0 _ (Nat.zero_le _) (FUEL_pos (by omega)) ⟨_, rfl, (RepV.rep ds.length _).congr fun q q0 q1 => ?_⟩
    · rintro k s i hi ⟨dl, rfl, hR⟩
      have hm := List.getElem_mem hi
      have hp := G.par _ hm
      have hd := G.de _ hm
      have hsl := G.sl _ hm
      have i0 : (0 : Int) ≤ (i : Int) := by omega
      have i1 : (i : Int) < (ds.length : Int) := by omega
      have hR1 := hR.set i0 ({ devTo ds (i : Int) (lkTo ds i) (i : Int) with delay := ds[i].Delay } : runtimepm_device)
      have hR2 := hR1.set i0 ({ ({ devTo ds (i : Int) (lkTo ds i) (i : Int) with delay := ds[i].Delay } : runtimepm_device) with suppliers := supl ds[i] } : runtimepm_device)
      rw [runtimepm_New.l0, if_pos (by simp; omega), idx_get hi, Option.bind_some, if_neg (by simp; omega), suppliersF_ok _ (by omega), Option.bind_some]
      simp only
      rw [hR.2 _ i0 i1, Option.bind_some, hR1.2 _ i0 i1, Option.bind_some, fset_self, hR2.2 _ i0 i1, Option.bind_some, fset_self]
      have hR3 : RepV ds.length (upd (upd dl (i : Int) ({ devTo ds (i : Int) (lkTo ds i) (i : Int) with delay := ds[i].Delay } : runtimepm_device)) (i : Int) ({ ({ devTo ds (i : Int) (lkTo ds i) (i : Int) with delay := ds[i].Delay } : runtimepm_device) with suppliers := supl ds[i] } : runtimepm_device)) (devTo ds ((i + 1 : Nat) : Int) (lkTo ds i)) := hR2.congr fun q q0 q1 => by
        unfold fset
        by_cases e : q = (i : Int)
        · rw [if_pos e]
          subst e
          simp only [devTo, dly, idx_get hi, if_pos (show (i : Int) < ((i + 1 : Nat) : Int) by omega)]
          rfl
        · rw [if_neg e, if_neg e]
          simp only [devTo]
          by_cases c : q < (i : Int)
          · simp only [if_pos c, if_pos (show q < ((i + 1 : Nat) : Int) by omega)]
          · simp only [if_neg c, if_neg (show ¬ q < ((i + 1 : Nat) : Int) by omega)]
      obtain ⟨dl', e, hR4⟩ := new_l1 G hi (x := ({ ({ devTo ds (i : Int) (lkTo ds i) (i : Int) with delay := ds[i].Delay } : runtimepm_device) with suppliers := supl ds[i] } : runtimepm_device)) rfl hR3
      rw [e, Option.bind_some, Fl.go, wi_succ (by omega)]
      exact .inl ⟨_, ⟨dl', rfl, hR4⟩, rfl⟩
    · rintro k s ⟨dl, rfl, hR⟩
      rw [runtimepm_New.l0, if_neg (by simp)]
      exact ⟨dl, rfl, hR⟩
    · simp only [devTo]
      rw [if_neg (by simp; omega), if_neg (by simp; omega)]
      rfl
  obtain ⟨dl, e, hR⟩ := key
  have hll : (lks ds).length ≤ maxLen := by have := G.good.len; rw [maxLen_eq]; omega
  have hcc : ccode (ds.length : Int) (lks ds) = 0 := by rw [ccode_good G.good, if_neg G.full]
  have ho : ores (ds.length : Int) (lks ds) = (ord ds.length (lks ds), 0) := by unfold ores; rw [if_pos hcc]; rfl
  rw [e, Option.bind_some, Fl.go]
  simp only
  rw [order_ok _ _ hll, ho, Option.bind_some, if_neg (by simp)]
  refine ⟨_, rfl, ⟨hR.congr fun q q0 q1 => ?_, rfl, rfl, rfl⟩, ⟨fun k => by have := G.dly k; omega, fun k => by simp [m00]⟩, ?_⟩
  · obtain ⟨a, rfl⟩ := Int.eq_ofNat_of_zero_le q0
    have ha : a < ds.length := by omega
    simp only [devTo, dev, m00]
    rw [if_pos q1, if_pos q1, idx_get ha]
    unfold lks
    rw [supOf_lkTo (Nat.le_refl _) ha, if_pos ha]
    rfl
  · refine ⟨⟨fun l _ h => by simp [m00] at h, fun k h => by simp [m00] at h, fun k => by simp [m00], fun k h => by simp [m00] at h⟩, Int.le_refl _, by simp [m00, maxT], fun k h => ?_, fun k h => ?_⟩
    · have := (idle_iff.1 h).1; simp [m00] at this
    · have := (idle_iff.1 h).1; simp [m00] at this
end Go.Proofs.Ytcfcffbjdjacfaa.Sim

namespace Go.Proofs.Ytcfcffbjdjacfaa.Sim
open Go
set_option linter.unusedVariables false
set_option maxRecDepth 100000

theorem awake28_ok : law28_awake.f = some true := by kernel_rfl
theorem u64_range {x : Int} (h : (Lit.int .u64 x).wf = true) : 0 ≤ x ∧ x < 18446744073709551616 := by
  simp [Lit.wf, IntKind.min, IntKind.max, IntKind.signed, IntKind.bits] at h; omega

theorem at_pos {n : Nat} (hn : 0 < n) (h8 : n ≤ 8) (a b w now : Int) (h0 : 0 ≤ now ∧ now ≤ maxT) (hw : 0 ≤ w) : ∃ d q, law28_Call_at.f (law28_Call.mk a b w false) n now = some (d, now + q) ∧ (0 ≤ d ∧ d < n) ∧ 0 ≤ q ∧ q ≤ 14 := by
  have h1 := h0.2
  unfold maxT at h1
  obtain ⟨d, e, d0, d1⟩ := mod_ok (x := b) (n := (n : Int)) (by omega) (by omega)
  refine ⟨d, w % 15, ?_, ⟨d0, d1⟩, by omega, by omega⟩
  unfold law28_Call_at.f
  rw [if_neg (by simp; omega)]
  simp only
  rw [e, Option.bind_some, Int.tmod_eq_emod_of_nonneg hw, wu_id (by omega) (by omega)]
theorem at_zero (a b w now : Int) : law28_Call_at.f (law28_Call.mk a b w false) 0 now = some (b, w) := by
  unfold law28_Call_at.f
  rw [if_pos (by simp)]
theorem kind_ok (x : Int) : ∃ k, help_Mod.f x 4 = some k ∧ 0 ≤ k ∧ k ≤ 3 := by
  obtain ⟨k, e, k0, k1⟩ := mod_ok (x := x) (n := 4) (by omega) (by omega)
  exact ⟨k, e, k0, by omega⟩

/-- All that is known of the manager. -/
structure Q (n : Nat) (ls : List api_Link) (de : Int → Int) (B : Int) (p : runtimepm_Manager) (m : Pm) : Prop where
  r : RM n ls de p m
  t : Tb de m
  w : W n ls de m
  c : ∀ k, m.cnt k ≤ B
theorem Res.bound {n : Nat} {ls : List api_Link} {de : Int → Int} {B kind d t : Int} {m m' : Pm} {ops : List api_PowerOp} {e : Int} (h : Res n ls de kind d t m m' ops e) (hc : ∀ k, m.cnt k ≤ B) : ∀ k, m'.cnt k ≤ B + 1 := fun k => by
  have h1 := hc k
  have h2 := hc d
  obtain ⟨a, b⟩ := h.cnt
  by_cases he : e = 0
  · rw [(b he).2]
    split
    · unfold fset; split <;> omega
    · split
      · omega
      · unfold fset; split <;> omega
  · rw [(a he).1]; omega
theorem call_ok {n : Nat} {ls : List api_Link} {de : Int → Int} {B : Int} (g : GoodG n ls) (hfull : ¬ (ord n ls).length < n) (hB : B ≤ 1000) {p : runtimepm_Manager} {m : Pm} (h : Q n ls de B p m) {c : law28_Call} {d t kind : Int} (hat : law28_Call_at.f c n m.now = some (d, t)) (hk : help_Mod.f c.Kind 4 = some kind) :
    ∃ p' m' ops e, law28_do.f p c n m.now = some (p', ops, e) ∧ Res n ls de kind d t m m' ops e ∧ Q n ls de (B + 1) p' m' := by
  obtain ⟨p', m', ops, e, e1, r, R, T⟩ := do_ok g h.r h.t hat hk (fun k => ⟨h.w.w.c0 k, by have := h.c k; omega⟩) h.w.n0
  exact ⟨p', m', ops, e, e1, r, R, T, r.W g hfull h.w, r.bound h.c⟩

/-- The clock of the statements is the manager's. -/
theorem Res.clock {n : Nat} {ls : List api_Link} {de : Int → Int} {kind d t : Int} {m m' : Pm} {ops : List api_PowerOp} {e : Int} (h : Res n ls de kind d t m m' ops e) : m'.now = if e = 0 then t else m.now := by
  obtain ⟨a, b⟩ := h.cnt
  by_cases he : e = 0
  · rw [if_pos he]; exact (b he).1
  · rw [if_neg he, (a he).1]

theorem Q.mono {n : Nat} {ls : List api_Link} {de : Int → Int} {B B' : Int} {p : runtimepm_Manager} {m : Pm} (h : Q n ls de B p m) (hB : B ≤ B') : Q n ls de B' p m := ⟨h.r, h.t, h.w, fun k => by have := h.c k; omega⟩
theorem new_q {ds : List api_IdleDevice} (G : GD ds) : ∃ p, runtimepm_New.f ds = some (some p, 0) ∧ Q ds.length (lks ds) (dly ds) 0 p m00 := by
  obtain ⟨p, e, a, b, c⟩ := new_ok G
  exact ⟨p, e, a, b, c, fun k => by simp [m00]⟩

/-- The statements' devices. -/
theorem open_law (p0 : List api_IdleDevice) (p1 : List law28_Call) (h1 : p0.length ≤ maxLen ∧ ∀ p0' ∈ p0, Wf_api_IdleDevice p0') : (law28_large.f p0 p1 = some true) ∨ (law28_large.f p0 p1 = some false ∧ p1.length ≤ 40 ∧ ∃ ds, law28_Some.f p0 = some ds ∧ GD ds) := by
  rw [large_ok p0 p1 h1.1]
  by_cases a : 20 < p0.length ∨ 40 < p1.length
  · exact .inl (by simp [a])
  · by_cases b : p0.any (fun d => decide (20 < d.Suppliers.length)) = true
    · exact .inl (by rw [b]; simp)
    · refine .inr ⟨by rw [Bool.not_eq_true] at b; rw [b]; simp [a], by omega, ?_⟩
      rw [Bool.not_eq_true, List.any_eq_false] at b
      exact some_ok (by omega) (fun d hd => by have := b d hd; simpa using this) (fun d hd => (u64_range (h1.2 d hd).2.2).1)
end Go.Proofs.Ytcfcffbjdjacfaa.Sim

namespace Go.Proofs.Ytcfcffbjdjacfaa.Sim
open Go
set_option linter.unusedVariables false
set_option linter.unusedSimpArgs false

/-! ### law28_play: function 21 -/
def law28_play.l0 (p0 : List api_IdleDevice) (p1 : List law28_Call) : Nat → runtimepm_Manager → Int → Int → Option ((List runtimepm_device) × (List api_Link) × (List Int) × Int × Int)
  | 0, _, _, _ => none
  | k70 + 1, m0_0, m0_1, m0_2 => if decide (m0_2 < (p1.length : Int)) = true then (((idx p1 m0_2).bind fun x82 => (law28_Call_at.f (law28_Call.mk x82.Kind x82.Device x82.Wait false) (p0.length : Int) m0_1).bind fun r100 => if ((p0.length : Int) == 0) = true then (some (m0_0, m0_1)) else ((law28_do.f m0_0 (law28_Call.mk x82.Kind x82.Device x82.Wait false) (p0.length : Int) m0_1).bind fun r118 => if (r118.2.2 == 0) = true then (some (r118.1, r100.2)) else (some (r118.1, m0_1))) : Option (runtimepm_Manager × Int)).bind fun v77 => law28_play.l0 p0 p1 k70 v77.1 v77.2 (wi (m0_2 + 1))) else (some (m0_0.devices, m0_0.links, m0_0.order, m0_0.now, m0_1))
def law28_play.f (p0 : List api_IdleDevice) (p1 : List law28_Call) : Option ((Option runtimepm_Manager) × Int × Bool) := (runtimepm_New.f p0).bind fun r5 => if ((r5.2 != 0) || r5.1.isNone) = true then (some ((none : Option runtimepm_Manager), 0, false)) else (((r5.1).bind fun st51 => law28_play.l0 p0 p1 FUEL st51 0 0 : Option ((List runtimepm_device) × (List api_Link) × (List Int) × Int × Int)).bind fun v47 => some ((some (runtimepm_Manager.mk v47.1 v47.2.1 v47.2.2.1 v47.2.2.2.1)), v47.2.2.2.2, true))
set_option maxRecDepth 100000 in
set_option maxHeartbeats 4000000 in
theorem law28_play.calls {p0 : List api_IdleDevice} {A0 : Option Addr} {cap0 : Nat} {C0 : Nat → Prop} {p1 : List law28_Call} {A1 : Option Addr} {cap1 : Nat} {C1 : Nat → Prop} {w : World} {g : Nat → Nat} {out : (Option runtimepm_Manager) × Int × Bool} (N : Nat) (r0 : Nat) (hp0 : RdS kd_api_IdleDevice w g C0 A0 cap0 p0) (hC0 : ∀ c, C0 c → c < N) (hp1 : RdS kd_law28_Call w g C1 A1 cap1 p1) (hC1 : ∀ c, C1 c → c < N) (hr0 : r0 + 7 ≤ N) (H : law28_play.f p0 p1 = some out) :
    Calls Try.prog 21 #[.slice A0 p0.length cap0, .slice A1 p1.length cap1] w (fun e w' => ∃ v, e = .returned v ∧ ∃ (g' : Nat → Nat) (p_r0 : Option Addr), v = .tuple #[.pointer p_r0, .int .u64 out.2.1, .bool out.2.2] ∧ runtimepm_Manager_Opt w' g' r0 p_r0 out.1 ∧ Fr (fun q => (r0 ≤ q ∧ q < r0 + 7) ∨ N ≤ q) w g w' g') := by
  unfold law28_play.f at H
  refine calls_enter Try.func21 rfl Try.ntmps21 rfl (fun a hS => ?_)
  replace hS : Sl 63 a [(0, .slice A0 p0.length cap0), (1, .slice A1 p1.length cap1)] := hS
  have hF : Fr (fun q => (r0 ≤ q ∧ q < r0 + 7) ∨ N ≤ q) w g w g := Fr.refl _ _ _
  refine c_pure [(0, .slice A0 p0.length cap0), (1, .slice A1 p1.length cap1)] (fun R hR => st_val hS rfl rfl rfl (r_assign hS rfl rfl) fun a1 hS1 => st_val hS1 rfl rfl rfl (r_assign hS1 rfl rfl) fun a2 hS2 => st_val hS2 rfl rfl rfl (r_assign hS2 rfl rfl) fun a3 hS3 => wpList_nil (hR _ (hS3.re ⟨rfl, rfl, trivial⟩))) ?_
  clear hS
  clear a
  intro a hS
  obtain ⟨r5, hr6, H⟩ := bind_el H
  refine c_region (fun K hK => ?_)
  refine st_val hS rfl rfl rfl (r_move hS rfl rfl) fun a4 hS4 => ?_
  refine st_enter hS4 rfl rfl rfl (r_call hS4 rfl rfl (by kernel_rfl)) (runtimepm_New.calls (C0 := C0) (p0 := p0) (g := g) (N + 11) (N + 0) hp0 (fun q (hq : C0 q) => by have := hC0 q hq; omega) (by omega) hr6) ?_
  rintro _ a10 w11 ⟨g11, p7, rfl, h8, F11⟩ hS10
  replace hp0 := RdS.fr hp0 F11 (by decide) (fun q (hq : C0 q) (hm : (N + 0 ≤ q ∧ q < N + 0 + 7) ∨ N + 11 ≤ q) => by have := hC0 q hq; omega)
  replace hp1 := RdS.fr hp1 F11 (by decide) (fun q (hq : C1 q) (hm : (N + 0 ≤ q ∧ q < N + 0 + 7) ∨ N + 11 ≤ q) => by have := hC1 q hq; omega)
  replace hF := hF.trans F11 (fun c' (hm : (N + 0 ≤ c' ∧ c' < N + 0 + 7) ∨ N + 11 ≤ c') => by show (r0 ≤ c' ∧ c' < r0 + 7) ∨ N ≤ c'; omega)
  refine st_val hS10 rfl rfl rfl (r_move hS10 rfl rfl) fun a12 hS12 => st_val hS12 rfl rfl rfl (r_extract hS12 rfl rfl rfl) fun a13 hS13 => st_val hS13 rfl rfl rfl (r_extract hS13 rfl rfl rfl) fun a14 hS14 => st_val hS14 rfl rfl rfl (r_assign hS14 rfl rfl) fun a15 hS15 => st_val hS15 rfl rfl rfl (r_assign hS15 rfl rfl) fun a16 hS16 => wpList_nil (hK _ _ ?_)
  replace hS : Sl 63 _ [(0, .slice A0 p0.length cap0), (1, .slice A1 p1.length cap1), (7, .pointer p7), (8, .int .i64 r5.2)] := hS16.re ⟨rfl, rfl, rfl, rfl, trivial⟩
  clear hK K
  try clear hS4 hS10 hS12 hS13 hS14 hS15 hS16
  obtain ⟨a, ha⟩ : ∃ a', a' = a16 := ⟨_, rfl⟩
  rw [← ha] at hS ⊢; clear ha
  refine wp_seq ?_
  refine c_region (fun K hK => ?_)
  refine st_val hS rfl rfl rfl (r_move hS rfl rfl) fun a17 hS17 => st_val hS17 rfl rfl rfl (r_bin hS17 rfl rfl rfl b_neq) fun a18 hS18 => st_val hS18 rfl rfl rfl (r_move hS18 rfl rfl) fun a19 hS19 => ?_
  refine g_join (N := 63) 3 [(0, .slice A0 p0.length cap0), (1, .slice A1 p1.length cap1), (7, .pointer p7), (26, .bool ((r5.2 != 0) || r5.1.isNone))] ?_ (fun hk => ?_)
  rotate_left
  · rcases Bool.eq_false_or_eq_true ((r5.2 != 0)) with hb20 | hb20
    · refine st_off hS19 (want_off hS19 rfl rfl rfl hb20) rfl rfl fun a23 hS23 => st_off hS23 (want_off hS23 rfl rfl rfl hb20) rfl rfl fun a24 hS24 => st_val hS24 rfl rfl rfl (r_pickT hS24 rfl rfl rfl hb20) fun a25 hS25 => hk _ (hS25.re ⟨rfl, rfl, rfl, (by rw [hb20]; rfl), trivial⟩)
    · refine st_valW hS19 (want_on hS19 rfl rfl rfl hb20) rfl rfl (r_move hS19 rfl rfl) fun a26 hS26 => st_valW hS26 (want_on hS26 rfl rfl rfl hb20) rfl rfl (r_optEq hS26 rfl rfl (by kernel_rfl) (runtimepm_Manager_Opt.isNone h8)) fun a27 hS27 => st_val hS27 rfl rfl rfl (r_pickF hS27 rfl rfl rfl hb20) fun a28 hS28 => hk _ (hS28.re ⟨rfl, rfl, rfl, (by rw [hb20]; rfl), trivial⟩)
  intro a29 hS29
  refine wpList_nil (hK _ _ ?_)
  replace hS : Sl 63 _ [(0, .slice A0 p0.length cap0), (1, .slice A1 p1.length cap1), (7, .pointer p7), (26, .bool ((r5.2 != 0) || r5.1.isNone))] := hS29.re ⟨rfl, rfl, rfl, rfl, trivial⟩
  clear hK K
  try clear hS17 hS18 hS19 hS29
  obtain ⟨a, ha⟩ : ∃ a', a' = a29 := ⟨_, rfl⟩
  rw [← ha] at hS ⊢; clear ha
  refine c_cond hS rfl (fun hb30 => ?_) (fun hb30 => ?_)
  · replace H := ite_t hb30 H
    refine c_pure [(4, .pointer none), (5, .int .u64 0), (6, .bool false)] (fun R hR => st_val hS rfl rfl rfl (r_assign hS rfl rfl) fun a31 hS31 => st_val hS31 rfl rfl rfl (r_assign hS31 rfl rfl) fun a32 hS32 => st_val hS32 rfl rfl rfl (r_assign hS32 rfl rfl) fun a33 hS33 => wpList_nil (hR _ (hS33.re ⟨rfl, rfl, rfl, trivial⟩))) ?_
    clear hS
    clear a
    intro a hS
    refine wp_ret ?_
    have e := Option.some.inj H
    subst e
    repeat (with_reducible first | refine then_ret ?_ | refine inBlock_ret ?_)
    exact c_ret3 hS Try.results21 rfl rfl rfl ⟨_, rfl, g11, none, rfl, rfl, hF⟩
  · replace H := ite_f hb30 H
    refine wp_skip ?_
    change Code.wp _ _ _ _ _
    refine c_pure [(0, .slice A0 p0.length cap0), (1, .slice A1 p1.length cap1), (7, .pointer p7), (9, .int .u64 0)] (fun R hR => st_val hS rfl rfl rfl (r_assign hS rfl rfl) fun a34 hS34 => wpList_nil (hR _ (hS34.re ⟨rfl, rfl, rfl, rfl, trivial⟩))) ?_
    clear hS
    clear a
    intro a hS
    obtain ⟨v47, H, Hl49⟩ := bind_el H
    refine c_cut (fun a w35 => ∃ (g35 : Nat → Nat), ∃ (b36 : Nat), ∃ (A38 : Option Addr), ∃ (cap39 : Nat), ∃ (A41 : Option Addr), ∃ (cap42 : Nat), ∃ (A44 : Option Addr), ∃ (cap45 : Nat), Sl 63 a [(7, .pointer (some ⟨b36, 0, none⟩)), (9, .int .u64 v47.2.2.2.2)] ∧ OwS kd_runtimepm_device 88 w35 g35 (N + 0 + 1) A38 cap39 v47.1 ∧ OwS kd_api_Link 67 w35 g35 (N + 0 + 3) A41 cap42 v47.2.1 ∧ OwS (kint .i64) 3 w35 g35 (N + 0 + 5) A44 cap45 v47.2.2.1 ∧ Bx w35 g35 (N + 0) b36 85 [.slice A38 v47.1.length cap39, .slice A41 v47.2.1.length cap42, .slice A44 v47.2.2.1.length cap45, .int .u64 v47.2.2.2.1] ∧ Fr (fun q => (r0 ≤ q ∧ q < r0 + 7) ∨ N ≤ q) w g w35 g35) ?_ ?_
    · refine c_pure [(0, .slice A0 p0.length cap0), (1, .slice A1 p1.length cap1), (7, .pointer p7), (9, .int .u64 0), (10, .int .i64 0)] (fun R hR => st_val hS rfl rfl rfl (r_assign hS rfl rfl) fun a50 hS50 => wpList_nil (hR _ (hS50.re ⟨rfl, rfl, rfl, rfl, rfl, trivial⟩))) ?_
      clear hS
      clear a
      intro a hS
      refine wp_block ?_
      obtain ⟨st51, hst52, H⟩ := bind_el H
      rw [hst52] at h8
      obtain ⟨b53, A56, cap57, A60, cap61, A64, cap65, hp68, h54, h58, h62, h66⟩ := h8
      subst hp68
      refine wp_loop_ghost (fun kq => fun a w69 => ∃ (m0_0 : runtimepm_Manager), ∃ (m0_1 : Int), ∃ (m0_2 : Int), ∃ (g69 : Nat → Nat), law28_play.l0 p0 p1 kq m0_0 m0_1 m0_2 = some v47 ∧ Sl 63 a [(0, .slice A0 p0.length cap0), (1, .slice A1 p1.length cap1), (7, .pointer (some ⟨b53, 0, none⟩)), (9, .int .u64 m0_1), (10, .int .i64 m0_2)] ∧ Bx w69 g69 (N + 0) b53 85 [.slice A56 m0_0.devices.length cap57, .slice A60 m0_0.links.length cap61, .slice A64 m0_0.order.length cap65, .int .u64 m0_0.now] ∧ OwS kd_runtimepm_device 88 w69 g69 (N + 0 + 1) A56 cap57 m0_0.devices ∧ OwS kd_api_Link 67 w69 g69 (N + 0 + 3) A60 cap61 m0_0.links ∧ OwS (kint .i64) 3 w69 g69 (N + 0 + 5) A64 cap65 m0_0.order ∧ RdS kd_api_IdleDevice w69 g69 C0 A0 cap0 p0 ∧ RdS kd_law28_Call w69 g69 C1 A1 cap1 p1 ∧ Fr (fun q => (r0 ≤ q ∧ q < r0 + 7) ∨ N ≤ q) w g w69 g69) FUEL ?_ ?_
      · exact ⟨st51, 0, 0, g11, H, hS.re ⟨rfl, rfl, rfl, rfl, rfl, trivial⟩, h54, h58, h62, h66, hp0, hp1, hF⟩
      · clear H
        clear hp0 hp1 h58 h62 h66 h54 hF
        clear hS
        rintro k70 a w69 ⟨m0_0, m0_1, m0_2, g69, hpre0, hS, h54, h58, h62, h66, hp0, hp1, hF⟩
        have H := hpre0
        clear hpre0
        cases k70 with
        | zero => exact absurd H (by simp [law28_play.l0])
        | succ k70 =>
          rw [law28_play.l0] at H
          refine wp_seq ?_
          refine c_pure [(0, .slice A0 p0.length cap0), (1, .slice A1 p1.length cap1), (7, .pointer (some ⟨b53, 0, none⟩)), (9, .int .u64 m0_1), (10, .int .i64 m0_2), (30, .bool (decide (m0_2 < (p1.length : Int))))] (fun R hR => st_val hS rfl rfl rfl (r_move hS rfl rfl) fun a71 hS71 => st_val hS71 rfl rfl rfl (r_move hS71 rfl rfl) fun a72 hS72 => st_val hS72 rfl rfl rfl (r_len (e := 54) (sz := 4) (by_ := 32) hS72 rfl rfl (by kernel_rfl)) fun a73 hS73 => st_val hS73 rfl rfl rfl (r_bin hS73 rfl rfl rfl b_lss) fun a74 hS74 => wpList_nil (hR _ (hS74.re ⟨rfl, rfl, rfl, rfl, rfl, rfl, trivial⟩))) ?_
          clear hS
          clear a
          intro a hS
          refine c_cond hS rfl (fun hb75 => ?_) (fun hb75 => ?_)
          · replace H := ite_t hb75 H
            refine wp_skip ?_
            change Code.wp _ _ _ _ _
            obtain ⟨v77, H, Hl79⟩ := bind_el H
            refine c_cut (fun a w76 => ∃ (g76 : Nat → Nat), Sl 63 a [(0, .slice A0 p0.length cap0), (1, .slice A1 p1.length cap1), (7, .pointer (some ⟨b53, 0, none⟩)), (9, .int .u64 v77.2), (10, .int .i64 m0_2)] ∧ Bx w76 g76 (N + 0) b53 85 [.slice A56 v77.1.devices.length cap57, .slice A60 v77.1.links.length cap61, .slice A64 v77.1.order.length cap65, .int .u64 v77.1.now] ∧ OwS kd_runtimepm_device 88 w76 g76 (N + 0 + 1) A56 cap57 v77.1.devices ∧ OwS kd_api_Link 67 w76 g76 (N + 0 + 3) A60 cap61 v77.1.links ∧ OwS (kint .i64) 3 w76 g76 (N + 0 + 5) A64 cap65 v77.1.order ∧ RdS kd_api_IdleDevice w76 g76 C0 A0 cap0 p0 ∧ RdS kd_law28_Call w76 g76 C1 A1 cap1 p1 ∧ Fr (fun q => (r0 ≤ q ∧ q < r0 + 7) ∨ N ≤ q) w g w76 g76) ?_ ?_
            · refine wp_block ?_
              obtain ⟨x82, hx83, H⟩ := bind_el H
              refine c_region (fun K hK => ?_)
              refine st_val hS rfl rfl rfl (r_move hS rfl rfl) fun a80 hS80 => st_val hS80 rfl rfl rfl (r_move hS80 rfl rfl) fun a81 hS81 => st_val hS81 rfl rfl rfl (r_index (e := 54) (sz := 4) (by_ := 32) hS81 rfl rfl rfl (by kernel_rfl) (RdS.some_ hp1 hx83) (idx_lo hx83) (idx_hi hx83)) fun a84 hS84 => st_val hS84 rfl rfl rfl (r_loadN (n := 4) (cs := [.int .i64 x82.Kind, .int .i64 x82.Device, .int .u64 x82.Wait, .bool x82.Raw]) hS84 rfl rfl (by kernel_rfl) rfl (RdS.cells_off hp1 hx83 0 4)) fun a85 hS85 => ?_
              refine st_eff hS85 rfl rfl rfl (e_alloc (cs := [.int .i64 0, .int .i64 0, .int .u64 0, .bool false]) (N + 7) g69 hS85 rfl (by kernel_rfl)) ?_
              rintro _ a89 w90 g90 ⟨⟨b86, rfl, h87⟩, F90⟩ hS89
              replace h54 := h54.fr F90 (fun h => h)
              replace h58 := OwS.fr h58 F90 (fun _ _ h => h)
              replace h62 := OwS.fr h62 F90 (fun _ _ h => h)
              replace h66 := OwS.fr h66 F90 (fun _ _ h => h)
              replace hp0 := RdS.fr hp0 F90 (by decide) (fun _ _ h => h)
              replace hp1 := RdS.fr hp1 F90 (by decide) (fun _ _ h => h)
              replace hF := hF.trans F90 (fun _ h => h.elim)
              refine st_effS hS89 rfl rfl (e_storeB (n := 4) (bb := true) (cs' := [.int .i64 x82.Kind, .int .i64 x82.Device, .int .u64 x82.Wait, .bool x82.Raw]) g90 hS89 rfl rfl rfl (by kernel_rfl) rfl rfl rfl h87 rfl rfl) ?_
              rintro a91 w92 g92 ⟨h87, F92⟩ hS91
              replace h54 := h54.fr F92 (fun (hm : N + 0 = N + 7) => by omega)
              replace h58 := OwS.fr h58 F92 (fun c' hc (hm : c' = N + 7) => by omega)
              replace h62 := OwS.fr h62 F92 (fun c' hc (hm : c' = N + 7) => by omega)
              replace h66 := OwS.fr h66 F92 (fun c' hc (hm : c' = N + 7) => by omega)
              replace hp0 := RdS.fr hp0 F92 (by decide) (fun q (hq : C0 q) (hm : q = N + 7) => by have := hC0 q hq; omega)
              replace hp1 := RdS.fr hp1 F92 (by decide) (fun q (hq : C1 q) (hm : q = N + 7) => by have := hC1 q hq; omega)
              replace hF := hF.trans F92 (fun c' (hm : c' = N + 7) => by show (r0 ≤ c' ∧ c' < r0 + 7) ∨ N ≤ c'; omega)
              refine wpList_nil (hK _ _ ?_)
              replace hS : Sl 63 _ [(0, .slice A0 p0.length cap0), (1, .slice A1 p1.length cap1), (7, .pointer (some ⟨b53, 0, none⟩)), (9, .int .u64 m0_1), (10, .int .i64 m0_2), (11, .pointer (some ⟨b86, 0, none⟩))] := hS91.re ⟨rfl, rfl, rfl, rfl, rfl, rfl, trivial⟩
              clear hK K
              try clear hS80 hS81 hS84 hS85 hS89 hS91
              obtain ⟨a, ha⟩ : ∃ a', a' = a91 := ⟨_, rfl⟩
              rw [← ha] at hS ⊢; clear ha
              refine c_region (fun K hK => ?_)
              refine st_val hS rfl rfl rfl (r_fieldB (off := 3) hS rfl rfl (by kernel_rfl)) fun a93 hS93 => ?_
              refine st_effS hS93 rfl rfl (e_storeB (n := 1) (bb := false) (cs' := [.int .i64 x82.Kind, .int .i64 x82.Device, .int .u64 x82.Wait, .bool false]) g92 hS93 rfl rfl rfl (by kernel_rfl) rfl rfl rfl h87 rfl rfl) ?_
              rintro a94 w95 g95 ⟨h87, F95⟩ hS94
              replace h54 := h54.fr F95 (fun (hm : N + 0 = N + 7) => by omega)
              replace h58 := OwS.fr h58 F95 (fun c' hc (hm : c' = N + 7) => by omega)
              replace h62 := OwS.fr h62 F95 (fun c' hc (hm : c' = N + 7) => by omega)
              replace h66 := OwS.fr h66 F95 (fun c' hc (hm : c' = N + 7) => by omega)
              replace hp0 := RdS.fr hp0 F95 (by decide) (fun q (hq : C0 q) (hm : q = N + 7) => by have := hC0 q hq; omega)
              replace hp1 := RdS.fr hp1 F95 (by decide) (fun q (hq : C1 q) (hm : q = N + 7) => by have := hC1 q hq; omega)
              replace hF := hF.trans F95 (fun c' (hm : c' = N + 7) => by show (r0 ≤ c' ∧ c' < r0 + 7) ∨ N ≤ c'; omega)
              refine wpList_nil (hK _ _ ?_)
              replace hS : Sl 63 _ [(0, .slice A0 p0.length cap0), (1, .slice A1 p1.length cap1), (7, .pointer (some ⟨b53, 0, none⟩)), (9, .int .u64 m0_1), (10, .int .i64 m0_2), (11, .pointer (some ⟨b86, 0, none⟩))] := hS94.re ⟨rfl, rfl, rfl, rfl, rfl, rfl, trivial⟩
              clear hK K
              try clear hS93 hS94
              obtain ⟨a, ha⟩ : ∃ a', a' = a94 := ⟨_, rfl⟩
              rw [← ha] at hS ⊢; clear ha
              obtain ⟨r100, hr101, H⟩ := bind_el H
              refine c_region (fun K hK => ?_)
              refine st_val hS rfl rfl rfl (r_loadN (n := 4) (cs := [.int .i64 x82.Kind, .int .i64 x82.Device, .int .u64 x82.Wait, .bool false]) hS rfl rfl (by kernel_rfl) rfl (Bx.cells_off h87 0 4)) fun a96 hS96 => st_val hS96 rfl rfl rfl (r_move hS96 rfl rfl) fun a97 hS97 => st_val hS97 rfl rfl rfl (r_len (e := 30) (sz := 3) (by_ := 40) hS97 rfl rfl (by kernel_rfl)) fun a98 hS98 => st_val hS98 rfl rfl rfl (r_move hS98 rfl rfl) fun a99 hS99 => ?_
              refine st_enter hS99 rfl rfl rfl (r_call hS99 rfl rfl (by kernel_rfl)) (law28_Call_at.calls (p0 := (law28_Call.mk x82.Kind x82.Device x82.Wait false)) (p1 := (p0.length : Int)) (p2 := m0_1) (g := g95) (N + 11)   hr101) ?_
              rintro _ a102 w103 ⟨g103, rfl, F103⟩ hS102
              replace h54 := h54.fr F103 (fun (hm : N + 11 ≤ N + 0) => by omega)
              replace h58 := OwS.fr h58 F103 (fun c' hc (hm : N + 11 ≤ c') => by omega)
              replace h62 := OwS.fr h62 F103 (fun c' hc (hm : N + 11 ≤ c') => by omega)
              replace h66 := OwS.fr h66 F103 (fun c' hc (hm : N + 11 ≤ c') => by omega)
              replace h87 := h87.fr F103 (fun (hm : N + 11 ≤ N + 7) => by omega)
              replace hp0 := RdS.fr hp0 F103 (by decide) (fun q (hq : C0 q) (hm : N + 11 ≤ q) => by have := hC0 q hq; omega)
              replace hp1 := RdS.fr hp1 F103 (by decide) (fun q (hq : C1 q) (hm : N + 11 ≤ q) => by have := hC1 q hq; omega)
              replace hF := hF.trans F103 (fun c' (hm : N + 11 ≤ c') => by show (r0 ≤ c' ∧ c' < r0 + 7) ∨ N ≤ c'; omega)
              refine st_val hS102 rfl rfl rfl (r_move hS102 rfl rfl) fun a104 hS104 => st_val hS104 rfl rfl rfl (r_extract hS104 rfl rfl rfl) fun a105 hS105 => st_val hS105 rfl rfl rfl (r_extract hS105 rfl rfl rfl) fun a106 hS106 => st_val hS106 rfl rfl rfl (r_assign hS106 rfl rfl) fun a107 hS107 => st_val hS107 rfl rfl rfl (r_assign hS107 rfl rfl) fun a108 hS108 => wpList_nil (hK _ _ ?_)
              replace hS : Sl 63 _ [(0, .slice A0 p0.length cap0), (1, .slice A1 p1.length cap1), (7, .pointer (some ⟨b53, 0, none⟩)), (9, .int .u64 m0_1), (10, .int .i64 m0_2), (11, .pointer (some ⟨b86, 0, none⟩)), (13, .int .u64 r100.2)] := hS108.re ⟨rfl, rfl, rfl, rfl, rfl, rfl, rfl, trivial⟩
              clear hK K
              try clear hS96 hS97 hS98 hS99 hS102 hS104 hS105 hS106 hS107 hS108
              obtain ⟨a, ha⟩ : ∃ a', a' = a108 := ⟨_, rfl⟩
              rw [← ha] at hS ⊢; clear ha
              refine wp_seq ?_
              refine c_pure [(0, .slice A0 p0.length cap0), (1, .slice A1 p1.length cap1), (7, .pointer (some ⟨b53, 0, none⟩)), (9, .int .u64 m0_1), (10, .int .i64 m0_2), (11, .pointer (some ⟨b86, 0, none⟩)), (13, .int .u64 r100.2), (48, .bool ((p0.length : Int) == 0))] (fun R hR => st_val hS rfl rfl rfl (r_move hS rfl rfl) fun a109 hS109 => st_val hS109 rfl rfl rfl (r_len (e := 30) (sz := 3) (by_ := 40) hS109 rfl rfl (by kernel_rfl)) fun a110 hS110 => st_val hS110 rfl rfl rfl (r_bin hS110 rfl rfl rfl b_eql) fun a111 hS111 => wpList_nil (hR _ (hS111.re ⟨rfl, rfl, rfl, rfl, rfl, rfl, rfl, rfl, trivial⟩))) ?_
              clear hS
              clear a
              intro a hS
              refine c_cond hS rfl (fun hb112 => ?_) (fun hb112 => ?_)
              · replace H := ite_t hb112 H
                refine wp_exit ?_
                have e := Option.some.inj H
                subst e
                exact ⟨g103, hS.re ⟨rfl, rfl, rfl, rfl, rfl, trivial⟩, h54, h58, h62, h66, hp0, hp1, hF⟩
              · replace H := ite_f hb112 H
                refine wp_skip ?_
                change Code.wp _ _ _ _ _
                obtain ⟨r118, hr119, H⟩ := bind_el H
                refine c_region (fun K hK => ?_)
                refine st_val hS rfl rfl rfl (r_move hS rfl rfl) fun a113 hS113 => st_val hS113 rfl rfl rfl (r_loadN (n := 4) (cs := [.int .i64 x82.Kind, .int .i64 x82.Device, .int .u64 x82.Wait, .bool false]) hS113 rfl rfl (by kernel_rfl) rfl (Bx.cells_off h87 0 4)) fun a114 hS114 => st_val hS114 rfl rfl rfl (r_move hS114 rfl rfl) fun a115 hS115 => st_val hS115 rfl rfl rfl (r_len (e := 30) (sz := 3) (by_ := 40) hS115 rfl rfl (by kernel_rfl)) fun a116 hS116 => st_val hS116 rfl rfl rfl (r_move hS116 rfl rfl) fun a117 hS117 => ?_
                refine st_enter hS117 rfl rfl rfl (r_call hS117 rfl rfl (by kernel_rfl)) (law28_do.calls (c0 := N + 0) (b_p0 := b53) (A_devices_p0 := A56) (cap_devices_p0 := cap57) (A_links_p0 := A60) (cap_links_p0 := cap61) (A_order_p0 := A64) (cap_order_p0 := cap65) (p0 := m0_0) (p1 := (law28_Call.mk x82.Kind x82.Device x82.Wait false)) (p2 := (p0.length : Int)) (p3 := m0_1) (g := g103) (N + 11) (N + 9) ⟨h54, h58, h62, h66⟩ (by omega) (by omega) (by omega) hr119) ?_
                rintro _ a124 w125 ⟨g125, A120, cap121, rfl, ⟨h54, h58, h62, h66⟩, h122, F125⟩ hS124
                replace h87 := h87.fr F125 (fun (hm : (N + 0 ≤ N + 7 ∧ N + 7 < N + 0 + 7) ∨ (N + 9 ≤ N + 7 ∧ N + 7 < N + 9 + 2) ∨ N + 11 ≤ N + 7) => by omega)
                replace hp0 := RdS.fr hp0 F125 (by decide) (fun q (hq : C0 q) (hm : (N + 0 ≤ q ∧ q < N + 0 + 7) ∨ (N + 9 ≤ q ∧ q < N + 9 + 2) ∨ N + 11 ≤ q) => by have := hC0 q hq; omega)
                replace hp1 := RdS.fr hp1 F125 (by decide) (fun q (hq : C1 q) (hm : (N + 0 ≤ q ∧ q < N + 0 + 7) ∨ (N + 9 ≤ q ∧ q < N + 9 + 2) ∨ N + 11 ≤ q) => by have := hC1 q hq; omega)
                replace hF := hF.trans F125 (fun c' (hm : (N + 0 ≤ c' ∧ c' < N + 0 + 7) ∨ (N + 9 ≤ c' ∧ c' < N + 9 + 2) ∨ N + 11 ≤ c') => by show (r0 ≤ c' ∧ c' < r0 + 7) ∨ N ≤ c'; omega)
                refine st_val hS124 rfl rfl rfl (r_move hS124 rfl rfl) fun a126 hS126 => st_val hS126 rfl rfl rfl (r_extract hS126 rfl rfl rfl) fun a127 hS127 => st_val hS127 rfl rfl rfl (r_extract hS127 rfl rfl rfl) fun a128 hS128 => st_val hS128 rfl rfl rfl (r_assign hS128 rfl rfl) fun a129 hS129 => st_val hS129 rfl rfl rfl (r_assign hS129 rfl rfl) fun a130 hS130 => wpList_nil (hK _ _ ?_)
                replace hS : Sl 63 _ [(0, .slice A0 p0.length cap0), (1, .slice A1 p1.length cap1), (7, .pointer (some ⟨b53, 0, none⟩)), (9, .int .u64 m0_1), (10, .int .i64 m0_2), (13, .int .u64 r100.2), (15, .int .i64 r118.2.2)] := hS130.re ⟨rfl, rfl, rfl, rfl, rfl, rfl, rfl, trivial⟩
                clear hK K
                try clear hS113 hS114 hS115 hS116 hS117 hS124 hS126 hS127 hS128 hS129 hS130
                obtain ⟨a, ha⟩ : ∃ a', a' = a130 := ⟨_, rfl⟩
                rw [← ha] at hS ⊢; clear ha
                refine c_pure [(0, .slice A0 p0.length cap0), (1, .slice A1 p1.length cap1), (7, .pointer (some ⟨b53, 0, none⟩)), (9, .int .u64 m0_1), (10, .int .i64 m0_2), (13, .int .u64 r100.2), (59, .bool (r118.2.2 == 0))] (fun R hR => st_val hS rfl rfl rfl (r_move hS rfl rfl) fun a131 hS131 => st_val hS131 rfl rfl rfl (r_bin hS131 rfl rfl rfl b_eql) fun a132 hS132 => wpList_nil (hR _ (hS132.re ⟨rfl, rfl, rfl, rfl, rfl, rfl, rfl, trivial⟩))) ?_
                clear hS
                clear a
                intro a hS
                refine c_cond hS rfl (fun hb133 => ?_) (fun hb133 => ?_)
                · replace H := ite_t hb133 H
                  refine c_pure1 [(0, .slice A0 p0.length cap0), (1, .slice A1 p1.length cap1), (7, .pointer (some ⟨b53, 0, none⟩)), (9, .int .u64 r100.2), (10, .int .i64 m0_2)] (fun R hR => st_val hS rfl rfl rfl (r_move hS rfl rfl) fun a134 hS134 => st_val hS134 rfl rfl rfl (r_assign hS134 rfl rfl) fun a135 hS135 => wpList_nil (hR _ (hS135.re ⟨rfl, rfl, rfl, rfl, rfl, trivial⟩))) ?_
                  clear hS
                  clear a
                  intro a hS
                  have e := Option.some.inj H
                  subst e
                  exact ⟨g125, hS.re ⟨rfl, rfl, rfl, rfl, rfl, trivial⟩, h54, h58, h62, h66, hp0, hp1, hF⟩
                · replace H := ite_f hb133 H
                  refine wp_skip ?_
                  have e := Option.some.inj H
                  subst e
                  exact ⟨g125, hS.re ⟨rfl, rfl, rfl, rfl, rfl, trivial⟩, h54, h58, h62, h66, hp0, hp1, hF⟩
            · clear H
              clear hp0 hp1 h58 h62 h66 h54 hF
              clear hS
              rintro a w76 ⟨g76, hS, h54, h58, h62, h66, hp0, hp1, hF⟩
              have H := Hl79
              clear Hl79
              refine c_pure1 [(0, .slice A0 p0.length cap0), (1, .slice A1 p1.length cap1), (7, .pointer (some ⟨b53, 0, none⟩)), (9, .int .u64 v77.2), (10, .int .i64 (wi (m0_2 + 1)))] (fun R hR => st_val hS rfl rfl rfl (r_move hS rfl rfl) fun a136 hS136 => st_val hS136 rfl rfl rfl (r_bin hS136 rfl rfl rfl b_add) fun a137 hS137 => st_val hS137 rfl rfl rfl (r_assign hS137 rfl rfl) fun a138 hS138 => wpList_nil (hR _ (hS138.re ⟨rfl, rfl, rfl, rfl, rfl, trivial⟩))) ?_
              clear hS
              clear a
              intro a hS
              refine ⟨k70, Nat.lt_succ_self _, ?_⟩
              exact ⟨v77.1, v77.2, wi (m0_2 + 1), g76, H, hS.re ⟨rfl, rfl, rfl, rfl, rfl, trivial⟩, h54, h58, h62, h66, hp0, hp1, hF⟩
          · replace H := ite_f hb75 H
            refine wp_exit ?_
            have e := Option.some.inj H
            subst e
            exact ⟨g69, b53, A56, cap57, A60, cap61, A64, cap65, hS.re ⟨rfl, rfl, trivial⟩, h58, h62, h66, h54, hF⟩
    · clear H
      clear hp0 hp1 h8 hF
      clear hS
      rintro a w35 ⟨g35, b36, A38, cap39, A41, cap42, A44, cap45, hS, h40, h43, h46, h37, hF⟩
      have H := Hl49
      clear Hl49
      refine c_pure [(4, .pointer (some ⟨b36, 0, none⟩)), (5, .int .u64 v47.2.2.2.2), (6, .bool true)] (fun R hR => st_val hS rfl rfl rfl (r_move hS rfl rfl) fun a139 hS139 => st_val hS139 rfl rfl rfl (r_move hS139 rfl rfl) fun a140 hS140 => st_val hS140 rfl rfl rfl (r_assign hS140 rfl rfl) fun a141 hS141 => st_val hS141 rfl rfl rfl (r_assign hS141 rfl rfl) fun a142 hS142 => st_val hS142 rfl rfl rfl (r_assign hS142 rfl rfl) fun a143 hS143 => wpList_nil (hR _ (hS143.re ⟨rfl, rfl, rfl, trivial⟩))) ?_
      clear hS
      clear a
      intro a hS
      refine wp_ret ?_
      have e := Option.some.inj H
      subst e
      have F144 : Fr (fun q => q = N + 0) w35 g35 w35 (recol g35 (N + 0) r0) := Fr.recol w35 g35 (N + 0) r0 rfl
      replace h37 := Bx.recol h37 r0
      replace h40 := OwS.fr h40 F144 (fun c' hc (hm : c' = N + 0) => by omega)
      replace h43 := OwS.fr h43 F144 (fun c' hc (hm : c' = N + 0) => by omega)
      replace h46 := OwS.fr h46 F144 (fun c' hc (hm : c' = N + 0) => by omega)
      replace hF := hF.trans F144 (fun c' (hm : c' = N + 0) => by show (r0 ≤ c' ∧ c' < r0 + 7) ∨ N ≤ c'; omega)
      have F145 := Fr.recol2 w35 (recol g35 (N + 0) r0) (N + 0 + 1) (r0 + 1)
      replace h40 := h40.recol2 (r0 + 1)
      replace h43 := OwS.fr h43 F145 (fun c' hc (hm : c' = N + 0 + 1 ∨ c' = N + 0 + 1 + 1) => by omega)
      replace h46 := OwS.fr h46 F145 (fun c' hc (hm : c' = N + 0 + 1 ∨ c' = N + 0 + 1 + 1) => by omega)
      replace h37 := h37.fr F145 (fun (hm : r0 = N + 0 + 1 ∨ r0 = N + 0 + 1 + 1) => by omega)
      replace hF := hF.trans F145 (fun c' (hm : c' = N + 0 + 1 ∨ c' = N + 0 + 1 + 1) => by show (r0 ≤ c' ∧ c' < r0 + 7) ∨ N ≤ c'; omega)
      have F146 := Fr.recol2 w35 (recol2 (recol g35 (N + 0) r0) (N + 0 + 1) (r0 + 1)) (N + 0 + 3) (r0 + 3)
      replace h43 := h43.recol2 (r0 + 3)
      replace h40 := OwS.fr h40 F146 (fun c' hc (hm : c' = N + 0 + 3 ∨ c' = N + 0 + 3 + 1) => by omega)
      replace h46 := OwS.fr h46 F146 (fun c' hc (hm : c' = N + 0 + 3 ∨ c' = N + 0 + 3 + 1) => by omega)
      replace h37 := h37.fr F146 (fun (hm : r0 = N + 0 + 3 ∨ r0 = N + 0 + 3 + 1) => by omega)
      replace hF := hF.trans F146 (fun c' (hm : c' = N + 0 + 3 ∨ c' = N + 0 + 3 + 1) => by show (r0 ≤ c' ∧ c' < r0 + 7) ∨ N ≤ c'; omega)
      have F147 := Fr.recol2 w35 (recol2 (recol2 (recol g35 (N + 0) r0) (N + 0 + 1) (r0 + 1)) (N + 0 + 3) (r0 + 3)) (N + 0 + 5) (r0 + 5)
      replace h46 := h46.recol2 (r0 + 5)
      replace h40 := OwS.fr h40 F147 (fun c' hc (hm : c' = N + 0 + 5 ∨ c' = N + 0 + 5 + 1) => by omega)
      replace h43 := OwS.fr h43 F147 (fun c' hc (hm : c' = N + 0 + 5 ∨ c' = N + 0 + 5 + 1) => by omega)
      replace h37 := h37.fr F147 (fun (hm : r0 = N + 0 + 5 ∨ r0 = N + 0 + 5 + 1) => by omega)
      replace hF := hF.trans F147 (fun c' (hm : c' = N + 0 + 5 ∨ c' = N + 0 + 5 + 1) => by show (r0 ≤ c' ∧ c' < r0 + 7) ∨ N ≤ c'; omega)
      repeat (with_reducible first | refine then_ret ?_ | refine inBlock_ret ?_)
      exact c_ret3 hS Try.results21 rfl rfl rfl ⟨_, rfl, (recol2 (recol2 (recol2 (recol g35 (N + 0) r0) (N + 0 + 1) (r0 + 1)) (N + 0 + 3) (r0 + 3)) (N + 0 + 5) (r0 + 5)), (some ⟨b36, 0, none⟩), rfl, ⟨b36, A38, cap39, A41, cap42, A44, cap45, rfl, h37, h40, h43, h46⟩, hF⟩


end Go.Proofs.Ytcfcffbjdjacfaa.Sim

namespace Go.Proofs.Ytcfcffbjdjacfaa.Sim
open Go
set_option linter.unusedVariables false
set_option maxRecDepth 100000

theorem Exp.len {n : Nat} {ls : List api_Link} {de : Int → Int} {t : Int} {m m' : Pm} {ops : List api_PowerOp} (h : Exp n ls de t m ops m') : ops.length ≤ n := by
  obtain ⟨o, m2, h1, h2⟩ := Exp.exists_ (n := n) (ls := ls) (de := de) (t := t) m
  rw [(h.det h1).1]; exact h2
end Go.Proofs.Ytcfcffbjdjacfaa.Sim

namespace Go.Proofs.Ytcfcffbjdjacfaa.Sim
open Go
set_option linter.unusedVariables false
set_option maxRecDepth 100000

end Go.Proofs.Ytcfcffbjdjacfaa.Sim

namespace Go.Proofs.Ytcfcffbjdjacfaa.Sim
open Go
set_option linter.unusedVariables false
set_option maxRecDepth 100000

/-- Operations that fit: from the devices on, not before last, not behind t, to the devices on'. -/
inductive Fit (n : Nat) (ls : List api_Link) (t : Int) : (Int → Bool) → Int → List api_PowerOp → (Int → Bool) → Int → Prop where
  | nil {on : Int → Bool} {last : Int} : Fit n ls t on last [] on last
  | cons {on on' : Int → Bool} {last last' : Int} {o : api_PowerOp} {ops : List api_PowerOp} (hd : 0 ≤ o.Device ∧ o.Device < n) (ha : last ≤ o.At ∧ o.At ≤ t) (hn : o.Resume ≠ on o.Device)
      (hs : ∀ l ∈ ls, (o.Resume = true → l.Consumer = o.Device → on l.Supplier = true) ∧ (o.Resume = false → l.Supplier = o.Device → on l.Consumer = false))
      (h : Fit n ls t (fset on o.Device o.Resume) o.At ops on' last') : Fit n ls t on last (o :: ops) on' last'
theorem Fit.append {n : Nat} {ls : List api_Link} {t : Int} {on on1 on2 : Int → Bool} {l0 l1 l2 : Int} {a b : List api_PowerOp} (h : Fit n ls t on l0 a on1 l1) (h' : Fit n ls t on1 l1 b on2 l2) : Fit n ls t on l0 (a ++ b) on2 l2 := by
  induction h with
  | nil => exact h'
  | cons hd ha hn hs _ ih => exact .cons hd ha hn hs (ih h')
theorem Fit.weak {n : Nat} {ls : List api_Link} {t : Int} {on on1 : Int → Bool} {l0 l1 : Int} {a : List api_PowerOp} (h : Fit n ls t on l0 a on1 l1) {l : Int} (hl : l ≤ l0) : ∃ l1', Fit n ls t on l a on1 l1' ∧ l1' ≤ l1 ∧ (a ≠ [] → l1' = l1) := by
  cases h with
  | nil => exact ⟨l, .nil, hl, fun h => absurd rfl h⟩
  | cons hd ha hn hs h => exact ⟨_, .cons hd ⟨by omega, ha.2⟩ hn hs h, Int.le_refl _, fun _ => rfl⟩
theorem Fit.last {n : Nat} {ls : List api_Link} {t : Int} {on on1 : Int → Bool} {l0 l1 : Int} {a : List api_PowerOp} (h : Fit n ls t on l0 a on1 l1) (hl : l0 ≤ t) : l0 ≤ l1 ∧ l1 ≤ t := by
  induction h with
  | nil => exact ⟨Int.le_refl _, hl⟩
  | cons hd ha hn hs _ ih => have := ih ha.2; omega

/-- An expiration fits; the times lie behind those from which all idle devices expire. -/
theorem Exp.fit {n : Nat} {ls : List api_Link} {de : Int → Int} {t : Int} (hde : ∀ k, 0 ≤ de k) {m m' : Pm} {ops : List api_PowerOp} (h : Exp n ls de t m ops m') : ∀ (b : Int), b ≤ t → (∀ k, m.act k = true → 0 ≤ k ∧ k < n) → (∀ j, idle ls m j = true → b ≤ m.idl j + de j) → ∃ l', Fit n ls t m.act b ops m'.act l' ∧ l' ≤ t := by
  induction h with
  | nil _ => intro b hb _ _; exact ⟨b, .nil, hb⟩
  | @cons m m' k at_ ops h ht _ ih =>
    intro b hb hr hm
    obtain ⟨⟨k0, k1⟩, hk, e, hmin⟩ := nxTo_some h
    obtain ⟨h1, h2, h3⟩ := idle_iff.1 hk
    have hbk := hm k hk
    obtain ⟨l', hf, hl'⟩ := ih at_ ht (fun j hj => hr j ((off1_act _ _ _ _).1 hj).2) (fun j hj => by
      have := hde j
      rcases off1_idle hj with ⟨_, e'⟩ | ⟨h4, e'⟩
      · rw [e']; omega
      · rw [e']
        have h5 := hr j (idle_iff.1 h4).1
        exact hmin j h5.1 h5.2 h4)
    exact ⟨l', .cons ⟨k0, k1⟩ ⟨by show b ≤ at_; omega, ht⟩ (by simp [h1]) (fun l hl => ⟨fun h => by simp at h, fun _ hs => h3 l hl hs⟩) hf, hl'⟩

theorem Run.nth {n : Nat} {ls : List api_Link} {out : List Int} (h : Run n ls out) : ∀ i (hi : i < out.length), least n ls (out.take i) = some out[i] := by
  induction h with
  | nil => intro i hi; simp at hi
  | @snoc out v h hv ih =>
    intro i hi
    by_cases hi' : i < out.length
    · rw [List.take_append_of_le_length (by omega), List.getElem_append_left hi']; exact ih i hi'
    · have : i = out.length := by simp only [List.length_append, List.length_singleton] at hi; omega
      subst this
      rw [List.take_append_of_le_length (Nat.le_refl _), List.take_length, List.getElem_append_right (Nat.le_refl _)]
      simpa using hv

/-- The pass along the order fits. -/
theorem wake_fit {n : Nat} {ls : List api_Link} (g : GoodG n ls) {m : Pm} (w : WA n ls m) {d t : Int} (hd : 0 ≤ d ∧ d < n) : ∀ (ys xs : List Int) (last : Int), last ≤ t → ord n ls = xs ++ ys →
    ∃ l', Fit n ls t (fun k => m.act k || (decide (k ∈ req n ls d) && decide (k ∈ xs))) last ((ys.filter (fun k => decide (k ∈ req n ls d) && !m.act k)).map (fun k => api_PowerOp.mk k true t)) (fun k => m.act k || (decide (k ∈ req n ls d) && decide (k ∈ ord n ls))) l' ∧ l' ≤ t
  | [], xs, last, hl, e => ⟨last, by rw [e, List.append_nil]; exact .nil, hl⟩
  | k :: ys, xs, last, hl, e => by
    have hr := (ord_run n ls).1
    have hx : xs.length < (ord n ls).length := by rw [e]; simp
    have hnth := hr.nth xs.length hx
    have htake : (ord n ls).take xs.length = xs := by rw [e]; simp
    have hget : (ord n ls)[xs.length] = k := by simp [e]
    rw [htake, hget] at hnth
    obtain ⟨k0, k1, hfree, _⟩ := least_some hnth
    obtain ⟨hk, hsup⟩ := free_iff.1 hfree
    have e2 : ord n ls = (xs ++ [k]) ++ ys := by rw [e]; simp
    by_cases c : (decide (k ∈ req n ls d) && !m.act k) = true
    · have c' := c
      simp only [Bool.and_eq_true, decide_eq_true_eq, Bool.not_eq_true'] at c
      obtain ⟨c1, c2⟩ := c
      rw [List.filter_cons, if_pos c', List.map_cons]
      obtain ⟨l', hf, hl'⟩ := wake_fit g w hd ys (xs ++ [k]) t (Int.le_refl _) e2
      refine ⟨l', .cons ⟨k0, k1⟩ ⟨hl, Int.le_refl _⟩ (by simp [c2, hk]) (fun l hlk => ⟨fun _ hc => ?_, fun h => by simp at h⟩) ?_, hl'⟩
      · have hc' : l.Consumer = k := hc
        have hs := hsup l hlk hc'
        have hsr := g.s0 l hlk
        have hreq : l.Supplier ∈ req n ls d := by
          refine (mem_req g).2 ⟨hsr, .inr ?_⟩
          have hlk' : api_Link.mk k l.Supplier ∈ ls := by rw [← hc']; exact hlk
          rcases ((mem_req g).1 c1).2 with e3 | e3
          · rw [← e3]; exact .one hlk'
          · exact path_snoc e3 hlk'
        simp [hreq, hs]
      · have hfun : (fset (fun k => m.act k || (decide (k ∈ req n ls d) && decide (k ∈ xs))) k true) = (fun q => m.act q || (decide (q ∈ req n ls d) && decide (q ∈ xs ++ [k]))) := by
          funext q
          unfold fset
          by_cases eq : q = k
          · rw [if_pos eq, eq]; simp [c1]
          · rw [if_neg eq]; simp [eq]
        show Fit n ls t (fset (fun k => m.act k || (decide (k ∈ req n ls d) && decide (k ∈ xs))) k true) t _ _ _
        rw [hfun]; exact hf
    · rw [List.filter_cons, if_neg c]
      obtain ⟨l', hf, hl'⟩ := wake_fit g w hd ys (xs ++ [k]) last hl e2
      refine ⟨l', ?_, hl'⟩
      have hfun : (fun q => m.act q || (decide (q ∈ req n ls d) && decide (q ∈ xs))) = (fun q => m.act q || (decide (q ∈ req n ls d) && decide (q ∈ xs ++ [k]))) := by
        funext q
        by_cases eq : q = k
        · rw [eq]
          cases ha : m.act k
          · simp only [ha, Bool.not_false, Bool.and_true, decide_eq_true_eq] at c
            simp [c]
          · simp
        · simp [eq]
      rw [hfun]; exact hf

theorem Res.fit {n : Nat} {ls : List api_Link} {de : Int → Int} (g : GoodG n ls) (hde : ∀ k, 0 ≤ de k) {kind d t : Int} {m m' : Pm} {ops : List api_PowerOp} (w : Sim.W n ls de m) (h : Res n ls de kind d t m m' ops 0) {last : Int} (hlast : last ≤ m.now) : ∃ l', Fit n ls t m.act last ops m'.act l' ∧ l' ≤ t := by
  have hb : ∀ j, idle ls m j = true → m.now ≤ m.idl j + de j := fun j hj => Int.le_of_lt (w.x j hj)
  have hweak : ∀ {on on1 : Int → Bool} {l0 l1 : Int} {a : List api_PowerOp}, Fit n ls t on l0 a on1 l1 → l1 ≤ t → ∀ l, l ≤ l0 → ∃ l', Fit n ls t on l a on1 l' ∧ l' ≤ t := fun hf h1 l hl => by
    obtain ⟨l', a, b, _⟩ := hf.weak hl
    exact ⟨l', a, by omega⟩
  cases h with
  | @get m1 o1 h2 h3 hd ht he =>
    obtain ⟨w1, _⟩ := he.W w.w (fun k hk => by have := w.i k hk; have := ht.1; omega)
    obtain ⟨l1, f1, hl1⟩ := he.fit hde m.now ht.1 w.w.r hb
    obtain ⟨l2, f2, hl2⟩ := wake_fit g w1 (d := d) (t := t) hd (ord n ls) [] l1 hl1 rfl
    have hfun : (fun k => m1.act k || (decide (k ∈ req n ls d) && decide (k ∈ ([] : List Int)))) = m1.act := by funext k; simp
    rw [hfun] at f2
    exact hweak (f1.append f2) hl2 last hlast
  | @put m1 m2 o1 o2 h2 hd ht hc he he2 =>
    obtain ⟨w1, i1⟩ := he.W w.w (fun k hk => by have := w.i k hk; have := ht.1; omega)
    have x1 := he.x w1
    obtain ⟨l1, f1, hl1⟩ := he.fit hde m.now ht.1 w.w.r hb
    obtain ⟨p1, p2, p3⟩ := putM_act (ls := ls) m1 d t
    obtain ⟨l2, f2, hl2⟩ := he2.fit hde t (Int.le_refl _) (by rw [p1]; exact w1.r) (fun j hj => by
      rw [putM_idle] at hj
      have hdj := hde j
      obtain ⟨q1, q2, q3⟩ := idle_iff.1 hj
      have hne : j ≠ d → t ≤ m1.idl j + de j := fun e => by
        have q2' : fset m1.cnt d (m1.cnt d - 1) j = 0 := q2
        rw [fset_ne _ _ e] at q2'
        exact Int.le_of_lt (x1 j (idle_iff.2 ⟨q1, q2', q3⟩))
      unfold putM
      by_cases hi : idle ls (putC m1 d t) d = true
      · rw [if_pos hi]
        show t ≤ fset m1.idl d t j + de j
        unfold fset
        split
        · omega
        · rename_i e; exact hne e
      · rw [if_neg hi]
        exact hne (fun e => hi (e ▸ hj)))
    rw [p1] at f2
    obtain ⟨l3, f3, hl3⟩ := hweak f2 hl2 l1 hl1
    exact hweak (f1.append f3) hl3 last hlast
  | @adv m1 o1 h3 ht he =>
    obtain ⟨l1, f1, hl1⟩ := he.fit hde m.now ht.1 w.w.r hb
    exact hweak f1 hl1 last hlast

theorem needs_ok {ds : List api_IdleDevice} (G : GD ds) {i k : Int} (hi : 0 ≤ i ∧ i < ds.length) (hk : 0 ≤ k) : law28_needs.f ds i k = some (decide (api_Link.mk i k ∈ lks ds)) := by
  obtain ⟨a, rfl⟩ := Int.eq_ofNat_of_zero_le hi.1
  have ha : a < ds.length := by omega
  have hsl := G.sl _ (List.getElem_mem ha)
  have hmem : api_Link.mk (a : Int) k ∈ lks ds ↔ k ∈ supl ds[a] := by
    unfold lks
    rw [mem_lkTo (Nat.le_refl _)]
    constructor
    · rintro ⟨j, hj, _, e, hs⟩
      simp only at e hs
      have : a = j := by omega
      subst this; exact hs
    · intro h; exact ⟨a, ha, ha, rfl, h⟩
  unfold law28_needs.f
  rw [idx_get ha, Option.bind_some]
  by_cases c : ds[a].Parent = k
  · rw [if_pos (by simpa using c)]
    congr 1
    symm
    rw [decide_eq_true_eq, hmem]
    unfold supl; rw [if_neg (by omega)]; simp [c]
  · rw [if_neg (by simpa using c)]
    have key : law28_needs.l0 k ds[a] FUEL 0 = some (if ds[a].Suppliers.any (fun x => x == k) = true then .out true else .nxt ()) := search_ok (L := law28_needs.l0 k ds[a]) ds[a].Suppliers (fun x => x == k) true (by rw [maxLen_eq]; omega) (fun q i => by rw [law28_needs.l0])
    have hs : (k ∈ supl ds[a]) ↔ k ∈ ds[a].Suppliers := by
      unfold supl
      split
      · exact Iff.rfl
      · rw [List.mem_cons]; exact ⟨fun h => h.resolve_left (fun e => c e.symm), .inr⟩
    rw [key]
    by_cases hin : k ∈ ds[a].Suppliers
    · rw [if_pos (List.any_eq_true.2 ⟨k, hin, by simp⟩), Option.bind_some, Fl.go]
      congr 1
      symm
      rw [decide_eq_true_eq, hmem, hs]; exact hin
    · rw [if_neg (fun h => by obtain ⟨x, hx, e⟩ := List.any_eq_true.1 h; simp only [beq_iff_eq] at e; exact hin (e ▸ hx)), Option.bind_some, Fl.go]
      congr 1
      symm
      rw [decide_eq_false_iff_not, hmem, hs]; exact hin

theorem ordered_l2 {ds : List api_IdleDevice} (G : GD ds) {on : Int → Bool} {ol : List Bool} (hR : RepV ds.length ol on) {o : api_PowerOp} (hd : 0 ≤ o.Device ∧ o.Device < ds.length)
    (hs : ∀ l ∈ lks ds, (o.Resume = true → l.Consumer = o.Device → on l.Supplier = true) ∧ (o.Resume = false → l.Supplier = o.Device → on l.Consumer = false)) : law28_RuntimepmOperationsOrdered.l2 ds ol o FUEL 0 = some (.nxt ()) := by
  have h8 := G.n8
  refine loop_c (L := fun k (_ : Unit) i => law28_RuntimepmOperationsOrdered.l2 ds ol o k i) ds.length (fun _ _ => True) (fun q => q = some (.nxt ())) ?_ ?_ FUEL 0 () (Nat.zero_le _) (FUEL_pos (by omega)) trivial
  · intro k _ j hj _
    have hj0 : (0 : Int) ≤ (j : Int) ∧ (j : Int) < (ds.length : Int) := by omega
    have n1 := needs_ok G hd hj0.1
    have n2 := needs_ok G hj0 hd.1
    rw [law28_RuntimepmOperationsOrdered.l2, if_pos (by simp; omega), n1, n2, hR.2 _ hj0.1 hj0.2]
    simp only [Option.bind_some]
    refine .inl ⟨(), trivial, ?_⟩
    cases hres : o.Resume
    · simp only [Bool.false_eq_true, if_false, Option.bind_some, Bool.not_false, if_true]
      by_cases c : api_Link.mk (j : Int) o.Device ∈ lks ds
      · have := (hs _ c).2 hres rfl
        simp only at this
        rw [if_pos (by simpa using c), this, Option.bind_some, Option.bind_some, if_neg (by simp), wi_succ (by omega)]
      · rw [if_neg (by simpa using c), Option.bind_some, Option.bind_some, if_neg (by simp), wi_succ (by omega)]
    · simp only [if_true, Option.bind_some, Bool.not_true, Bool.false_eq_true, if_false]
      by_cases c : api_Link.mk o.Device (j : Int) ∈ lks ds
      · have := (hs _ c).1 hres rfl
        simp only at this
        rw [if_pos (by simpa using c), this, Option.bind_some, if_neg (by simp), Option.bind_some, if_neg (by simp), wi_succ (by omega)]
      · rw [if_neg (by simpa using c), Option.bind_some, if_neg (by simp), Option.bind_some, if_neg (by simp), wi_succ (by omega)]
  · intro k _ _
    rw [law28_RuntimepmOperationsOrdered.l2, if_neg (by simp)]

theorem ordered_l1 {ds : List api_IdleDevice} (G : GD ds) {t : Int} {r119 : Int × Int} (hr : r119.2 = t) {p' : runtimepm_Manager} {all : List api_PowerOp} {e : Int} (hl : all.length ≤ 1000) {on on' : Int → Bool} {last last' : Int} {ops : List api_PowerOp} (h : Fit ds.length (lks ds) t on last ops on' last') :
    ∀ (done : List api_PowerOp) (ol : List Bool) (fuel : Nat), all = done ++ ops → RepV ds.length ol on → ops.length < fuel → ∃ ol', law28_RuntimepmOperationsOrdered.l1 ds r119 (p', all, e) fuel ol last (done.length : Int) = some (.nxt (ol', last')) ∧ RepV ds.length ol' on' := by
  induction h with
  | nil =>
    intro done ol fuel ha hR hf
    match fuel, hf with
    | fuel + 1, _ =>
      rw [law28_RuntimepmOperationsOrdered.l1, if_neg (by simp [ha])]
      exact ⟨ol, rfl, hR⟩
  | @cons on on' last last' o ops hd hat hn hs _ ih =>
    intro done ol fuel ha hR hf
    match fuel, hf with
    | fuel + 1, hf =>
      simp only [List.length_cons] at hf
      have hlt : done.length < all.length := by rw [ha]; simp
      have hget : all[done.length] = o := by simp [ha]
      rw [law28_RuntimepmOperationsOrdered.l1, if_pos (by simp; omega)]
      simp only
      rw [idx_get hlt, Option.bind_some, hget, hr, if_neg (by simp; omega), hR.2 _ hd.1 hd.2, Option.bind_some, Option.bind_some, if_neg (by simpa using hn), ordered_l2 G hR hd hs, Option.bind_some, Fl.go, Option.bind_some, Option.bind_some, Fl.go, wi_succ (by omega)]
      obtain ⟨ol', e', R'⟩ := ih (done ++ [o]) (upd ol o.Device o.Resume) fuel (by rw [ha]; simp) (hR.set hd.1 _) (by omega)
      refine ⟨ol', ?_, R'⟩
      rw [← e']; simp

theorem runtimepmOperationsOrdered : law28_RuntimepmOperationsOrdered.Pure := by
  intro p0 p1 h1 h2
  unfold law28_RuntimepmOperationsOrdered.f
  rcases open_law p0 p1 h1 with e | ⟨e, hl, ds, e2, G⟩
  · rw [e, Option.bind_some, if_pos rfl, awake28_ok]; rfl
  · have g := G.good
    have h8 := G.n8
    obtain ⟨p, e3, q0⟩ := new_q G
    rw [e, Option.bind_some, if_neg (by simp), e2, Option.bind_some, e3, Option.bind_some, if_neg (by simp), mk_ok (by omega), Option.bind_some]
    simp only [Option.bind_some]
    have key : law28_RuntimepmOperationsOrdered.l0 p1 ds FUEL p (List.replicate ds.length false) 0 0 0 = some (.nxt ()) := by
      refine loop_c (L := fun k (s : runtimepm_Manager × List Bool × Int × Int) i => law28_RuntimepmOperationsOrdered.l0 p1 ds k s.1 s.2.1 s.2.2.1 s.2.2.2 i) p1.length (fun i s => ∃ m, Q ds.length (lks ds) (dly ds) i s.1 m ∧ RepV ds.length s.2.1 m.act ∧ s.2.2.1 = m.now ∧ s.2.2.2 ≤ m.now)
        (fun o => o = some (.nxt ())) ?_ ?_ FUEL 0 (p, List.replicate ds.length false, 0, 0) (Nat.zero_le _) (FUEL_pos (by omega)) ⟨m00, q0, RepV.rep ds.length false, rfl, Int.le_refl _⟩
      · rintro k ⟨p, ol, now, last⟩ i hi ⟨m, hQ, hU, hnow, hlast⟩
        simp only at hQ hU hnow hlast ⊢
        subst hnow
        have hc := List.getElem_mem hi
        have hw := (u64_range (h2.2 _ hc).2.2.1).1
        have hat : ∃ d t, law28_Call_at.f (law28_Call.mk p1[i].Kind p1[i].Device p1[i].Wait false) ds.length m.now = some (d, t) := by
          by_cases hz : 0 < ds.length
          · obtain ⟨d, q, ea, _⟩ := at_pos hz h8 p1[i].Kind p1[i].Device p1[i].Wait m.now ⟨hQ.w.n0, hQ.w.n1⟩ hw
            exact ⟨d, _, ea⟩
          · rw [show ds.length = 0 by omega]
            exact ⟨_, _, at_zero _ _ _ _⟩
        obtain ⟨d, t, ea⟩ := hat
        obtain ⟨kind, ek, k0, k1⟩ := kind_ok p1[i].Kind
        obtain ⟨p', m', ops, e, ed, hR, hQ'⟩ := call_ok g G.full (by omega) hQ (c := law28_Call.mk p1[i].Kind p1[i].Device p1[i].Wait false) ea ek
        have hclk := hR.clock
        rw [law28_RuntimepmOperationsOrdered.l0, if_pos (by simp; omega), idx_get hi, Option.bind_some, ea, Option.bind_some, ed, Option.bind_some, wi_succ (by omega)]
        by_cases he : e = 0
        · subst he
          rw [if_pos rfl] at hclk
          rw [if_neg (by simp)]
          obtain ⟨l', hf, hl'⟩ := hR.fit g (fun k => (G.dly k).1) hQ.w hlast
          have hops : ops.length ≤ 1000 := by
            cases hR with
            | @get m1 o1 _ _ _ _ he =>
              have h3 := he.len
              have h4 := List.length_filter_le (fun k => decide (k ∈ req ds.length (lks ds) d) && !m1.act k) (ord ds.length (lks ds))
              have h5 := ord_le ds.length (lks ds)
              simp only [List.length_append, wake, List.length_map]; omega
            | put _ _ _ _ he he2 => have h3 := he.len; have h4 := he2.len; simp only [List.length_append]; omega
            | adv _ _ he => have := he.len; omega
          obtain ⟨ol', e4, R4⟩ := ordered_l1 G (r119 := (d, t)) rfl (p' := p') (all := ops) (e := 0) hops hf [] ol FUEL rfl hU (by unfold FUEL; omega)
          have e4' : law28_RuntimepmOperationsOrdered.l1 ds (d, t) (p', ops, 0) FUEL ol last 0 = some (.nxt (ol', l')) := e4
          rw [e4', Option.bind_some, Fl.go]
          have hl3 : law28_RuntimepmOperationsOrdered.l3 ds (d, t) (p', ops, 0) (ol', l') FUEL 0 = some (.nxt (p', ol', t, l')) := by
            refine loop_c (L := fun k (_ : Unit) i => law28_RuntimepmOperationsOrdered.l3 ds (d, t) (p', ops, 0) (ol', l') k i) ds.length (fun _ _ => True) (fun o => o = some (.nxt (p', ol', t, l'))) ?_ ?_ FUEL 0 () (Nat.zero_le _) (FUEL_pos (by omega)) trivial
            · intro k _ j hj _
              have hj0 : (0 : Int) ≤ (j : Int) ∧ (j : Int) < (ds.length : Int) := by omega
              rw [law28_RuntimepmOperationsOrdered.l3, if_pos (by simp; omega), active_ok hQ'.r, Option.bind_some, R4.2 _ hj0.1 hj0.2, Option.bind_some, if_neg (by simp [hj0]), wi_succ (by omega)]
              exact .inl ⟨(), trivial, rfl⟩
            · intro k _ _
              rw [law28_RuntimepmOperationsOrdered.l3, if_neg (by simp)]
          rw [hl3, Option.bind_some, Fl.go]
          exact .inl ⟨(p', ol', t, l'), ⟨m', hQ'.mono (by omega), R4, hclk.symm, by show l' ≤ m'.now; omega⟩, rfl⟩
        · obtain ⟨rfl, rfl⟩ := hR.cnt.1 he
          rw [if_pos (by simpa using he), if_neg (by simp), Option.bind_some, Fl.go]
          exact .inl ⟨(p', ol, m'.now, last), ⟨m', hQ'.mono (by omega), hU, rfl, hlast⟩, rfl⟩
      · rintro k ⟨p, ol, now, last⟩ _
        rw [law28_RuntimepmOperationsOrdered.l0, if_neg (by simp)]
    rw [key, Option.bind_some, Fl.go, awake28_ok]; rfl
end Go.Proofs.Ytcfcffbjdjacfaa.Sim
