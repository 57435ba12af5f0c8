/-
  Texts of this session, part 8 of 8: the words of the walk, plain functions with the same answers as the Go functions and the proofs of it, plain lemmas. No condition.
  They are, one behind the other: G0 G1 G2 G3 G4 QRef25New N1 A1 A2 B1 QRef25Later QRef25RailsAdd QRef25RailsDrop B2 QRailsRailsCount QRailsRailsReadyAt QRailsRailsPowered QRef25RailsBad QRef25RailsAcquire QRef25RailsCount QRef25RailsOwn QRef25RailsPowered QRef25RailsRelease C1 QHelpEqualApiRailOp C2 QRef27Ascending La QRef27Has QRef27Needs QRef27Change Lb Lc Ld QRef27Valid QRef27Check Le D1 D2 PuHier.
-/
import Derived.Test.YtfhhklkmbcnhnaaProg
import Derived.Test.YtfhhklkmbcnhnaaZDeviceHierarchy7

namespace Go.Proofs.Ytfhhklkmbcnhnaa.Sim
open Go
set_option linter.unusedVariables false

/-! ### loops -/

theorem loop_m {σ ρ : Type} {L : Nat → σ → Option ρ} (I : σ → Prop) (μ : σ → Nat) (Q : Option ρ → Prop)
    (step : ∀ k s, I s → (∃ s', I s' ∧ μ s' < μ s ∧ L (k + 1) s = L k s') ∨ Q (L (k + 1) s)) : ∀ (fuel : Nat) (s : σ), I s → μ s < fuel → Q (L fuel s)
  | 0, s, _, h => absurd h (by omega)
  | k + 1, s, hi, h => by
    rcases step k s hi with ⟨s', h1, h2, h3⟩ | h1
    · rw [h3]; exact loop_m I μ Q step k s' h1 (by omega)
    · exact h1

/-- A loop that counts up to n. -/
theorem loop_c {σ ρ : Type} {L : Nat → σ → Int → Option ρ} (n : Nat) (I : Nat → σ → Prop) (Q : Option ρ → Prop)
    (step : ∀ k s i, i < n → I i s → (∃ s', I (i + 1) s' ∧ L (k + 1) s (i : Int) = L k s' ((i + 1 : Nat) : Int)) ∨ Q (L (k + 1) s (i : Int)))
    (fin : ∀ k s, I n s → Q (L (k + 1) s (n : Int))) : ∀ (fuel i : Nat) (s : σ), i ≤ n → n - i < fuel → I i s → Q (L fuel s (i : Int))
  | 0, i, s, _, h, _ => absurd h (by omega)
  | k + 1, i, s, h0, h, hi => by
    rcases Nat.lt_or_ge i n with hl | hl
    · rcases step k s i hl hi with ⟨s', h1, h3⟩ | h1
      · rw [h3]; exact loop_c n I Q step fin k (i + 1) s' hl (by omega) h1
      · exact h1
    · have : i = n := by omega
      subst this
      exact fin k s hi

theorem FUEL_pos {n : Nat} (h : n ≤ 9223372036854775807) : n < FUEL := by unfold FUEL; omega

/-! ### numbers -/

theorem wi_id {x : Int} (h0 : -9223372036854775808 ≤ x) (h1 : x < 9223372036854775808) : wi x = x := by
  unfold wi; simp only [IntKind.wrap, IntKind.bits, IntKind.signed, Bool.true_and]; split <;> rename_i h <;> simp at h <;> omega
theorem wu_eq (x : Int) : wu x = x % 18446744073709551616 := by
  unfold wu; simp only [IntKind.wrap, IntKind.bits, IntKind.signed, Bool.false_and]; rfl
theorem wu_id {x : Int} (h0 : 0 ≤ x) (h1 : x < 18446744073709551616) : wu x = x := by rw [wu_eq]; omega
theorem wu_range (x : Int) : 0 ≤ wu x ∧ wu x < 18446744073709551616 := by rw [wu_eq]; omega
theorem maxLen_eq : maxLen = 9223372036854775807 := rfl
theorem wi_succ {i : Nat} (h : i < 9223372036854775807) : wi ((i : Int) + 1) = ((i + 1 : Nat) : Int) := by rw [wi_id (by omega) (by omega)]; rfl

/-! ### lists -/

theorem idx_get {α : Type} {xs : List α} {i : Nat} (h : i < xs.length) : idx xs (i : Int) = some xs[i] := by
  unfold idx; rw [if_pos (by omega)]; simp [h]
theorem idx_nat {α : Type} {xs : List α} {i : Int} (h0 : 0 ≤ i) : idx xs i = xs[i.toNat]? := by
  unfold idx; rw [if_pos h0]
theorem idx_of {α : Type} {xs : List α} {i : Int} (h0 : 0 ≤ i) (h1 : i < (xs.length : Int)) : ∃ x, idx xs i = some x ∧ x ∈ xs := by
  obtain ⟨n, rfl⟩ := Int.eq_ofNat_of_zero_le h0
  have hn : n < xs.length := by omega
  exact ⟨xs[n], idx_get hn, List.getElem_mem hn⟩
theorem idx_upd {α : Type} {xs : List α} {i j : Int} {x : α} (hi : 0 ≤ i) (hj : 0 ≤ j) (hl : j < (xs.length : Int)) : idx (upd xs i x) j = if i = j then some x else idx xs j := by
  rw [idx_nat hj, idx_nat hj]
  unfold upd
  rw [List.getElem?_set]
  by_cases e : i = j
  · subst e; rw [if_pos rfl, if_pos rfl, if_pos (by omega)]
  · rw [if_neg e, if_neg (by omega)]
theorem idx_upd_self {α : Type} {xs : List α} {i : Int} {x y : α} (h : idx xs i = some y) : idx (upd xs i x) i = some x := by
  rw [idx_upd (idx_lo h) (idx_lo h) (idx_hi h), if_pos rfl]
theorem idx_upd_ne {α : Type} {xs : List α} {i j : Int} {x : α} (hi : 0 ≤ i) (h : i ≠ j) : idx (upd xs i x) j = idx xs j := by
  rcases Int.lt_or_le j 0 with hj | hj
  · unfold idx; rw [if_neg (by omega), if_neg (by omega)]
  · rw [idx_nat hj, idx_nat hj]
    unfold upd
    rw [List.getElem?_set, if_neg (by omega)]
theorem idx_upd_some {α : Type} {xs : List α} {i j : Int} {x y : α} (hi : 0 ≤ i) (h : idx xs j = some y) : idx (upd xs i x) j = some (if i = j then x else y) := by
  rw [idx_upd hi (idx_lo h) (idx_hi h)]
  split <;> simp [h]

theorem app_ok {α : Type} {xs ys : List α} (h : xs.length + ys.length ≤ 4294967296) : app xs ys = some (xs ++ ys) := by
  unfold app; rw [if_pos h]
theorem mk_ok {α : Type} {n : Nat} {x : α} (h : n ≤ 4294967296) : mk (n : Int) x = some (List.replicate n x) := by
  unfold mk; rw [if_pos (by omega)]; rfl
theorem idx_replicate {α : Type} {n : Nat} {x : α} {i : Int} (h0 : 0 ≤ i) (h1 : i < (n : Int)) : idx (List.replicate n x) i = some x := by
  rw [idx_nat h0, List.getElem?_replicate, if_pos (by omega)]
theorem slc_front {α : Type} {xs : List α} {h : Nat} (hh : h ≤ xs.length) : slc xs 0 (h : Int) = some (xs.take h) := by
  unfold slc; rw [if_pos (by omega)]; simp
/-- A list without repetitions inside another one is not longer. -/
theorem nodup_le {α : Type} [DecidableEq α] : ∀ {l s : List α}, l.Nodup → (∀ x ∈ l, x ∈ s) → l.length ≤ s.length
  | [], _, _, _ => by simp
  | a :: t, s, hn, hs => by
    have ha := hs a (List.mem_cons_self ..)
    rw [List.nodup_cons] at hn
    have := nodup_le (l := t) (s := s.erase a) hn.2 (fun x hx => by
      have : x ≠ a := fun e => hn.1 (e ▸ hx)
      exact (List.mem_erase_of_ne this).2 (hs x (List.mem_cons_of_mem _ hx)))
    rw [List.length_erase_of_mem ha] at this
    have : 0 < s.length := List.length_pos_of_mem ha
    simp only [List.length_cons]; omega

/-- The numbers below n. -/
def below (n : Nat) : List Int := (List.range n).map (fun (i : Nat) => (i : Int))
theorem mem_below {n : Nat} {x : Int} : x ∈ below n ↔ 0 ≤ x ∧ x < n := by
  unfold below
  simp only [List.mem_map, List.mem_range]
  constructor
  · rintro ⟨a, h, rfl⟩; omega
  · rintro ⟨h0, h1⟩; exact ⟨x.toNat, by omega, by omega⟩
theorem below_length (n : Nat) : (below n).length = n := by simp [below]
theorem below_succ (n : Nat) : below (n + 1) = below n ++ [(n : Int)] := by simp [below, List.range_succ]
theorem below_nodup (n : Nat) : (below n).Nodup := by
  induction n with
  | zero => simp [below]
  | succ n ih =>
    rw [below_succ, List.nodup_append]
    refine ⟨ih, by simp, fun a ha b hb => ?_⟩
    have := (mem_below.1 ha).2
    simp only [List.mem_singleton] at hb
    omega

end Go.Proofs.Ytfhhklkmbcnhnaa.Sim

namespace Go.Proofs.Ytfhhklkmbcnhnaa.Sim
open Go
set_option linter.unusedVariables false

def hf (q : List Int) (i : Nat) : Int := q.getD i 0
theorem hf_get {q : List Int} {i : Nat} (h : i < q.length) : hf q i = q[i] := by simp [hf, h]
theorem idx_hf {q : List Int} {i : Nat} (h : i < q.length) : idx q (i : Int) = some (hf q i) := by rw [idx_get h, hf_get h]

def sw (q : List Int) (i j : Nat) : List Int := (q.set i (hf q j)).set j (hf q i)
theorem sw_length (q : List Int) (i j : Nat) : (sw q i j).length = q.length := by simp [sw]
theorem hf_sw {q : List Int} {i j : Nat} (hi : i < q.length) (hj : j < q.length) (k : Nat) : hf (sw q i j) k = if k = j then hf q i else if k = i then hf q j else hf q k := by
  unfold sw
  simp only [hf, List.getD_eq_getElem?_getD, List.getElem?_set, List.length_set]
  by_cases e1 : k = j
  · subst e1; simp [hj]
  · rw [if_neg (fun h => e1 h.symm), if_neg e1]
    by_cases e2 : k = i
    · subst e2; simp [hi]
    · rw [if_neg (fun h => e2 h.symm), if_neg e2]
theorem sw_perm {q : List Int} {i j : Nat} (hi : i < q.length) (hj : j < q.length) : (sw q i j).Perm q := by
  unfold sw
  rw [hf_get hi, hf_get hj]
  exact List.set_set_perm hi hj

theorem swap_ok {q : List Int} {i j : Nat} (hi : i < q.length) (hj : j < q.length) : depgraph_queue_Swap.f q (i : Int) (j : Int) = some (sw q i j) := by
  unfold depgraph_queue_Swap.f
  rw [idx_hf hj, idx_hf hi]
  simp only [Option.bind_some]
  have : (upd q (i : Int) (hf q j)).length = q.length := upd_length _ _ _
  rw [idx_get (by omega)]
  rfl
theorem less_ok {q : List Int} {i j : Nat} (hi : i < q.length) (hj : j < q.length) : depgraph_queue_Less.f q (i : Int) (j : Int) = some (decide (hf q i < hf q j)) := by
  unfold depgraph_queue_Less.f
  rw [idx_hf hj, idx_hf hi]
  rfl

/-- A heap on the first n places. -/
def Heap (q : List Int) (n : Nat) : Prop := ∀ k, 0 < k → k < n → hf q ((k - 1) / 2) ≤ hf q k

theorem Heap.min {q : List Int} {n : Nat} (h : Heap q n) : ∀ k, k < n → hf q 0 ≤ hf q k := by
  intro k
  induction k using Nat.strongRecOn with
  | _ k ih =>
    intro hk
    rcases Nat.eq_zero_or_pos k with rfl | h0
    · omega
    · have h1 := ih ((k - 1) / 2) (by omega) (by omega)
      have h2 := h k h0 hk
      omega

structure UpI (q : List Int) (j : Nat) : Prop where
  lt : j < q.length
  a : ∀ k, 0 < k → k < q.length → k ≠ j → hf q ((k - 1) / 2) ≤ hf q k
  b : ∀ k, 0 < k → k < q.length → (k - 1) / 2 = j → 0 < j → hf q ((j - 1) / 2) ≤ hf q k

theorem up_par {j : Nat} (h : j < 4294967296) : wi (Int.tdiv (wi ((j : Int) - 1)) 2) = (((j - 1) / 2 : Nat) : Int) := by
  rw [wi_id (x := (j : Int) - 1) (by omega) (by omega)]
  rcases Nat.eq_zero_or_pos j with rfl | h0
  · rw [show Int.tdiv (((0 : Nat) : Int) - 1) 2 = 0 from by decide]; exact wi_id (by omega) (by omega)
  · rw [Int.tdiv_eq_ediv_of_nonneg (by omega), wi_id (by omega) (by omega)]; omega

theorem up_ok (q : List Int) (j : Nat) (hl : q.length ≤ 4294967296) (h : UpI q j) : ∃ q', heap_up.f ⟨q⟩ (j : Int) = some ⟨q'⟩ ∧ q'.Perm q ∧ Heap q' q'.length := by
  unfold heap_up.f
  show ∃ q', (fun k (s : List Int × Nat) => heap_up.l0 k s.1 (s.2 : Int)) FUEL (q, j) = some ⟨q'⟩ ∧ _
  refine loop_m (L := fun k (s : List Int × Nat) => heap_up.l0 k s.1 (s.2 : Int)) (fun s => UpI s.1 s.2 ∧ s.1.Perm q) (fun s => s.2) (fun o => ∃ q', o = some ⟨q'⟩ ∧ q'.Perm q ∧ Heap q' q'.length) ?_ FUEL (q, j) ⟨h, List.Perm.refl _⟩ (FUEL_pos (by have := h.lt; show j ≤ _; omega))
  rintro k ⟨q1, j⟩ ⟨hi, hp⟩
  simp only at hi hp ⊢
  have hlen := hp.length_eq
  have hjl := hi.lt
  rw [heap_up.l0, up_par (by omega)]
  by_cases e : (j - 1) / 2 = j
  · have hj0 : j = 0 := by omega
    subst hj0
    refine .inr ⟨q1, by simp, hp, fun k h0 h1 => hi.a k h0 h1 (by omega)⟩
  · have hj0 : 0 < j := by omega
    rw [if_neg (by simp; omega), less_ok (by omega) (by omega)]
    simp only [Option.bind_some]
    by_cases hc : hf q1 j < hf q1 ((j - 1) / 2)
    · refine .inl ⟨(sw q1 ((j - 1) / 2) j, (j - 1) / 2), ⟨?_, (sw_perm (by omega) (by omega)).trans hp⟩, by show (j - 1) / 2 < j; omega, ?_⟩
      · have hs := fun k => hf_sw (q := q1) (i := (j - 1) / 2) (j := j) (by omega) (by omega) k
        refine ⟨by rw [sw_length]; omega, fun k h0 h1 hk => ?_, fun k h0 h1 hk hp0 => ?_⟩
        · rw [sw_length] at h1
          simp only at hk
          rw [hs, hs]
          by_cases e1 : k = j
          · subst e1
            rw [if_neg (by omega), if_pos rfl, if_pos rfl]; omega
          · rw [if_neg e1, if_neg hk]
            by_cases e2 : (k - 1) / 2 = j
            · rw [if_pos e2]; exact hi.b k h0 h1 e2 hj0
            · rw [if_neg e2]
              by_cases e3 : (k - 1) / 2 = (j - 1) / 2
              · rw [if_pos e3]
                have := hi.a k h0 h1 e1
                rw [e3] at this; omega
              · rw [if_neg e3]; exact hi.a k h0 h1 e1
        · rw [sw_length] at h1
          simp only at hk hp0 ⊢
          rw [hs, hs, if_neg (by omega), if_neg (by omega)]
          have hpar := hi.a ((j - 1) / 2) hp0 (by omega) (by omega)
          by_cases e1 : k = j
          · rw [if_pos e1]; exact hpar
          · rw [if_neg e1, if_neg (by omega)]
            have := hi.a k h0 h1 e1
            rw [hk] at this; omega
      · rw [decide_eq_true hc]
        simp only [Bool.not_true, Bool.false_eq_true, if_false]
        rw [swap_ok (by omega) (by omega)]
        rfl
    · refine .inr ⟨q1, ?_, hp, fun k h0 h1 => ?_⟩
      · rw [decide_eq_false hc]; simp
      · by_cases e1 : k = j
        · subst e1; omega
        · exact hi.a k h0 h1 e1

theorem push_ok (q : List Int) (x : Int) (hl : q.length < 4294967296) (h : Heap q q.length) : ∃ q', heap_Push.f ⟨q⟩ x = some ⟨q'⟩ ∧ q'.Perm (x :: q) ∧ Heap q' q'.length := by
  unfold heap_Push.f depgraph_queue_Push.f depgraph_queue_Len.f
  rw [app_ok (by simp; omega)]
  simp only [Option.bind_some]
  have hlen : (q ++ [x]).length = q.length + 1 := by simp
  have e : wi (((q ++ [x]).length : Int) - 1) = ((q.length : Nat) : Int) := by rw [hlen, wi_id (by omega) (by omega)]; omega
  rw [e]
  have hh : ∀ k, k < q.length → hf (q ++ [x]) k = hf q k := by
    intro k hk; rw [hf_get hk, hf_get (by omega)]; simp [hk]
  obtain ⟨q', h1, h2, h3⟩ := up_ok (q ++ [x]) q.length (by omega) ⟨by omega, fun k h0 h1 hk => by
    rw [hh k (by omega), hh _ (by omega)]; exact h k h0 (by omega), fun k h0 h1 hk _ => by omega⟩
  rw [h1]
  exact ⟨q', rfl, h2.trans (List.perm_append_singleton x q), h3⟩

structure DownI (q : List Int) (n i : Nat) : Prop where
  le : n ≤ q.length
  a : ∀ k, 0 < k → k < n → (k - 1) / 2 ≠ i → hf q ((k - 1) / 2) ≤ hf q k
  b : ∀ k, 0 < k → k < n → (k - 1) / 2 = i → 0 < i → hf q ((i - 1) / 2) ≤ hf q k

theorem down_ok (q : List Int) (n : Nat) (hl : q.length ≤ 4294967296) (h : DownI q n 0) : ∃ q' i, heap_down.l0 (n : Int) FUEL q 0 = some (i, q') ∧ q'.Perm q ∧ Heap q' n ∧ ∀ k, n ≤ k → hf q' k = hf q k := by
  show ∃ q' i, (fun k (s : List Int × Nat) => heap_down.l0 (n : Int) k s.1 (s.2 : Int)) FUEL (q, 0) = some (i, q') ∧ _
  refine loop_m (L := fun k (s : List Int × Nat) => heap_down.l0 (n : Int) k s.1 (s.2 : Int)) (fun s => DownI s.1 n s.2 ∧ s.1.Perm q ∧ (s.2 < n ∨ s.2 = 0) ∧ ∀ k, n ≤ k → hf s.1 k = hf q k) (fun s => n - s.2)
    (fun o => ∃ q' i, o = some (i, q') ∧ q'.Perm q ∧ Heap q' n ∧ ∀ k, n ≤ k → hf q' k = hf q k) ?_ FUEL (q, 0) ⟨h, List.Perm.refl _, .inr rfl, fun _ _ => rfl⟩ (FUEL_pos (by have := h.le; show n - 0 ≤ _; omega))
  rintro k ⟨q1, i⟩ ⟨hi, hp, hin, hk⟩
  simp only at hi hp hin hk ⊢
  have hlen := hp.length_eq
  have hle := hi.le
  rw [heap_down.l0]
  have e1 : wi (2 * (i : Int)) = ((2 * i : Nat) : Int) := by rw [wi_id (by omega) (by omega)]; omega
  have e2 : wi (((2 * i : Nat) : Int) + 1) = ((2 * i + 1 : Nat) : Int) := wi_succ (by omega)
  have e3 : wi (((2 * i + 1 : Nat) : Int) + 1) = ((2 * i + 2 : Nat) : Int) := wi_succ (by omega)
  rw [e1, e2, e3]
  by_cases hc : n ≤ 2 * i + 1
  · rw [if_pos (by simp; omega)]
    refine .inr ⟨q1, _, rfl, hp, fun k h0 h1 => ?_, hk⟩
    exact hi.a k h0 h1 (by omega)
  · rw [if_neg (by simp; omega)]
    -- the smaller child
    have hj : ∃ j, (j = 2 * i + 1 ∨ j = 2 * i + 2) ∧ j < n ∧ (∀ k, 0 < k → k < n → (k - 1) / 2 = i → hf q1 j ≤ hf q1 k) ∧
        ((if decide (((2 * i + 2 : Nat) : Int) < (n : Int)) = true then (depgraph_queue_Less.f q1 ((2 * i + 2 : Nat) : Int) ((2 * i + 1 : Nat) : Int)).bind fun r46 => some r46 else some false).bind fun t50 => if t50 = true then (some ((2 * i + 2 : Nat) : Int)) else (some ((2 * i + 1 : Nat) : Int)) : Option Int) = some (j : Int) := by
      by_cases h2 : 2 * i + 2 < n
      · rw [if_pos (by simp; omega), less_ok (by omega) (by omega)]
        simp only [Option.bind_some]
        by_cases h3 : hf q1 (2 * i + 2) < hf q1 (2 * i + 1)
        · refine ⟨2 * i + 2, .inr rfl, h2, fun k h0 h1 hk => ?_, by rw [decide_eq_true h3]; rfl⟩
          have : k = 2 * i + 1 ∨ k = 2 * i + 2 := by omega
          rcases this with rfl | rfl <;> omega
        · refine ⟨2 * i + 1, .inl rfl, by omega, fun k h0 h1 hk => ?_, by rw [decide_eq_false h3]; rfl⟩
          have : k = 2 * i + 1 ∨ k = 2 * i + 2 := by omega
          rcases this with rfl | rfl <;> omega
      · rw [if_neg (by simp; omega)]
        refine ⟨2 * i + 1, .inl rfl, by omega, fun k h0 h1 hk => ?_, rfl⟩
        have : k = 2 * i + 1 := by omega
        subst this; omega
    obtain ⟨j, hj1, hj2, hj3, hj4⟩ := hj
    rw [hj4]
    simp only [Option.bind_some]
    rw [less_ok (by omega) (by omega)]
    simp only [Option.bind_some]
    by_cases h5 : hf q1 j < hf q1 i
    · refine .inl ⟨(sw q1 i j, j), ⟨?_, (sw_perm (by omega) (by omega)).trans hp, .inl hj2, fun k hk' => ?_⟩, by show n - j < n - i; omega, ?_⟩
      · have hs := fun k => hf_sw (q := q1) (i := i) (j := j) (by omega) (by omega) k
        refine ⟨by rw [sw_length]; exact hle, fun k h0 h1 hk' => ?_, fun k h0 h1 hk' _ => ?_⟩
        · simp only at hk'
          rw [hs, hs, if_neg hk']
          by_cases e4 : (k - 1) / 2 = i
          · rw [if_pos e4]
            by_cases e5 : k = j
            · rw [if_pos e5]; omega
            · rw [if_neg e5, if_neg (by omega)]; exact hj3 k h0 h1 e4
          · rw [if_neg e4]
            by_cases e5 : k = j
            · omega
            · rw [if_neg e5]
              by_cases e6 : k = i
              · rw [if_pos e6]; subst e6
                exact hi.b j (by omega) hj2 (by omega) h0
              · rw [if_neg e6]; exact hi.a k h0 h1 e4
        · simp only at hk' ⊢
          rw [hs, hs, if_neg (by omega), if_pos (by omega), if_neg (by omega), if_neg (by omega)]
          have := hi.a k h0 h1 (by omega)
          rw [hk'] at this; exact this
      · simp only
        rw [hf_sw (by omega) (by omega), if_neg (by omega), if_neg (by omega)]; exact hk k hk'
      · rw [decide_eq_true h5]
        simp only [Bool.not_true, Bool.false_eq_true, if_false]
        rw [swap_ok (by omega) (by omega)]
        rfl
    · rw [decide_eq_false h5]
      refine .inr ⟨q1, _, rfl, hp, fun k h0 h1 => ?_, hk⟩
      by_cases e4 : (k - 1) / 2 = i
      · rw [e4]; have := hj3 k h0 h1 e4; omega
      · exact hi.a k h0 h1 e4

theorem pop_ok (q : List Int) (hl : q.length ≤ 4294967296) (h0 : 0 < q.length) (h : Heap q q.length) : ∃ q' x, heap_Pop.f ⟨q⟩ = some (⟨q'⟩, x) ∧ (x :: q').Perm q ∧ Heap q' q'.length ∧ ∀ y ∈ q, x ≤ y := by
  unfold heap_Pop.f depgraph_queue_Len.f heap_down.f depgraph_queue_Pop.f
  simp only [Option.bind_some]
  obtain ⟨n, hn⟩ : ∃ n, q.length = n + 1 := ⟨q.length - 1, by omega⟩
  have e : wi ((q.length : Int) - 1) = ((n : Nat) : Int) := by rw [wi_id (by omega) (by omega)]; omega
  rw [e, show (0 : Int) = ((0 : Nat) : Int) from rfl, swap_ok (by omega) (by omega)]
  simp only [Option.bind_some]
  have hs := fun k => hf_sw (q := q) (i := 0) (j := n) (by omega) (by omega) k
  obtain ⟨q', i, h1, h2, h3, h4⟩ := down_ok (sw q 0 n) n (by rw [sw_length]; exact hl) ⟨by rw [sw_length]; omega, fun k k0 k1 hk => by
    rw [hs, hs, if_neg (by omega), if_neg hk, if_neg (by omega), if_neg (by omega)]; exact h k k0 (by omega), fun k _ _ _ hh => by omega⟩
  have hlen : q'.length = n + 1 := by rw [h2.length_eq, sw_length]; exact hn
  simp only [Int.natCast_zero] at h1 ⊢
  rw [h1]
  simp only [Option.bind_some]
  have e2 : wi ((q'.length : Int) - 1) = ((n : Nat) : Int) := by rw [hlen, wi_id (by omega) (by omega)]; omega
  rw [e2, idx_hf (by omega)]
  have := slc_front (xs := q') (h := n) (by omega)
  rw [this]
  simp only [Option.bind_some]
  have hx : hf q' n = hf q 0 := by rw [h4 n (Nat.le_refl _), hs, if_pos rfl]
  have hdec : q' = q'.take n ++ [hf q' n] := by
    rw [hf_get (by omega)]
    have := List.take_append_drop n q'
    rw [List.drop_eq_getElem_cons (by omega), List.drop_of_length_le (by omega)] at this
    exact this.symm
  refine ⟨_, _, rfl, ?_, ?_, ?_⟩
  · have hp := h2.trans (sw_perm (q := q) (i := 0) (j := n) (by omega) (by omega))
    refine (List.perm_append_singleton _ _).symm.trans ?_
    rw [← hdec]; exact hp
  · intro k k0 k1
    rw [List.length_take, Nat.min_eq_left (by omega)] at k1
    have hh : ∀ k, k < n → hf (q'.take n) k = hf q' k := by
      intro k hk; rw [hf_get (by rw [List.length_take]; omega), hf_get (by omega)]; simp
    rw [hh _ (by omega), hh _ k1]
    exact h3 k k0 k1
  · intro y hy
    rw [hx]
    obtain ⟨k, hk, rfl⟩ := List.getElem_of_mem hy
    rw [← hf_get hk]
    exact h.min k hk

end Go.Proofs.Ytfhhklkmbcnhnaa.Sim

namespace Go.Proofs.Ytfhhklkmbcnhnaa.Sim
open Go
set_option linter.unusedVariables false

/-- A loop that looks for the first element with P. -/
theorem search_ok {α ρ : Type} {L : Nat → Int → Option (Fl ρ Unit)} (xs : List α) (P : α → Bool) (v : ρ) (hlen : xs.length ≤ maxLen)
    (hL : ∀ k (i : Nat), L (k + 1) (i : Int) = if decide ((i : Int) < (xs.length : Int)) = true then (idx xs (i : Int)).bind fun x => if P x = true then some (.out v) else L k (wi ((i : Int) + 1)) else some (.nxt ())) :
    L FUEL 0 = some (if xs.any P = true then .out v else .nxt ()) := by
  rw [maxLen_eq] at hlen
  refine loop_c (L := fun k (_ : Unit) i => L k i) xs.length (fun i _ => ∀ x ∈ xs.take i, P x = false) (fun o => o = some (if xs.any P = true then .out v else .nxt ())) ?_ ?_ FUEL 0 () (Nat.zero_le _) (FUEL_pos (by omega)) (by simp)
  · intro k s i hi hI
    simp only [hL]
    rw [if_pos (by simp; omega), idx_get hi]
    simp only [Option.bind_some]
    by_cases hp : P xs[i] = true
    · rw [if_pos hp]
      refine .inr ?_
      rw [if_pos (List.any_eq_true.2 ⟨_, List.getElem_mem hi, hp⟩)]
    · rw [if_neg hp]
      refine .inl ⟨(), ?_, by rw [wi_succ (by omega)]⟩
      intro x hx
      rw [List.take_succ_eq_append_getElem hi] at hx
      rcases List.mem_append.1 hx with h | h
      · exact hI x h
      · simp only [List.mem_singleton] at h; subst h; simpa using hp
  · intro k s hI
    simp only [hL]
    rw [if_neg (by simp)]
    rw [List.take_length] at hI
    rw [if_neg]
    intro h
    obtain ⟨x, h1, h2⟩ := List.any_eq_true.1 h
    rw [hI x h1] at h2; cases h2

/-! ### the checks -/

def badL (n : Int) (x : api_Link) : Bool := ((((decide (x.Consumer < 0)) || (decide (n ≤ x.Consumer))) || (decide (x.Supplier < 0))) || (decide (n ≤ x.Supplier)))
def vcode (n : Int) (ls : List api_Link) : Int :=
  if (((decide (n < 0)) || (decide (128 < n))) || (decide (1024 < (ls.length : Int)))) = true then 1 else if ls.any (badL n) = true then 1 else if ls.Nodup then 0 else 7

theorem nodup_take {α : Type} {xs : List α} (i : Nat) (h : xs.Nodup) : (xs.take i).Nodup := List.Sublist.nodup (List.take_sublist i xs) h

theorem nodup_step {α : Type} {xs : List α} {i : Nat} (hi : i < xs.length) (h : (xs.take i).Nodup) : (xs.take (i + 1)).Nodup ↔ xs[i] ∉ xs.take i := by
  rw [List.take_succ_eq_append_getElem hi, List.nodup_append]
  constructor
  · rintro ⟨_, _, h3⟩ hm
    exact h3 _ hm _ (by simp) rfl
  · intro hm
    refine ⟨h, by simp, fun a ha b hb => ?_⟩
    simp only [List.mem_singleton] at hb
    subst hb
    exact fun e => hm (e ▸ ha)

theorem validate_ok (n : Int) (ls : List api_Link) (h : ls.length ≤ maxLen) : depgraph_validate.f n ls = some (vcode n ls) := by
  unfold depgraph_validate.f vcode
  by_cases h0 : (((decide (n < 0)) || (decide (128 < n))) || (decide (1024 < (ls.length : Int)))) = true
  · rw [if_pos h0, if_pos h0]
  · rw [if_neg h0, if_neg h0]
    have hlen : ls.length ≤ 1024 := by simp at h0; omega
    rw [search_ok (L := depgraph_validate.l0 n ls) ls (badL n) 1 h (fun k i => by rw [depgraph_validate.l0]; rfl)]
    by_cases hb : ls.any (badL n) = true
    · rw [if_pos hb, if_pos hb]; rfl
    · rw [if_neg hb, if_neg hb]
      simp only [Option.bind_some, Fl.go]
      have key : depgraph_validate.l1 ls FUEL [] 0 = some (if ls.Nodup then .nxt () else .out 7) := by
        refine loop_c (L := fun k (s : List api_Link) i => depgraph_validate.l1 ls k s i) ls.length (fun i s => s = ls.take i ∧ (ls.take i).Nodup) (fun o => o = some (if ls.Nodup then .nxt () else .out 7)) ?_ ?_ FUEL 0 [] (Nat.zero_le _) (FUEL_pos (by omega)) (by simp)
        · rintro k s i hi ⟨rfl, hI⟩
          rw [depgraph_validate.l1, if_pos (by simp; omega), idx_get hi]
          simp only [Option.bind_some]
          by_cases hm : ls[i] ∈ ls.take i
          · rw [if_pos (by simpa using hm)]
            refine .inr ?_
            rw [if_neg (fun hn => (nodup_step hi hI).1 (nodup_take (i + 1) hn) hm)]
          · rw [if_neg (by simpa using hm)]
            refine .inl ⟨_, ⟨?_, (nodup_step hi hI).2 hm⟩, by rw [wi_succ (by omega)]⟩
            rw [List.take_succ_eq_append_getElem hi]
        · rintro k s ⟨rfl, hI⟩
          rw [depgraph_validate.l1, if_neg (by simp)]
          rw [List.take_length] at hI
          rw [if_pos hI]
      rw [key]
      by_cases hn : ls.Nodup
      · rw [if_pos hn, if_pos hn]; rfl
      · rw [if_neg hn, if_neg hn]; rfl

/-- What the checks let pass. -/
structure GoodG (n : Nat) (ls : List api_Link) : Prop where
  n128 : n ≤ 128
  len : ls.length ≤ 1024
  c0 : ∀ l ∈ ls, 0 ≤ l.Consumer ∧ l.Consumer < n
  s0 : ∀ l ∈ ls, 0 ≤ l.Supplier ∧ l.Supplier < n
  nodup : ls.Nodup

theorem vcode_good {p : Int} {ls : List api_Link} (h : vcode p ls = 0) : ∃ n : Nat, p = n ∧ GoodG n ls := by
  unfold vcode at h
  split at h
  · cases h
  · rename_i h0
    simp only [Bool.or_eq_true, decide_eq_true_eq, not_or] at h0
    split at h
    · cases h
    · rename_i hb
      split at h
      · rename_i hn
        refine ⟨p.toNat, by omega, by omega, by omega, fun l hl => ?_, fun l hl => ?_, hn⟩
        all_goals
          have : badL p l = false := by
            rw [Bool.not_eq_true, List.any_eq_false] at hb
            simpa using hb l hl
          simp [badL] at this
          omega
      · cases h
theorem good_vcode {n : Nat} {ls : List api_Link} (g : GoodG n ls) : vcode n ls = 0 := by
  unfold vcode
  rw [if_neg (by have := g.n128; have := g.len; simp; omega), if_neg, if_pos g.nodup]
  rw [Bool.not_eq_true, List.any_eq_false]
  intro l hl
  have := g.c0 l hl
  have := g.s0 l hl
  simp [badL]; omega

/-! ### the graphs of the statements -/

theorem mod_ok {x n : Int} (h0 : 0 < n) (h1 : n < 9223372036854775808) : ∃ r, help_Mod.f x n = some r ∧ 0 ≤ r ∧ r < n := by
  have hn := wu_id (x := n) (by omega) (by omega)
  have hx := wu_range x
  refine ⟨wi (Int.tmod (wu x) (wu n)), by unfold help_Mod.f; rw [if_neg (by rw [hn]; omega)], ?_⟩
  rw [hn, Int.tmod_eq_emod_of_nonneg hx.1]
  have h2 := Int.emod_nonneg (wu x) (show n ≠ 0 by omega)
  have h3 := Int.emod_lt_of_pos (wu x) h0
  rw [wi_id (by omega) (by omega)]
  exact ⟨h2, h3⟩

end Go.Proofs.Ytfhhklkmbcnhnaa.Sim

namespace Go.Proofs.Ytfhhklkmbcnhnaa.Sim
open Go
set_option linter.unusedVariables false

/-! ### consumers and counts -/

def consOf (ls : List api_Link) (s : Int) : List Int := (ls.filter (fun l => l.Supplier == s)).map (·.Consumer)
def rem (ls : List api_Link) (out : List Int) (c : Int) : Nat := ls.countP (fun l => (l.Consumer == c) && decide (l.Supplier ∉ out))

theorem mem_consOf {ls : List api_Link} {s c : Int} : c ∈ consOf ls s ↔ api_Link.mk c s ∈ ls := by
  unfold consOf
  simp only [List.mem_map, List.mem_filter, beq_iff_eq]
  constructor
  · rintro ⟨l, ⟨h1, h2⟩, rfl⟩; subst h2; exact h1
  · intro h; exact ⟨_, ⟨h, rfl⟩, rfl⟩

theorem rem_split {out : List Int} {x : Int} (hx : x ∉ out) : ∀ (ls : List api_Link) (c : Int), rem ls out c = rem ls (out ++ [x]) c + (consOf ls x).count c
  | [], c => by simp [rem, consOf]
  | l :: t, c => by
    have ih := rem_split hx t c
    unfold rem consOf at ih ⊢
    simp only [List.countP_cons, List.filter_cons]
    by_cases h1 : l.Consumer = c <;> by_cases h2 : l.Supplier = x <;> by_cases h4 : l.Supplier ∈ out <;> grind

theorem consOf_snoc (ls : List api_Link) (l : api_Link) (s : Int) : consOf (ls ++ [l]) s = if l.Supplier = s then consOf ls s ++ [l.Consumer] else consOf ls s := by
  unfold consOf
  by_cases h : l.Supplier = s <;> simp [List.filter_append, h]
theorem rem_snoc (ls : List api_Link) (l : api_Link) (c : Int) : rem (ls ++ [l]) [] c = rem ls [] c + if l.Consumer = c then 1 else 0 := by
  unfold rem
  by_cases h : l.Consumer = c <;> simp [List.countP_append, h]
theorem rem_le (ls : List api_Link) (out : List Int) (c : Int) : rem ls out c ≤ ls.length := List.countP_le_length
theorem consOf_le (ls : List api_Link) (s : Int) : (consOf ls s).length ≤ ls.length := by
  unfold consOf; rw [List.length_map]; exact List.length_filter_le _ _

theorem adjacent_ok {n : Nat} {ls : List api_Link} (g : GoodG n ls) : ∃ adj cnt, depgraph_adjacent.f (n : Int) ls = some (adj, cnt) ∧ adj.length = n ∧ cnt.length = n ∧ ∀ v, 0 ≤ v → v < (n : Int) → idx adj v = some (consOf ls v) ∧ idx cnt v = some (rem ls [] v : Int) := by
  have hn := g.n128
  have hl := g.len
  unfold depgraph_adjacent.f
  rw [mk_ok (by omega), mk_ok (by omega)]
  simp only [Option.bind_some]
  have key : ∃ adj cnt, depgraph_adjacent.l0 ls FUEL (List.replicate n []) (List.replicate n 0) 0 = some (adj, cnt) ∧ adj.length = n ∧ cnt.length = n ∧ ∀ v, 0 ≤ v → v < (n : Int) → idx adj v = some (consOf ls v) ∧ idx cnt v = some (rem ls [] v : Int) := by
    refine loop_c (L := fun k (s : List (List Int) × List Int) i => depgraph_adjacent.l0 ls k s.1 s.2 i) ls.length (fun i s => s.1.length = n ∧ s.2.length = n ∧ ∀ v, 0 ≤ v → v < (n : Int) → idx s.1 v = some (consOf (ls.take i) v) ∧ idx s.2 v = some (rem (ls.take i) [] v : Int))
      (fun o => ∃ adj cnt, o = some (adj, cnt) ∧ adj.length = n ∧ cnt.length = n ∧ ∀ v, 0 ≤ v → v < (n : Int) → idx adj v = some (consOf ls v) ∧ idx cnt v = some (rem ls [] v : Int)) ?_ ?_ FUEL 0 (_, _) (Nat.zero_le _) (FUEL_pos (by omega)) ?_
    · rintro k ⟨adj, cnt⟩ i hi ⟨h1, h2, h3⟩
      simp only at h1 h2 h3 ⊢
      have hm := List.getElem_mem hi
      have hc := g.c0 _ hm
      have hs := g.s0 _ hm
      rw [depgraph_adjacent.l0, if_pos (by simp; omega), idx_get hi]
      simp only [Option.bind_some]
      have hcl := consOf_le (ls.take i) ls[i].Supplier
      rw [List.length_take] at hcl
      have hrl := rem_le (ls.take i) [] ls[i].Consumer
      rw [List.length_take] at hrl
      rw [(h3 _ hs.1 hs.2).1]
      simp only [Option.bind_some]
      rw [app_ok (by simp only [List.length_singleton]; omega)]
      simp only [Option.bind_some]
      rw [(h3 _ hc.1 hc.2).2]
      simp only [Option.bind_some]
      refine .inl ⟨(upd adj ls[i].Supplier (consOf (ls.take i) ls[i].Supplier ++ [ls[i].Consumer]), upd cnt ls[i].Consumer ((rem (ls.take i) [] ls[i].Consumer + 1 : Nat) : Int)), ?_, by rw [wi_succ (by omega), wi_succ (by omega)]⟩
      refine ⟨by rw [upd_length]; exact h1, by rw [upd_length]; exact h2, fun v v0 v1 => ?_⟩
      rw [idx_upd (xs := adj) hs.1 v0 (by omega), idx_upd (xs := cnt) hc.1 v0 (by omega), List.take_succ_eq_append_getElem hi, consOf_snoc, rem_snoc]
      obtain ⟨q1, q2⟩ := h3 v v0 v1
      constructor
      · by_cases e : ls[i].Supplier = v
        · subst e; rw [if_pos rfl, if_pos rfl]
        · rw [if_neg e, if_neg e]; exact q1
      · by_cases e : ls[i].Consumer = v
        · subst e; rw [if_pos rfl, if_pos rfl]
        · rw [if_neg e, if_neg e]; exact q2
    · rintro k ⟨adj, cnt⟩ ⟨h1, h2, h3⟩
      simp only at h1 h2 h3 ⊢
      rw [depgraph_adjacent.l0, if_neg (by simp)]
      rw [List.take_length] at h3
      exact ⟨adj, cnt, rfl, h1, h2, h3⟩
    · refine ⟨by simp, by simp, fun v v0 v1 => ?_⟩
      simp only
      rw [idx_replicate v0 v1, idx_replicate v0 v1]
      simp [consOf, rem]
  obtain ⟨adj, cnt, h1, h2⟩ := key
  rw [h1]
  exact ⟨adj, cnt, rfl, h2⟩

/-! ### the order -/

def free (ls : List api_Link) (out : List Int) (v : Int) : Bool := decide (v ∉ out) && ls.all (fun l => !(l.Consumer == v) || decide (l.Supplier ∈ out))
def least (n : Nat) (ls : List api_Link) (out : List Int) : Option Int := (below n).find? (free ls out)

theorem free_iff {ls : List api_Link} {out : List Int} {v : Int} : free ls out v = true ↔ v ∉ out ∧ ∀ l ∈ ls, l.Consumer = v → l.Supplier ∈ out := by
  unfold free
  simp only [Bool.and_eq_true, decide_eq_true_eq, List.all_eq_true, Bool.or_eq_true, Bool.not_eq_true', beq_eq_false_iff_ne, ne_eq]
  constructor
  · rintro ⟨h1, h2⟩; exact ⟨h1, fun l hl e => (h2 l hl).resolve_left (fun h => h e)⟩
  · rintro ⟨h1, h2⟩; exact ⟨h1, fun l hl => by by_cases e : l.Consumer = v <;> simp [e, h2 l hl]⟩

theorem free_rem {ls : List api_Link} {out : List Int} {v : Int} : free ls out v = true ↔ v ∉ out ∧ rem ls out v = 0 := by
  rw [free_iff]
  unfold rem
  rw [List.countP_eq_zero]
  simp only [Bool.and_eq_true, beq_iff_eq, decide_eq_true_eq, not_and, Decidable.not_not]

theorem find_below (P : Int → Bool) : ∀ (n : Nat), ((∀ u : Int, 0 ≤ u → u < n → P u = false) ∧ (below n).find? P = none) ∨ ∃ v : Int, 0 ≤ v ∧ v < n ∧ P v = true ∧ (∀ u : Int, 0 ≤ u → u < v → P u = false) ∧ (below n).find? P = some v
  | 0 => .inl ⟨fun u h0 h1 => by omega, by simp [below]⟩
  | n + 1 => by
    rw [below_succ, List.find?_append]
    rcases find_below P n with ⟨h1, h2⟩ | ⟨v, h1, h2, h3, h4, h5⟩
    · rw [h2]
      by_cases hp : P (n : Int) = true
      · exact .inr ⟨n, by omega, by omega, hp, h1, by simp [hp]⟩
      · refine .inl ⟨fun u h0 h3 => ?_, by simp [hp]⟩
        by_cases e : u = n
        · subst e; simpa using hp
        · exact h1 u h0 (by omega)
    · exact .inr ⟨v, h1, by omega, h3, h4, by rw [h5]; rfl⟩

theorem least_of {n : Nat} {ls : List api_Link} {out : List Int} {v : Int} (h0 : 0 ≤ v) (h1 : v < n) (h2 : free ls out v = true) (h3 : ∀ u, 0 ≤ u → u < v → free ls out u = false) : least n ls out = some v := by
  rcases find_below (free ls out) n with ⟨h4, h5⟩ | ⟨u, h4, h5, h6, h7, h8⟩
  · rw [h4 v h0 h1] at h2; cases h2
  · have : u = v := by
      rcases Int.lt_trichotomy u v with h | h | h
      · rw [h3 u h4 h] at h6; cases h6
      · exact h
      · rw [h7 v h0 h] at h2; cases h2
    subst this; exact h8
theorem least_some {n : Nat} {ls : List api_Link} {out : List Int} {v : Int} (h : least n ls out = some v) : 0 ≤ v ∧ v < n ∧ free ls out v = true ∧ ∀ u, 0 ≤ u → u < v → free ls out u = false := by
  rcases find_below (free ls out) n with ⟨h4, h5⟩ | ⟨u, h4, h5, h6, h7, h8⟩
  · unfold least at h; rw [h5] at h; cases h
  · unfold least at h; rw [h8] at h; injection h with h; subst h; exact ⟨h4, h5, h6, h7⟩
theorem least_none {n : Nat} {ls : List api_Link} {out : List Int} : least n ls out = none ↔ ∀ u : Int, 0 ≤ u → u < n → free ls out u = false := by
  rcases find_below (free ls out) n with ⟨h4, h5⟩ | ⟨u, h4, h5, h6, h7, h8⟩
  · exact ⟨fun _ => h4, fun _ => h5⟩
  · refine ⟨fun h => ?_, fun h => ?_⟩
    · unfold least at h; rw [h8] at h; cases h
    · rw [h u h4 h5] at h6; cases h6

inductive Run (n : Nat) (ls : List api_Link) : List Int → Prop where
  | nil : Run n ls []
  | snoc {out : List Int} {v : Int} (h : Run n ls out) (hv : least n ls out = some v) : Run n ls (out ++ [v])

theorem Run.facts {n : Nat} {ls : List api_Link} {out : List Int} (h : Run n ls out) : out.Nodup ∧ (∀ v ∈ out, 0 ≤ v ∧ v < n) ∧ ∀ l ∈ ls, l.Consumer ∈ out → l.Supplier ∈ out := by
  induction h with
  | nil => simp
  | @snoc out v h hv ih =>
    obtain ⟨h1, h2, h3⟩ := ih
    obtain ⟨h4, h5, h6, h7⟩ := least_some hv
    obtain ⟨h8, h9⟩ := free_iff.1 h6
    refine ⟨?_, fun u hu => ?_, fun l hl hc => ?_⟩
    · rw [List.nodup_append]
      refine ⟨h1, by simp, fun a ha b hb => ?_⟩
      simp only [List.mem_singleton] at hb
      subst hb
      exact fun e => h8 (e ▸ ha)
    · rcases List.mem_append.1 hu with hu | hu
      · exact h2 u hu
      · simp only [List.mem_singleton] at hu; subst hu; exact ⟨h4, h5⟩
    · rcases List.mem_append.1 hc with hc | hc
      · exact List.mem_append.2 (.inl (h3 l hl hc))
      · simp only [List.mem_singleton] at hc
        exact List.mem_append.2 (.inl (h9 l hl hc))
theorem Run.length_le {n : Nat} {ls : List api_Link} {out : List Int} (h : Run n ls out) : out.length ≤ n := by
  have := nodup_le h.facts.1 (fun x hx => mem_below.2 (h.facts.2.1 x hx))
  rwa [below_length] at this

def greedy (n : Nat) (ls : List api_Link) : Nat → List Int → List Int
  | 0, out => out
  | k + 1, out => match least n ls out with
    | none => out
    | some v => greedy n ls k (out ++ [v])
def ord (n : Nat) (ls : List api_Link) : List Int := greedy n ls (n + 1) []

theorem Run.greedy {n : Nat} {ls : List api_Link} {out : List Int} (h : Run n ls out) (k : Nat) : Sim.greedy n ls (k + out.length) [] = Sim.greedy n ls k out := by
  induction h generalizing k with
  | nil => rfl
  | @snoc out v h hv ih =>
    have := ih (k + 1)
    rw [show k + 1 + out.length = k + (out ++ [v]).length from by simp; omega] at this
    rw [this, Sim.greedy, hv]
theorem Run.ord {n : Nat} {ls : List api_Link} {out : List Int} (h : Run n ls out) (hn : least n ls out = none) : out = Sim.ord n ls := by
  have h1 := h.length_le
  have h2 := h.greedy (n + 1 - out.length)
  rw [show n + 1 - out.length + out.length = n + 1 from by omega] at h2
  unfold Sim.ord
  rw [h2, show n + 1 - out.length = (n - out.length) + 1 from by omega, Sim.greedy, hn]
theorem greedy_run {n : Nat} {ls : List api_Link} : ∀ (k : Nat) (out : List Int), Run n ls out → n < k + out.length → Run n ls (greedy n ls k out) ∧ least n ls (greedy n ls k out) = none
  | 0, out, h, hk => by have := h.length_le; omega
  | k + 1, out, h, hk => by
    rw [greedy]
    split
    · rename_i hn; exact ⟨h, hn⟩
    · rename_i v hv; exact greedy_run k _ (h.snoc hv) (by simp; omega)
theorem ord_run (n : Nat) (ls : List api_Link) : Run n ls (ord n ls) ∧ least n ls (ord n ls) = none := greedy_run _ _ .nil (by simp)
/-! ### the program's way -/

structure Que (n : Nat) (q : List Int) (P : Int → Prop) : Prop where
  heap : Heap q q.length
  nodup : q.Nodup
  mem : ∀ v, v ∈ q ↔ 0 ≤ v ∧ v < (n : Int) ∧ P v

theorem Que.len {n : Nat} {q : List Int} {P : Int → Prop} (h : Que n q P) : q.length ≤ n := by
  have := nodup_le h.nodup (fun x hx => mem_below.2 ⟨((h.mem x).1 hx).1, ((h.mem x).1 hx).2.1⟩)
  rwa [below_length] at this
theorem Que.congr {n : Nat} {q : List Int} {P Q : Int → Prop} (h : Que n q P) (hpq : ∀ v, 0 ≤ v → v < (n : Int) → (P v ↔ Q v)) : Que n q Q :=
  ⟨h.heap, h.nodup, fun v => by rw [h.mem]; constructor <;> rintro ⟨a, b, c⟩; exact ⟨a, b, (hpq v a b).1 c⟩; exact ⟨a, b, (hpq v a b).2 c⟩⟩
theorem Que.push {n : Nat} {q : List Int} {P : Int → Prop} (h : Que n q P) (hn : n ≤ 128) {x : Int} (h0 : 0 ≤ x) (h1 : x < n) (hx : ¬ P x) : ∃ q', heap_Push.f ⟨q⟩ x = some ⟨q'⟩ ∧ Que n q' (fun v => v = x ∨ P v) := by
  have hl := h.len
  obtain ⟨q', e, hp, hh⟩ := push_ok q x (by omega) h.heap
  refine ⟨q', e, hh, ?_, fun v => ?_⟩
  · rw [hp.nodup_iff, List.nodup_cons]
    exact ⟨fun hm => hx ((h.mem x).1 hm).2.2, h.nodup⟩
  · rw [hp.mem_iff, List.mem_cons, h.mem]
    constructor
    · rintro (rfl | ⟨a, b, c⟩)
      · exact ⟨h0, h1, .inl rfl⟩
      · exact ⟨a, b, .inr c⟩
    · rintro ⟨a, b, rfl | c⟩
      · exact .inl rfl
      · exact .inr ⟨a, b, c⟩

theorem sort_l0 {n : Nat} (hn : n ≤ 128) {adj : List (List Int)} {cnt : List Int} (hc : cnt.length = n) : ∃ q, depgraph_sort.l0 (adj, cnt) FUEL [] 0 = some q ∧ Que n q (fun v => idx cnt v = some 0) := by
  refine loop_c (L := fun k (s : List Int) i => depgraph_sort.l0 (adj, cnt) k s i) n (fun i s => Que n s (fun v => v < (i : Int) ∧ idx cnt v = some 0)) (fun o => ∃ q, o = some q ∧ Que n q (fun v => idx cnt v = some 0)) ?_ ?_ FUEL 0 [] (Nat.zero_le _) (FUEL_pos (by omega)) ⟨fun k h0 h1 => by simp at h1, by simp, fun v => by simp; omega⟩
  · rintro k s i hi hq
    rw [depgraph_sort.l0, if_pos (by show decide ((i : Int) < (cnt.length : Int)) = true; simp; omega), idx_get (xs := cnt) (by omega)]
    simp only [Option.bind_some]
    by_cases e : cnt[i] = 0
    · rw [if_pos (by simp [e])]
      obtain ⟨q', h1, h2⟩ := hq.push hn (x := (i : Int)) (by omega) (by omega) (fun h => by omega)
      rw [h1]
      refine .inl ⟨q', h2.congr (fun v v0 v1 => ?_), by rw [wi_succ (by omega)]; rfl⟩
      constructor
      · rintro (rfl | ⟨h3, h4⟩)
        · exact ⟨by omega, by rw [idx_get (by omega), e]⟩
        · exact ⟨by omega, h4⟩
      · rintro ⟨h3, h4⟩
        by_cases e2 : v = i
        · exact .inl e2
        · exact .inr ⟨by omega, h4⟩
    · rw [if_neg (by simp [e])]
      refine .inl ⟨s, hq.congr (fun v v0 v1 => ?_), by rw [wi_succ (by omega)]; rfl⟩
      constructor
      · rintro ⟨h3, h4⟩; exact ⟨by omega, h4⟩
      · rintro ⟨h3, h4⟩
        by_cases e2 : v = i
        · subst e2; rw [idx_get (by omega)] at h4; injection h4 with h4; exact absurd h4 e
        · exact ⟨by omega, h4⟩
  · rintro k s hq
    rw [depgraph_sort.l0, if_neg (by simp only [decide_eq_true_eq]; omega)]
    exact ⟨s, rfl, hq.congr (fun v v0 v1 => ⟨fun h => h.2, fun h => ⟨v1, h⟩⟩)⟩

theorem sort_l2 {n : Nat} {ls : List api_Link} (g : GoodG n ls) {out : List Int} (hr : Run n ls out) {x : Int} (hx : least n ls out = some x) {cnt q : List Int} (hc : cnt.length = n) (hcv : ∀ v : Int, 0 ≤ v → v < n → idx cnt v = some (rem ls out v : Int)) (hq : Que n q (fun v => v ∉ out ++ [x] ∧ idx cnt v = some 0)) :
    ∃ cnt' q', depgraph_sort.l2 (out ++ [x]) (consOf ls x) FUEL cnt q 0 = some (.nxt (cnt', q', out ++ [x])) ∧ cnt'.length = n ∧ (∀ v : Int, 0 ≤ v → v < n → idx cnt' v = some (rem ls (out ++ [x]) v : Int)) ∧ Que n q' (fun v => v ∉ out ++ [x] ∧ idx cnt' v = some 0) := by
  have hn := g.n128
  have hl := g.len
  have hcl := consOf_le ls x
  obtain ⟨x0, x1, hfree, _⟩ := least_some hx
  obtain ⟨hxo, hxs⟩ := free_iff.1 hfree
  have hmem : ∀ c ∈ consOf ls x, (0 ≤ c ∧ c < n) ∧ c ∉ out ++ [x] := by
    intro c hc
    have hm := mem_consOf.1 hc
    refine ⟨g.c0 _ hm, fun h => ?_⟩
    rcases List.mem_append.1 h with h | h
    · exact hxo (hr.facts.2.2 _ hm h)
    · simp only [List.mem_singleton] at h
      exact hxo (hxs _ hm h)
  refine loop_c (L := fun k (s : List Int × List Int) i => depgraph_sort.l2 (out ++ [x]) (consOf ls x) k s.1 s.2 i) (consOf ls x).length
    (fun i s => s.1.length = n ∧ (∀ v : Int, 0 ≤ v → v < n → idx s.1 v = some ((rem ls (out ++ [x]) v + ((consOf ls x).drop i).count v : Nat) : Int)) ∧ Que n s.2 (fun v => v ∉ out ++ [x] ∧ idx s.1 v = some 0))
    (fun o => ∃ cnt' q', o = some (.nxt (cnt', q', out ++ [x])) ∧ cnt'.length = n ∧ (∀ v : Int, 0 ≤ v → v < n → idx cnt' v = some (rem ls (out ++ [x]) v : Int)) ∧ Que n q' (fun v => v ∉ out ++ [x] ∧ idx cnt' v = some 0)) ?_ ?_ FUEL 0 (cnt, q) (Nat.zero_le _) (FUEL_pos (by omega)) ⟨hc, fun v v0 v1 => by rw [hcv v v0 v1, rem_split hxo]; rfl, hq⟩
  · rintro k ⟨cn, qq⟩ i hi ⟨i1, i2, i3⟩
    simp only at i1 i2 i3 ⊢
    obtain ⟨⟨c0, c1⟩, co⟩ := hmem _ (List.getElem_mem hi)
    rw [depgraph_sort.l2, if_pos (by simp; omega), idx_get hi]
    simp only [Option.bind_some]
    generalize hcc : (consOf ls x)[i] = c at *
    have hdrop : (consOf ls x).drop i = c :: (consOf ls x).drop (i + 1) := by rw [List.drop_eq_getElem_cons hi, hcc]
    have hcur := i2 c c0 c1
    have hrle := rem_le ls (out ++ [x]) c
    have hcle : ((consOf ls x).drop (i + 1)).count c ≤ (consOf ls x).length := Nat.le_trans List.count_le_length (by simp)
    rw [hdrop, List.count_cons_self] at hcur
    rw [hcur]
    simp only [Option.bind_some]
    have e1 : wi (((rem ls (out ++ [x]) c + (((consOf ls x).drop (i + 1)).count c + 1) : Nat) : Int) - 1) = ((rem ls (out ++ [x]) c + ((consOf ls x).drop (i + 1)).count c : Nat) : Int) := by
      rw [wi_id (by omega) (by omega)]; omega
    rw [e1]
    have hnew : ∀ v : Int, 0 ≤ v → v < n → idx (upd cn c ((rem ls (out ++ [x]) c + ((consOf ls x).drop (i + 1)).count c : Nat) : Int)) v = some ((rem ls (out ++ [x]) v + ((consOf ls x).drop (i + 1)).count v : Nat) : Int) := by
      intro v v0 v1
      rw [idx_upd (xs := cn) c0 v0 (by omega)]
      by_cases e : c = v
      · subst e; rw [if_pos rfl]
      · rw [if_neg e, i2 v v0 v1, hdrop, List.count_cons_of_ne e]
    rw [hnew c c0 c1]
    simp only [Option.bind_some]
    have hne : ∀ v, v ≠ c → 0 ≤ v → v < (n : Int) → (idx (upd cn c ((rem ls (out ++ [x]) c + ((consOf ls x).drop (i + 1)).count c : Nat) : Int)) v = some 0 ↔ idx cn v = some 0) := by
      intro v hv v0 v1
      rw [idx_upd (xs := cn) c0 v0 (by omega), if_neg (fun e => hv e.symm)]
    have hpos : idx cn c ≠ some 0 := by
      rw [hcur]; intro h; injection h with h; omega
    by_cases hz : (rem ls (out ++ [x]) c + ((consOf ls x).drop (i + 1)).count c) = 0
    · rw [if_pos (by rw [hz]; rfl)]
      obtain ⟨q', p1, p2⟩ := i3.push hn c0 c1 (fun h => hpos h.2)
      rw [p1]
      refine .inl ⟨(upd cn c ((rem ls (out ++ [x]) c + ((consOf ls x).drop (i + 1)).count c : Nat) : Int), q'), ⟨by rw [upd_length]; exact i1, hnew, p2.congr (fun v v0 v1 => ?_)⟩, by rw [wi_succ (by omega)]; rfl⟩
      by_cases e : v = c
      · subst e
        refine ⟨fun _ => ⟨co, by rw [hnew v c0 c1, hz]; rfl⟩, fun _ => .inl rfl⟩
      · constructor
        · rintro (h | ⟨h1, h2⟩)
          · exact absurd h e
          · exact ⟨h1, (hne v e v0 v1).2 h2⟩
        · rintro ⟨h1, h2⟩; exact .inr ⟨h1, (hne v e v0 v1).1 h2⟩
    · rw [if_neg (by simp only [beq_iff_eq]; omega)]
      refine .inl ⟨(upd cn c ((rem ls (out ++ [x]) c + ((consOf ls x).drop (i + 1)).count c : Nat) : Int), qq), ⟨by rw [upd_length]; exact i1, hnew, i3.congr (fun v v0 v1 => ?_)⟩, by rw [wi_succ (by omega)]; rfl⟩
      by_cases e : v = c
      · subst e
        refine ⟨fun h => absurd h.2 hpos, fun h => ?_⟩
        have h2 := h.2
        rw [hnew v c0 c1] at h2
        injection h2 with h2; omega
      · exact ⟨fun h => ⟨h.1, (hne v e v0 v1).2 h.2⟩, fun h => ⟨h.1, (hne v e v0 v1).1 h.2⟩⟩
  · rintro k ⟨cn, qq⟩ ⟨i1, i2, i3⟩
    simp only at i1 i2 i3 ⊢
    rw [depgraph_sort.l2, if_neg (by simp)]
    refine ⟨cn, qq, rfl, i1, fun v v0 v1 => ?_, i3⟩
    rw [i2 v v0 v1, List.drop_length]; rfl

theorem sort_ok {n : Nat} {ls : List api_Link} (g : GoodG n ls) : depgraph_sort.f (n : Int) ls = some (ord n ls) := by
  have hn := g.n128
  unfold depgraph_sort.f
  obtain ⟨adj, cnt, ha, hal, hcl, hac⟩ := adjacent_ok g
  rw [ha]
  simp only [Option.bind_some]
  obtain ⟨q, h1, h2⟩ := sort_l0 (n := n) hn (adj := adj) (cnt := cnt) hcl
  rw [h1]
  simp only [Option.bind_some]
  have key : depgraph_sort.l1 (adj, cnt) FUEL cnt q [] = some (ord n ls) := by
    refine loop_m (L := fun k (s : List Int × List Int × List Int) => depgraph_sort.l1 (adj, cnt) k s.1 s.2.1 s.2.2) (fun s => Run n ls s.2.2 ∧ s.1.length = n ∧ (∀ v : Int, 0 ≤ v → v < n → idx s.1 v = some (rem ls s.2.2 v : Int)) ∧ Que n s.2.1 (fun v => v ∉ s.2.2 ∧ idx s.1 v = some 0))
      (fun s => n - s.2.2.length) (fun o => o = some (ord n ls)) ?_ FUEL (cnt, q, []) ⟨.nil, hcl, fun v v0 v1 => (hac v v0 v1).2, h2.congr (fun v _ _ => by simp)⟩ (FUEL_pos (by show n - 0 ≤ _; omega))
    rintro k ⟨cn, qq, out⟩ ⟨i1, i2, i3, i4⟩
    simp only at i1 i2 i3 i4 ⊢
    have hlen := i1.length_le
    have hql := i4.len
    have hiff : ∀ v : Int, 0 ≤ v → v < n → ((v ∉ out ∧ idx cn v = some 0) ↔ free ls out v = true) := by
      intro v v0 v1
      rw [free_rem, i3 v v0 v1]
      constructor
      · rintro ⟨h1, h2⟩; injection h2 with h2; exact ⟨h1, by omega⟩
      · rintro ⟨h1, h2⟩; exact ⟨h1, by rw [h2]; rfl⟩
    rw [depgraph_sort.l1]
    by_cases h0 : 0 < qq.length
    · rw [if_pos (by simp; omega)]
      obtain ⟨q', x, p1, p2, p3, p4⟩ := pop_ok qq (by omega) h0 i4.heap
      rw [p1]
      simp only [Option.bind_some, Bool.not_true, Bool.false_eq_true, if_false]
      have hxq : x ∈ qq := p2.mem_iff.1 (List.mem_cons_self ..)
      obtain ⟨x0, x1, hxf⟩ := (i4.mem x).1 hxq
      have hx : least n ls out = some x := least_of x0 x1 ((hiff x x0 x1).1 hxf) (fun u u0 ux => by
        rw [Bool.eq_false_iff]
        intro hf
        have := p4 u ((i4.mem u).2 ⟨u0, by omega, (hiff u u0 (by omega)).2 hf⟩)
        omega)
      rw [app_ok (by simp; omega)]
      simp only [Option.bind_some]
      rw [(hac x x0 x1).1]
      simp only [Option.bind_some]
      have hnd : (x :: q').Nodup := p2.nodup_iff.2 i4.nodup
      rw [List.nodup_cons] at hnd
      obtain ⟨cnt', q2, r1, r2, r3, r4⟩ := sort_l2 g i1 hx i2 i3 (q := q') ⟨p3, hnd.2, fun v => by
        have hv := i4.mem v
        rw [← p2.mem_iff, List.mem_cons] at hv
        constructor
        · intro hm
          obtain ⟨v0, v1, v2, v3⟩ := hv.1 (.inr hm)
          refine ⟨v0, v1, fun h => ?_, v3⟩
          rcases List.mem_append.1 h with h | h
          · exact v2 h
          · simp only [List.mem_singleton] at h; subst h; exact hnd.1 hm
        · rintro ⟨v0, v1, v2, v3⟩
          rw [List.mem_append, List.mem_singleton, not_or] at v2
          exact (hv.2 ⟨v0, v1, v2.1, v3⟩).resolve_left v2.2⟩
      rw [r1]
      have hr' := i1.snoc hx
      have := hr'.length_le
      simp only [List.length_append, List.length_singleton] at this
      exact .inl ⟨(cnt', q2, out ++ [x]), ⟨hr', r2, r3, r4⟩, by simp; omega, rfl⟩
    · rw [if_neg (by simp only [decide_eq_true_eq]; omega)]
      have hq0 : qq = [] := List.eq_nil_of_length_eq_zero (by omega)
      subst hq0
      refine .inr ?_
      have := i1.ord (least_none.2 (fun u u0 u1 => by
        rw [Bool.eq_false_iff]
        intro hf
        have := (i4.mem u).2 ⟨u0, u1, (hiff u u0 u1).2 hf⟩
        simp at this))
      rw [← this]
  rw [key]
  rfl

end Go.Proofs.Ytfhhklkmbcnhnaa.Sim

namespace Go.Proofs.Ytfhhklkmbcnhnaa.Sim
open Go
set_option linter.unusedVariables false

inductive Path (ls : List api_Link) : Int → Int → Prop where
  | one {a b : Int} (h : api_Link.mk a b ∈ ls) : Path ls a b
  | more {a b c : Int} (h : api_Link.mk a b ∈ ls) (h' : Path ls b c) : Path ls a c

theorem Path.trans {ls : List api_Link} {a b c : Int} (h : Path ls a b) (h' : Path ls b c) : Path ls a c := by
  induction h with
  | one h => exact .more h h'
  | more h _ ih => exact .more h (ih h')
theorem Path.first {ls : List api_Link} {a b : Int} (h : Path ls a b) : ∃ c, api_Link.mk a c ∈ ls ∧ (c = b ∨ Path ls c b) := by
  cases h with
  | one h => exact ⟨_, h, .inl rfl⟩
  | more h h' => exact ⟨_, h, .inr h'⟩
/-- A walk that never leaves n numbers comes back. -/
theorem walk_back {n : Nat} (w : Nat → Int) (h : ∀ i, 0 ≤ w i ∧ w i < n) : ∃ i j, i < j ∧ j ≤ n ∧ w i = w j := by
  refine Classical.byContradiction fun hno => ?_
  have hnd : ((List.range (n + 1)).map w).Nodup := by
    rw [List.nodup_iff_pairwise_ne, List.pairwise_map]
    refine List.Pairwise.imp_of_mem ?_ List.pairwise_lt_range
    intro i j hi hj hij e
    exact hno ⟨i, j, hij, by have := List.mem_range.1 hj; omega, e⟩
  have := nodup_le hnd (s := below n) (fun x hx => by
    obtain ⟨i, _, rfl⟩ := List.mem_map.1 hx
    exact mem_below.2 (h i))
  rw [below_length, List.length_map, List.length_range] at this
  omega

theorem ord_short {n : Nat} {ls : List api_Link} (g : GoodG n ls) (h : (ord n ls).length < n) : ∃ u : Int, 0 ≤ u ∧ u < n ∧ u ∉ ord n ls := by
  refine Classical.byContradiction fun hno => ?_
  have := nodup_le (below_nodup n) (s := ord n ls) (fun x hx => Classical.byContradiction fun hx' => hno ⟨x, (mem_below.1 hx).1, (mem_below.1 hx).2, hx'⟩)
  rw [below_length] at this
  omega
/-- A node outside the order has a supplier outside the order. -/
theorem ord_stuck {n : Nat} {ls : List api_Link} (g : GoodG n ls) {u : Int} (h0 : 0 ≤ u) (h1 : u < n) (hu : u ∉ ord n ls) : ∃ s, api_Link.mk u s ∈ ls ∧ s ∉ ord n ls := by
  have hn := least_none.1 (ord_run n ls).2 u h0 h1
  refine Classical.byContradiction fun hno => ?_
  have : free ls (ord n ls) u = true := free_iff.2 ⟨hu, fun l hl hc => Classical.byContradiction fun hs => hno ⟨l.Supplier, by subst hc; exact hl, hs⟩⟩
  rw [this] at hn; cases hn

theorem ord_cyclic {n : Nat} {ls : List api_Link} (g : GoodG n ls) (h : (ord n ls).length < n) : ∃ i : Int, 0 ≤ i ∧ i < n ∧ Path ls i i := by
  obtain ⟨u, u0, u1, hu⟩ := ord_short g h
  let R := { v : Int // 0 ≤ v ∧ v < n ∧ v ∉ ord n ls }
  have nx : ∀ v : R, ∃ s : R, api_Link.mk v.1 s.1 ∈ ls := fun v => by
    obtain ⟨s, h1, h2⟩ := ord_stuck g v.2.1 v.2.2.1 v.2.2.2
    have := g.s0 _ h1
    exact ⟨⟨s, this.1, this.2, h2⟩, h1⟩
  let f : R → R := fun v => (nx v).choose
  have hf : ∀ v : R, api_Link.mk v.1 (f v).1 ∈ ls := fun v => (nx v).choose_spec
  let w : Nat → R := fun i => Nat.rec ⟨u, u0, u1, hu⟩ (fun _ v => f v) i
  have hw : ∀ i, api_Link.mk (w i).1 (w (i + 1)).1 ∈ ls := fun i => hf (w i)
  obtain ⟨i, j, hij, _, e⟩ := walk_back (n := n) (fun i => (w i).1) (fun i => ⟨(w i).2.1, (w i).2.2.1⟩)
  have hp : ∀ d, Path ls (w i).1 (w (i + d + 1)).1 := by
    intro d
    induction d with
    | zero => exact .one (hw i)
    | succ d ih => exact ih.trans (.one (hw (i + d + 1)))
  have := hp (j - i - 1)
  rw [show i + (j - i - 1) + 1 = j from by omega] at this
  refine ⟨(w i).1, (w i).2.1, (w i).2.2.1, ?_⟩
  rw [← e] at this
  exact this

/-! ### Check, Order -/

def ccode (p : Int) (ls : List api_Link) : Int := if vcode p ls = 0 then (if (ord p.toNat ls).length < p.toNat then 18 else 0) else vcode p ls

theorem ccode_good {n : Nat} {ls : List api_Link} (g : GoodG n ls) : ccode (n : Int) ls = if (ord n ls).length < n then 18 else 0 := by
  unfold ccode; rw [if_pos (good_vcode g)]; rfl

theorem check_ok (p : Int) (ls : List api_Link) (h : ls.length ≤ maxLen) : depgraph_Check.f p ls = some (ccode p ls) := by
  unfold depgraph_Check.f
  rw [validate_ok p ls h]
  simp only [Option.bind_some]
  by_cases hv : vcode p ls = 0
  · obtain ⟨n, rfl, g⟩ := vcode_good hv
    rw [if_neg (by simp [hv]), ccode_good g, sort_ok g]
    simp only [Option.bind_some]
    by_cases hc : (ord n ls).length < n
    · rw [if_pos (by simp; omega), if_pos hc]
    · rw [if_neg (by simp; omega), if_neg hc]
  · rw [if_pos (by simpa using hv)]
    unfold ccode; rw [if_neg hv]

end Go.Proofs.Ytfhhklkmbcnhnaa.Sim

namespace Go.Proofs.Ytfhhklkmbcnhnaa.Sim
open Go
set_option linter.unusedVariables false
set_option linter.unusedSimpArgs false

/-! ### ref25_New: function 57 -/
end Go.Proofs.Ytfhhklkmbcnhnaa.Sim

namespace Go.Proofs.Ytfhhklkmbcnhnaa.Sim
open Go
set_option linter.unusedVariables false
set_option maxRecDepth 100000

def badR (n : Int) (x : api_Rail) : Bool := ((((decide (x.Supply < (-1))) || (decide (n ≤ x.Supply))) || (decide (1048576 < x.RampUp))) || (decide (1048576 < x.RampDown)))
def linksTo (xs : List api_Rail) : Nat → List api_Link
  | 0 => []
  | i + 1 => linksTo xs i ++ (match xs[i]? with | some x => if 0 ≤ x.Supply then [api_Link.mk i x.Supply] else [] | none => [])
theorem linksTo_le (xs : List api_Rail) : ∀ i, (linksTo xs i).length ≤ i
  | 0 => Nat.le_refl 0
  | i + 1 => by
    have := linksTo_le xs i
    rw [linksTo, List.length_append]
    split
    · split <;> simp <;> omega
    · simp; omega
theorem mem_linksTo {xs : List api_Rail} {l : api_Link} : ∀ {i : Nat}, l ∈ linksTo xs i ↔ ∃ j x, j < i ∧ xs[j]? = some x ∧ 0 ≤ x.Supply ∧ l = api_Link.mk (j : Int) x.Supply
  | 0 => by simp [linksTo]
  | i + 1 => by
    rw [linksTo, List.mem_append, mem_linksTo (i := i)]
    constructor
    · rintro (⟨j, x, h1, h2⟩ | h)
      · exact ⟨j, x, by omega, h2⟩
      · split at h
        · rename_i x hx
          split at h
          · rename_i h0
            exact ⟨i, x, by omega, hx, h0, by simpa using h⟩
          · simp at h
        · simp at h
    · rintro ⟨j, x, h1, h2, h3, h4⟩
      by_cases hj : j = i
      · subst hj; right; rw [h2]; simp only; rw [if_pos h3]; simp [h4]
      · exact .inl ⟨j, x, by omega, h2, h3, h4⟩
theorem linksTo_nodup (xs : List api_Rail) : ∀ i, (linksTo xs i).Nodup
  | 0 => by simp [linksTo]
  | i + 1 => by
    rw [linksTo, List.nodup_append]
    refine ⟨linksTo_nodup xs i, ?_, ?_⟩
    · split
      · split <;> simp
      · simp
    · intro a ha b hb e
      subst e
      obtain ⟨j, x, h1, h2, h3, h4⟩ := mem_linksTo.1 ha
      split at hb
      · split at hb
        · simp only [List.mem_singleton] at hb
          rw [h4] at hb
          injection hb with h5 h6
          omega
        · simp at hb
      · simp at hb

def rail0 (x : api_Rail) : rails_rail := rails_rail.mk x 0 0
def links (xs : List api_Rail) : List api_Link := linksTo xs xs.length

theorem rnew_l0 (xs : List api_Rail) (h : xs.length ≤ 64) : rails_New.l0 xs FUEL (rails_Rails.mk ([] : List rails_rail) 0) [] 0 = some (if xs.any (badR xs.length) = true then .out ((none : Option rails_Rails), 1) else .nxt (rails_Rails.mk (xs.map rail0) 0, links xs)) := by
  refine loop_c (L := fun k (s : rails_Rails × List api_Link) i => rails_New.l0 xs k s.1 s.2 i) xs.length
    (fun i s => s = (rails_Rails.mk ((xs.take i).map rail0) 0, linksTo xs i) ∧ ∀ x ∈ xs.take i, badR xs.length x = false)
    (fun o => o = some (if xs.any (badR xs.length) = true then .out ((none : Option rails_Rails), 1) else .nxt (rails_Rails.mk (xs.map rail0) 0, links xs))) ?_ ?_ FUEL 0 (rails_Rails.mk ([] : List rails_rail) 0, []) (Nat.zero_le _) (FUEL_pos (by omega)) ⟨by simp [linksTo], by simp⟩
  · intro k s i hi hI
    obtain ⟨rfl, hb⟩ := hI
    simp only
    rw [rails_New.l0, if_pos (by simp; omega), idx_get hi]
    simp only [Option.bind_some]
    by_cases hp : badR xs.length xs[i] = true
    · unfold badR at hp
      rw [if_pos hp]
      refine .inr ?_
      rw [if_pos (List.any_eq_true.2 ⟨_, List.getElem_mem hi, hp⟩)]
    · have hp' := hp
      unfold badR at hp
      rw [if_neg hp]
      refine .inl ⟨(rails_Rails.mk ((xs.take (i + 1)).map rail0) 0, linksTo xs (i + 1)), ⟨rfl, ?_⟩, ?_⟩
      · intro x hx
        rw [List.take_succ_eq_append_getElem hi] at hx
        rcases List.mem_append.1 hx with h | h
        · exact hb x h
        · simp only [List.mem_singleton] at h; subst h; simpa using hp'
      · have hm : (app ((xs.take i).map rail0) [rails_rail.mk xs[i] 0 0]) = some ((xs.take (i + 1)).map rail0) := by
          rw [app_ok (by simp; omega), List.take_succ_eq_append_getElem hi, List.map_append]; rfl
        have hl := linksTo_le xs i
        have he : linksTo xs (i + 1) = linksTo xs i ++ if 0 ≤ xs[i].Supply then [api_Link.mk i xs[i].Supply] else [] := by
          rw [linksTo, List.getElem?_eq_getElem hi]
        by_cases h0 : 0 ≤ xs[i].Supply
        · rw [if_pos (by simpa using h0), app_ok (by simp; omega)]
          simp only [Option.bind_some]
          rw [hm, Option.bind_some, he, if_pos h0, wi_succ (by omega)]
        · rw [if_neg (by simpa using h0)]
          simp only [Option.bind_some]
          rw [hm, Option.bind_some, he, if_neg h0, wi_succ (by omega), List.append_nil]
  · intro k s hI
    obtain ⟨rfl, hb⟩ := hI
    simp only
    rw [rails_New.l0, if_neg (by simp)]
    rw [List.take_length] at hb ⊢
    rw [if_neg]
    · rfl
    · intro h
      obtain ⟨x, h1, h2⟩ := List.any_eq_true.1 h
      rw [hb x h1] at h2; cases h2

theorem links_good {xs : List api_Rail} (h : xs.length ≤ 64) (hb : ¬ xs.any (badR xs.length) = true) : GoodG xs.length (links xs) := by
  have hb' : ∀ x ∈ xs, badR xs.length x = false := fun x hx => by
    rw [Bool.not_eq_true, List.any_eq_false] at hb
    simpa using hb x hx
  have hl := linksTo_le xs xs.length
  refine ⟨by omega, Nat.le_trans hl (by omega), fun l hl => ?_, fun l hl => ?_, linksTo_nodup _ _⟩
  · obtain ⟨j, x, h1, h2, h3, h4⟩ := mem_linksTo.1 hl
    subst h4; simp only; omega
  · obtain ⟨j, x, h1, h2, h3, h4⟩ := mem_linksTo.1 hl
    have := hb' x (List.mem_of_getElem? h2)
    subst h4
    simp [badR] at this
    simp only; omega

def newcode (xs : List api_Rail) : Int := if 64 < xs.length then 1 else if xs.any (badR xs.length) = true then 1 else if (ord xs.length (links xs)).length < xs.length then 18 else 0

theorem rnew_ok (xs : List api_Rail) : rails_New.f xs = some (if newcode xs = 0 then (some (rails_Rails.mk (xs.map rail0) 0), 0) else (none, newcode xs)) := by
  unfold rails_New.f newcode
  by_cases h : 64 < xs.length
  · rw [if_pos (by simp; omega), if_pos h, if_neg (by simp)]
  · rw [if_neg (by simp; omega), if_neg h, rnew_l0 xs (by omega)]
    simp only [Option.bind_some]
    by_cases hb : xs.any (badR xs.length) = true
    · rw [if_pos hb, if_pos hb, if_neg (by simp)]; rfl
    · rw [if_neg hb, if_neg hb]
      have hl := linksTo_le xs xs.length
      simp only [Fl.go]
      rw [check_ok _ _ (by rw [maxLen_eq]; unfold links; omega), ccode_good (links_good (by omega) hb)]
      simp only [Option.bind_some]
      by_cases hc : (ord xs.length (links xs)).length < xs.length
      · rw [if_pos hc, if_pos (by simp), if_neg (by simp)]
      · rw [if_neg hc, if_neg (by simp), if_pos rfl]

/-! ### the reference walks up -/

end Go.Proofs.Ytfhhklkmbcnhnaa.Sim

namespace Go.Proofs.Ytfhhklkmbcnhnaa.Sim
open Go
set_option linter.unusedVariables false

def rl (xs : List api_Rail) (k : Int) : api_Rail := (idx xs k).getD (api_Rail.mk (-1) 0 0)
def sp (xs : List api_Rail) (k : Int) : Int := (rl xs k).Supply
def set (f : Int → Int) (k v : Int) : Int → Int := fun i => if i = k then v else f i
theorem set_self (f : Int → Int) (k v : Int) : set f k v k = v := by simp [set]
theorem set_ne (f : Int → Int) {k i : Int} (v : Int) (h : i ≠ k) : set f k v i = f i := by simp [set, h]
theorem set_comm (f : Int → Int) {j k : Int} (v w : Int) (h : j ≠ k) : set (set f j v) k w = set (set f k w) j v := by
  funext i; unfold set; by_cases h1 : i = k <;> by_cases h2 : i = j <;> simp [h1, h2] <;> omega
theorem set_id (f : Int → Int) {k v : Int} (h : v = f k) : set f k v = f := by
  funext i; unfold set; by_cases h1 : i = k <;> simp [h1, h]
abbrev Fn := Int → Int

def aon (xs : List api_Rail) (t : Int) : Nat → Fn → Fn → Int → Fn × Fn × List api_RailOp
  | 0, c, d, k => (c, d, [])
  | f + 1, c, d, k =>
    if 0 < c k then (set c k (c k + 1), d, [])
    else if 0 ≤ sp xs k then
      let r := aon xs t f c d (sp xs k)
      let s := max (max t (d k)) (r.2.1 (sp xs k))
      (set r.1 k (c k + 1), set r.2.1 k (s + (rl xs k).RampUp), r.2.2 ++ [api_RailOp.mk k true s (s + (rl xs k).RampUp)])
    else (set c k (c k + 1), set d k (max t (d k) + (rl xs k).RampUp), [api_RailOp.mk k true (max t (d k)) (max t (d k) + (rl xs k).RampUp)])

/-- The last completion time of the rails that k feeds. -/
def offS (xs : List api_Rail) (d : Fn) (k m0 : Int) : Nat → Int
  | 0 => m0
  | i + 1 => if sp xs i = k then max (offS xs d k m0 i) (d i) else offS xs d k m0 i

def aoff (xs : List api_Rail) (t : Int) : Nat → Fn → Fn → Int → Fn × Fn × List api_RailOp
  | 0, c, d, k => (c, d, [])
  | f + 1, c, d, k =>
    if 0 < c k - 1 then (set c k (c k - 1), d, [])
    else
      let s := offS xs d k (max t (d k)) xs.length
      let op := api_RailOp.mk k false s (s + (rl xs k).RampDown)
      if 0 ≤ sp xs k then
        let r := aoff xs t f (set c k (c k - 1)) (set d k (s + (rl xs k).RampDown)) (sp xs k)
        (r.1, r.2.1, op :: r.2.2)
      else (set c k (c k - 1), set d k (s + (rl xs k).RampDown), [op])

/-- The number of rails in use that k feeds. -/
def fed (xs : List api_Rail) (c : Fn) (k : Int) : Nat → Int
  | 0 => 0
  | i + 1 => fed xs c k i + if sp xs i = k ∧ 0 < c i then 1 else 0

structure Tree (xs : List api_Rail) (rk : Int → Nat) : Prop where
  n : xs.length ≤ 8
  s : ∀ i, -1 ≤ sp xs i ∧ sp xs i < xs.length
  r : ∀ i, 0 ≤ sp xs i → rk (sp xs i) < rk i
  b : ∀ i, rk i < 8
  u : ∀ i, 0 ≤ (rl xs i).RampUp ∧ (rl xs i).RampUp ≤ 20
  d : ∀ i, 0 ≤ (rl xs i).RampDown ∧ (rl xs i).RampDown ≤ 20

section
variable {xs : List api_Rail} {rk : Int → Nat} {t : Int}

theorem aon_frame (T : Tree xs rk) : ∀ (f : Nat) (c d : Fn) (k j : Int), rk k < rk j → (aon xs t f c d k).1 j = c j ∧ (aon xs t f c d k).2.1 j = d j
  | 0, c, d, k, j, h => ⟨rfl, rfl⟩
  | f + 1, c, d, k, j, h => by
    have hne : j ≠ k := fun e => by subst e; omega
    rw [aon]
    split
    · exact ⟨set_ne _ _ hne, rfl⟩
    · split
      · rename_i h0
        have := aon_frame T f c d (sp xs k) j (by have := T.r k h0; omega)
        simp only
        rw [set_ne _ _ hne, set_ne _ _ hne]; exact this
      · exact ⟨set_ne _ _ hne, set_ne _ _ hne⟩

theorem aon_set (T : Tree xs rk) : ∀ (f : Nat) (c d : Fn) (k j v : Int), rk k < rk j → aon xs t f (set c j v) d k = (set (aon xs t f c d k).1 j v, (aon xs t f c d k).2.1, (aon xs t f c d k).2.2)
  | 0, c, d, k, j, v, h => rfl
  | f + 1, c, d, k, j, v, h => by
    have hne : k ≠ j := fun e => by subst e; omega
    rw [aon, aon, set_ne c v hne]
    by_cases h1 : 0 < c k
    · rw [if_pos h1, if_pos h1, set_comm _ _ _ (Ne.symm hne)]
    · rw [if_neg h1, if_neg h1]
      by_cases h2 : 0 ≤ sp xs k
      · rw [if_pos h2, if_pos h2, aon_set T f c d (sp xs k) j v (by have := T.r k h2; omega)]
        simp only
        rw [set_comm _ _ _ (Ne.symm hne)]
      · rw [if_neg h2, if_neg h2, set_comm _ _ _ (Ne.symm hne)]

theorem aon_bound (T : Tree xs rk) {B : Int} (ht : 0 ≤ t) (hB : t ≤ B) : ∀ (f : Nat) (c d : Fn) (k : Int), (∀ i, 0 ≤ d i ∧ d i ≤ B) →
    (∀ i, 0 ≤ (aon xs t f c d k).2.1 i ∧ (aon xs t f c d k).2.1 i ≤ B + 20 * f) ∧ (aon xs t f c d k).2.2.length ≤ f
  | 0, c, d, k, h => ⟨fun i => by have := h i; simp only [aon]; omega, by simp [aon]⟩
  | f + 1, c, d, k, h => by
    have hu := T.u k
    have hk := h k
    rw [aon]
    split
    · exact ⟨fun i => by have := h i; simp only; omega, by simp⟩
    · split
      · obtain ⟨h1, h2⟩ := aon_bound T ht hB f c d (sp xs k) h
        simp only
        refine ⟨fun i => ?_, by simp; omega⟩
        have h3 := h1 (sp xs k)
        have h4 := h1 i
        unfold set
        split <;> omega
      · refine ⟨fun i => ?_, by simp⟩
        have h4 := h i
        unfold set
        simp only
        split <;> omega

theorem offS_ge (d : Fn) (k m0 : Int) : ∀ m, m0 ≤ offS xs d k m0 m ∧ ∀ i : Int, 0 ≤ i → i < m → sp xs i = k → d i ≤ offS xs d k m0 m
  | 0 => ⟨Int.le_refl _, fun i h0 h1 => by omega⟩
  | m + 1 => by
    have ih := offS_ge d k m0 m
    rw [offS]
    split
    · rename_i hs
      refine ⟨by omega, fun i h0 h1 h2 => ?_⟩
      by_cases e : i = m
      · subst e; omega
      · have := ih.2 i h0 (by omega) h2; omega
    · rename_i hs
      refine ⟨ih.1, fun i h0 h1 h2 => ?_⟩
      by_cases e : i = m
      · subst e; exact absurd h2 hs
      · exact ih.2 i h0 (by omega) h2
theorem offS_le (d : Fn) (k m0 : Int) {B : Int} (h0 : m0 ≤ B) (h : ∀ i, d i ≤ B) : ∀ m, offS xs d k m0 m ≤ B
  | 0 => h0
  | m + 1 => by
    have ih := offS_le d k m0 h0 h m
    have := h m
    rw [offS]; split <;> omega

theorem aoff_bound (T : Tree xs rk) : ∀ (f : Nat) (B : Int) (c d : Fn) (k : Int), 0 ≤ t → t ≤ B → (∀ i, 0 ≤ d i ∧ d i ≤ B) →
    (∀ i, 0 ≤ (aoff xs t f c d k).2.1 i ∧ (aoff xs t f c d k).2.1 i ≤ B + 20 * f) ∧ (aoff xs t f c d k).2.2.length ≤ f
  | 0, B, c, d, k, ht, hB, h => ⟨fun i => by have := h i; simp only [aoff]; omega, by simp [aoff]⟩
  | f + 1, B, c, d, k, ht, hB, h => by
    have hu := T.d k
    have hk := h k
    rw [aoff]
    split
    · exact ⟨fun i => by have := h i; simp only; omega, by simp⟩
    · have hs1 := (offS_ge (xs := xs) d k (max t (d k)) xs.length).1
      have hs2 := offS_le (xs := xs) d k (max t (d k)) (B := B) (by omega) (fun i => (h i).2) xs.length
      have hd : ∀ i, 0 ≤ set d k (offS xs d k (max t (d k)) xs.length + (rl xs k).RampDown) i ∧ set d k (offS xs d k (max t (d k)) xs.length + (rl xs k).RampDown) i ≤ B + 20 := fun i => by
        have := h i
        unfold set; split <;> omega
      simp only
      split
      · obtain ⟨h1, h2⟩ := aoff_bound T f (B + 20) (set c k (c k - 1)) _ (sp xs k) ht (by omega) hd
        simp only
        refine ⟨fun i => ?_, by simp; omega⟩
        have := h1 i
        omega
      · simp only
        refine ⟨fun i => ?_, by simp⟩
        have := hd i
        omega

theorem fed_nonneg (c : Fn) (k : Int) : ∀ m, 0 ≤ fed xs c k m ∧ fed xs c k m ≤ m
  | 0 => by simp [fed]
  | m + 1 => by
    have := fed_nonneg c k m
    rw [fed]; split <;> omega
theorem fed_zero {c : Fn} {k : Int} : ∀ {m : Nat}, fed xs c k m = 0 → ∀ i : Int, 0 ≤ i → i < m → sp xs i = k → ¬ 0 < c i
  | 0, h, i, h0, h1, _ => by omega
  | m + 1, h, i, h0, h1, h2 => by
    have hn := fed_nonneg (xs := xs) c k m
    rw [fed] at h
    by_cases e : i = m
    · subst e; intro h3; rw [if_pos ⟨h2, h3⟩] at h; omega
    · exact fed_zero (m := m) (by split at h <;> omega) i h0 (by omega) h2
theorem fed_pos {c : Fn} {k : Int} : ∀ {m : Nat} {i : Int}, 0 ≤ i → i < m → sp xs i = k → 0 < c i → 1 ≤ fed xs c k m
  | 0, i, h0, h1, _, _ => by omega
  | m + 1, i, h0, h1, h2, h3 => by
    have hn := fed_nonneg (xs := xs) c k m
    rw [fed]
    by_cases e : i = m
    · subst e; rw [if_pos ⟨h2, h3⟩]; omega
    · have := fed_pos (k := k) h0 (show i < m by omega) h2 h3
      split <;> omega
theorem fed_set (c : Fn) (k v : Int) (j : Int) (h0 : 0 ≤ k) : ∀ m : Nat, fed xs (set c k v) j m = fed xs c j m + if k < m ∧ sp xs k = j then (if 0 < v then 1 else 0) - (if 0 < c k then 1 else 0) else 0
  | 0 => by rw [fed, fed, if_neg (by omega)]; rfl
  | m + 1 => by
    rw [fed, fed, fed_set c k v j h0 m]
    by_cases e : (m : Int) = k
    · subst e
      rw [set_self, if_neg (by omega : ¬ ((m : Int) < m ∧ sp xs m = j))]
      by_cases hs : sp xs m = j
      · rw [if_pos (⟨by omega, hs⟩ : ((m : Int) < ((m + 1 : Nat) : Int) ∧ sp xs m = j))]
        by_cases h1 : 0 < v <;> by_cases h2 : 0 < c m <;> simp [hs, h1, h2] <;> omega
      · rw [if_neg (fun h => hs h.2 : ¬ ((m : Int) < ((m + 1 : Nat) : Int) ∧ sp xs m = j)), if_neg (fun h => hs h.1), if_neg (fun h => hs h.1)]
    · rw [set_ne c v e]
      have : (k < ((m + 1 : Nat) : Int) ∧ sp xs k = j) ↔ (k < (m : Int) ∧ sp xs k = j) := by
        constructor
        · rintro ⟨a, b⟩; exact ⟨by omega, b⟩
        · rintro ⟨a, b⟩; exact ⟨by omega, b⟩
      simp only [this]
      omega
end
end Go.Proofs.Ytfhhklkmbcnhnaa.Sim

namespace Go.Proofs.Ytfhhklkmbcnhnaa.Sim
open Go
set_option linter.unusedVariables false

section
variable {xs : List api_Rail} {rk : Int → Nat} {t : Int}

/-! ### the operations, one after the other -/

def fset (o : Int → Bool) (k : Int) (v : Bool) : Int → Bool := fun i => if i = k then v else o i
def pos (c : Fn) : Int → Bool := fun i => decide (0 < c i)
structure OkOp (xs : List api_Rail) (o : Int → Bool) (d : Fn) (x : api_RailOp) : Prop where
  r0 : 0 ≤ x.Rail
  r1 : x.Rail < xs.length
  alt : o x.Rail = !x.On
  from_ : d x.Rail ≤ x.Start
  s0 : 0 ≤ x.Start
  ramp : x.Done = x.Start + if x.On = true then (rl xs x.Rail).RampUp else (rl xs x.Rail).RampDown
  sup : x.On = true → 0 ≤ sp xs x.Rail → o (sp xs x.Rail) = true ∧ d (sp xs x.Rail) ≤ x.Start
  feeds : x.On = false → ∀ i : Int, 0 ≤ i → i < xs.length → sp xs i = x.Rail → o i = false ∧ d i ≤ x.Start
inductive Rp (xs : List api_Rail) : (Int → Bool) → Fn → List api_RailOp → (Int → Bool) → Fn → Prop where
  | nil (o : Int → Bool) (d : Fn) : Rp xs o d [] o d
  | cons {o : Int → Bool} {d : Fn} {x : api_RailOp} {ys : List api_RailOp} {o' : Int → Bool} {d' : Fn} : OkOp xs o d x → Rp xs (fset o x.Rail x.On) (set d x.Rail x.Done) ys o' d' → Rp xs o d (x :: ys) o' d'
theorem Rp.append {o : Int → Bool} {d : Fn} {ys : List api_RailOp} {o' : Int → Bool} {d' : Fn} (h : Rp xs o d ys o' d') : ∀ {zs : List api_RailOp} {o'' : Int → Bool} {d'' : Fn}, Rp xs o' d' zs o'' d'' → Rp xs o d (ys ++ zs) o'' d'' := by
  induction h with
  | nil => intro _ _ _ h; exact h
  | cons h1 _ ih => intro _ _ _ h; exact .cons h1 (ih h)
theorem Rp.one {o : Int → Bool} {d : Fn} {x : api_RailOp} (h : OkOp xs o d x) {o' : Int → Bool} {d' : Fn} (ho : o' = fset o x.Rail x.On) (hd : d' = set d x.Rail x.Done) : Rp xs o d [x] o' d' := by
  subst ho; subst hd; exact .cons h (.nil _ _)

/-! ### what holds at all times -/

structure Inv (xs : List api_Rail) (c d u : Fn) : Prop where
  c0 : ∀ i, 0 ≤ c i
  d0 : ∀ i, 0 ≤ d i
  u0 : ∀ i, 0 ≤ u i
  bal : ∀ i : Int, 0 ≤ i → i < xs.length → c i = u i + fed xs c i xs.length
  pow : ∀ i : Int, 0 ≤ i → i < xs.length → 0 < c i → 0 ≤ sp xs i → d (sp xs i) ≤ d i
/-- Switching on: one use more at k. -/
theorem on_inv (T : Tree xs rk) (ht : 0 ≤ t) : ∀ (f : Nat) (c d u : Fn) (k : Int), rk k < f → 0 ≤ k → k < xs.length → (∀ i, 0 ≤ c i) → (∀ i, 0 ≤ d i) → (∀ i, 0 ≤ u i) → 1 ≤ u k →
    (∀ i : Int, 0 ≤ i → i < xs.length → c i + (if i = k then 1 else 0) = u i + fed xs c i xs.length) →
    (∀ i : Int, 0 ≤ i → i < xs.length → 0 < c i → 0 ≤ sp xs i → d (sp xs i) ≤ d i) →
    Inv xs (aon xs t f c d k).1 (aon xs t f c d k).2.1 u ∧ Rp xs (pos c) d (aon xs t f c d k).2.2 (pos (aon xs t f c d k).1) (aon xs t f c d k).2.1 ∧ 0 < (aon xs t f c d k).1 k
  | 0, c, d, u, k, h, _, _, _, _, _, _, _, _ => absurd h (by omega)
  | f + 1, c, d, u, k, hf, k0, k1, hc, hd, hu, huk, hb, hp => by
    have hck := hc k
    have hup := T.u k
    rw [aon]
    by_cases h1 : 0 < c k
    · rw [if_pos h1]
      refine ⟨⟨?_, hd, hu, ?_, ?_⟩, ?_, by simp only; rw [set_self]; omega⟩
      · intro i; have := hc i; unfold set; simp only; split <;> omega
      · intro i i0 i1
        have := hb i i0 i1
        simp only
        rw [fed_set _ _ _ _ k0]
        unfold set
        simp only [h1, if_pos (show 0 < c k + 1 by omega), if_true]
        by_cases e : i = k
        · subst e; simp at this ⊢; omega
        · simp [e] at this ⊢; omega
      · intro i i0 i1 h3 h4
        refine hp i i0 i1 ?_ h4
        revert h3; unfold set; simp only; split
        · rename_i e; subst e; intro _; exact h1
        · exact id
      · have : pos (set c k (c k + 1)) = pos c := by
          funext i; unfold pos set
          by_cases e : i = k
          · subst e; simp [h1]; omega
          · simp [e]
        simp only [this]
        exact .nil _ _
    · rw [if_neg h1]
      have hck0 : c k = 0 := by omega
      have hfed : fed xs c k xs.length = 0 := by
        have := hb k k0 k1
        have h2 := fed_nonneg (xs := xs) c k xs.length
        rw [if_pos rfl] at this; omega
      by_cases h2 : 0 ≤ sp xs k
      · rw [if_pos h2]
        have hrk := T.r k h2
        have hne : sp xs k ≠ k := fun e => by rw [e] at hrk; omega
        obtain ⟨⟨a1, a2, a3, a4, a5⟩, a6, a7⟩ := on_inv T ht f c d (fun i => u i + (if i = sp xs k then 1 else 0) - (if i = k then 1 else 0)) (sp xs k) (by omega) h2 (T.s k).2 hc hd
          (fun i => by have := hu i; (try simp only); split <;> split <;> first | omega | (rename_i e; subst e; omega) | (rename_i e _; subst e; omega)) (by have := hu (sp xs k); (try simp only); rw [if_neg hne]; simp; omega)
          (fun i i0 i1 => by have := hb i i0 i1; (try simp only); omega) hp
        obtain ⟨b1, b2⟩ := aon_frame T (t := t) f c d (sp xs k) k hrk
        generalize aon xs t f c d (sp xs k) = r at *
        obtain ⟨rc, rd, ro⟩ := r
        simp only at *
        have hs1 : t ≤ max (max t (d k)) (rd (sp xs k)) := by omega
        refine ⟨⟨?_, ?_, hu, ?_, ?_⟩, ?_, by rw [set_self]; omega⟩
        · intro i; have := a1 i; unfold set; (try simp only); split <;> omega
        · intro i; have := a2 i; unfold set; (try simp only); split <;> omega
        · intro i i0 i1
          have := a4 i i0 i1
          rw [fed_set _ _ _ _ k0, b1, hck0]
          unfold set
          (try simp only)
          by_cases e : i = k
          · subst e
            rw [if_pos rfl, if_neg (fun h => hne h.2)]
            rw [if_neg (fun h => hne h.symm), if_pos rfl, b1] at this
            omega
          · rw [if_neg e]
            rw [if_neg e] at this
            by_cases e2 : sp xs k = i
            · rw [if_pos ⟨k1, e2⟩]; rw [if_pos e2.symm] at this; simp; omega
            · rw [if_neg (fun h => e2 h.2)]; rw [if_neg (fun h => e2 h.symm)] at this; omega
        · intro i i0 i1 h3 h4
          by_cases e : i = k
          · subst e
            rw [set_self, set_ne _ _ hne]; omega
          · rw [set_ne _ _ e] at h3 ⊢
            have hk' : sp xs i ≠ k := fun e2 => by
              have hbk := a4 k k0 k1
              have h6 := fed_pos (xs := xs) (c := rc) (k := k) i0 i1 e2 h3
              rw [b1] at hbk
              have : u k + (if k = sp xs k then 1 else 0) - (if k = k then 1 else 0) ≥ 0 := a3 k
              omega
            rw [set_ne _ _ hk']
            exact a5 i i0 i1 h3 h4
        · refine a6.append (.one ⟨k0, k1, ?_, ?_, ?_, ?_, ?_, ?_⟩ ?_ rfl)
          · simp [pos, b1, hck0]
          · simp only [b2]; omega
          · simp only; omega
          · simp
          · intro _ _; refine ⟨by simp [pos, a7], by simp only; omega⟩
          · intro h; simp at h
          · funext i; unfold pos set fset
            by_cases e : i = k
            · subst e; simp [hck0]
            · simp [e]
      · rw [if_neg h2]
        simp only
        refine ⟨⟨?_, ?_, hu, ?_, ?_⟩, ?_, by rw [set_self]; omega⟩
        · intro i; have := hc i; unfold set; (try simp only); split <;> omega
        · intro i; have := hd i; unfold set; (try simp only); split <;> omega
        · intro i i0 i1
          have := hb i i0 i1
          rw [fed_set _ _ _ _ k0, if_neg (fun h => h2 (by rw [h.2]; exact i0))]
          unfold set
          (try simp only)
          by_cases e : i = k
          · subst e; simp at this ⊢; omega
          · simp [e] at this ⊢; omega
        · intro i i0 i1 h3 h4
          by_cases e : i = k
          · subst e; exact absurd h4 h2
          · rw [set_ne _ _ e] at h3 ⊢
            rw [set_ne _ _ (fun e2 => fed_zero hfed i i0 i1 e2 h3)]
            exact hp i i0 i1 h3 h4
        · refine .one ⟨k0, k1, ?_, ?_, ?_, ?_, ?_, ?_⟩ ?_ rfl
          · simp [pos, hck0]
          · simp only; omega
          · simp only; omega
          · simp
          · intro _ h; exact absurd h h2
          · intro h; simp at h
          · funext i; unfold pos set fset
            by_cases e : i = k
            · subst e; simp [hck0]
            · simp [e]

/-- Switching off: one use less at k. -/
theorem off_inv (T : Tree xs rk) (ht : 0 ≤ t) : ∀ (f : Nat) (c d u : Fn) (k : Int), rk k < f → 0 ≤ k → k < xs.length → (∀ i, 0 ≤ c i) → (∀ i, 0 ≤ d i) → (∀ i, 0 ≤ u i) →
    (∀ i : Int, 0 ≤ i → i < xs.length → c i = u i + fed xs c i xs.length + (if i = k then 1 else 0)) →
    (∀ i : Int, 0 ≤ i → i < xs.length → 0 < c i → 0 ≤ sp xs i → d (sp xs i) ≤ d i) →
    Inv xs (aoff xs t f c d k).1 (aoff xs t f c d k).2.1 u ∧ Rp xs (pos c) d (aoff xs t f c d k).2.2 (pos (aoff xs t f c d k).1) (aoff xs t f c d k).2.1
  | 0, c, d, u, k, h, _, _, _, _, _, _, _ => absurd h (by omega)
  | f + 1, c, d, u, k, hf, k0, k1, hc, hd, hu, hb, hp => by
    have hck := hc k
    have hup := T.d k
    have hbk := hb k k0 k1
    rw [if_pos rfl] at hbk
    have hfn := fed_nonneg (xs := xs) c k xs.length
    have huk := hu k
    rw [aoff]
    by_cases h1 : 0 < c k - 1
    · rw [if_pos h1]
      refine ⟨⟨?_, hd, hu, ?_, ?_⟩, ?_⟩
      · intro i; have := hc i; unfold set; simp only; split <;> omega
      · intro i i0 i1
        have := hb i i0 i1
        simp only
        rw [fed_set _ _ _ _ k0]
        unfold set
        simp only [if_pos h1, if_pos (show 0 < c k by omega)]
        by_cases e : i = k
        · subst e; simp at this ⊢; omega
        · simp [e] at this ⊢; omega
      · intro i i0 i1 h3 h4
        refine hp i i0 i1 ?_ h4
        revert h3; unfold set; simp only; split
        · rename_i e; subst e; intro _; omega
        · exact id
      · have : pos (set c k (c k - 1)) = pos c := by
          funext i; unfold pos set
          by_cases e : i = k
          · subst e; simp; omega
          · simp [e]
        simp only [this]
        exact .nil _ _
    · rw [if_neg h1]
      have hck1 : c k = 1 := by omega
      have hfed : fed xs c k xs.length = 0 := by omega
      have hs := offS_ge (xs := xs) d k (max t (d k)) xs.length
      generalize offS xs d k (max t (d k)) xs.length = s at *
      have hok : OkOp xs (pos c) d (api_RailOp.mk k false s (s + (rl xs k).RampDown)) := by
        refine ⟨k0, k1, by simp [pos, hck1], by simp only; omega, by simp only; omega, by simp, fun h => by simp at h, fun _ i i0 i1 e => ⟨?_, hs.2 i i0 i1 e⟩⟩
        simp only [pos, decide_eq_false_iff_not]; exact fed_zero hfed i i0 i1 e
      have hpos : fset (pos c) k false = pos (set c k (c k - 1)) := by
        funext i; unfold pos set fset
        by_cases e : i = k
        · subst e; simp [hck1]
        · simp [e]
      have g1 : ∀ i, 0 ≤ set c k (c k - 1) i := fun i => by have := hc i; unfold set; split <;> omega
      have g2 : ∀ i, 0 ≤ set d k (s + (rl xs k).RampDown) i := fun i => by have := hd i; unfold set; split <;> omega
      have g3 : ∀ i : Int, 0 ≤ i → i < xs.length → set c k (c k - 1) i = u i + fed xs (set c k (c k - 1)) i xs.length + (if i = sp xs k then 1 else 0) := fun i i0 i1 => by
        have := hb i i0 i1
        rw [fed_set _ _ _ _ k0, hck1]
        have hne : sp xs k ≠ k := fun e => by have := T.r k (by rw [e]; exact k0); rw [e] at this; omega
        unfold set
        by_cases e : i = k
        · subst e
          rw [if_pos rfl, if_neg (fun h => hne h.2), if_neg (fun h => hne h.symm)]
          rw [if_pos rfl] at this; omega
        · rw [if_neg e]
          rw [if_neg e] at this
          by_cases e2 : sp xs k = i
          · rw [if_pos ⟨k1, e2⟩, if_pos e2.symm]; simp; omega
          · rw [if_neg (fun h => e2 h.2), if_neg (fun h => e2 h.symm)]; omega
      have g4 : ∀ i : Int, 0 ≤ i → i < xs.length → 0 < set c k (c k - 1) i → 0 ≤ sp xs i → set d k (s + (rl xs k).RampDown) (sp xs i) ≤ set d k (s + (rl xs k).RampDown) i := fun i i0 i1 h3 h4 => by
        have e : i ≠ k := fun e => by subst e; rw [set_self] at h3; omega
        rw [set_ne _ _ e] at h3 ⊢
        rw [set_ne _ _ (fun e2 => fed_zero hfed i i0 i1 e2 h3)]
        exact hp i i0 i1 h3 h4
      simp only
      by_cases h2 : 0 ≤ sp xs k
      · rw [if_pos h2]
        have hrk := T.r k h2
        obtain ⟨b1, b2⟩ := off_inv T ht f (set c k (c k - 1)) (set d k (s + (rl xs k).RampDown)) u (sp xs k) (by omega) h2 (T.s k).2 g1 g2 hu g3 g4
        refine ⟨b1, .cons hok ?_⟩
        simp only
        rw [hpos]; exact b2
      · rw [if_neg h2]
        refine ⟨⟨g1, g2, hu, fun i i0 i1 => ?_, g4⟩, .one hok hpos.symm rfl⟩
        have := g3 i i0 i1
        rw [if_neg (fun h => h2 (by rw [← h]; exact i0))] at this
        simpa using this

end
end Go.Proofs.Ytfhhklkmbcnhnaa.Sim

namespace Go.Proofs.Ytfhhklkmbcnhnaa.Sim
open Go
set_option linter.unusedVariables false
set_option maxRecDepth 100000

def RepL (xs : List api_Rail) (l : List rails_rail) (c d : Fn) : Prop := l.length = xs.length ∧ ∀ i x, idx xs i = some x → idx l i = some (rails_rail.mk x (c i) (d i))
def RepV {α : Type} (n : Nat) (l : List α) (c : Int → α) : Prop := l.length = n ∧ ∀ i : Int, 0 ≤ i → i < n → idx l i = some (c i)

section
variable {xs : List api_Rail} {rk : Int → Nat} {t : Int}

theorem rl_of {k : Int} {x : api_Rail} (h : idx xs k = some x) : rl xs k = x := by unfold rl; rw [h]; rfl
theorem sp_of {k : Int} {x : api_Rail} (h : idx xs k = some x) : sp xs k = x.Supply := by unfold sp; rw [rl_of h]
theorem at_ {k : Int} (h0 : 0 ≤ k) (h1 : k < xs.length) : idx xs k = some (rl xs k) := by
  obtain ⟨x, h, _⟩ := idx_of h0 h1
  rw [h, rl_of h]
theorem RepL.get {l : List rails_rail} {c d : Fn} (h : RepL xs l c d) {k : Int} (h0 : 0 ≤ k) (h1 : k < xs.length) : idx l k = some (rails_rail.mk (rl xs k) (c k) (d k)) := h.2 _ _ (at_ h0 h1)
theorem RepL.put {l : List rails_rail} {c d : Fn} (h : RepL xs l c d) {k : Int} (h0 : 0 ≤ k) (h1 : k < xs.length) (v w : Int) : RepL xs (upd l k (rails_rail.mk (rl xs k) v w)) (set c k v) (set d k w) := by
  refine ⟨by rw [upd_length]; exact h.1, fun i x hx => ?_⟩
  rw [idx_upd_some h0 (h.2 i x hx)]
  by_cases e : k = i
  · subst e; rw [if_pos rfl, set_self, set_self, rl_of hx]
  · rw [if_neg e, set_ne _ _ (Ne.symm e), set_ne _ _ (Ne.symm e)]
theorem RepL.putc {l : List rails_rail} {c d : Fn} (h : RepL xs l c d) {k : Int} (h0 : 0 ≤ k) (h1 : k < xs.length) (v : Int) : RepL xs (upd l k (rails_rail.mk (rl xs k) v (d k))) (set c k v) d := by
  have := h.put h0 h1 v (d k)
  rwa [set_id d rfl] at this
theorem RepL.putd {l : List rails_rail} {c d : Fn} (h : RepL xs l c d) {k : Int} (h0 : 0 ≤ k) (h1 : k < xs.length) (w : Int) : RepL xs (upd l k (rails_rail.mk (rl xs k) (c k) w)) c (set d k w) := by
  have := h.put h0 h1 (c k) w
  rwa [set_id c rfl] at this
theorem RepV.put {α : Type} {n : Nat} {l : List α} {c : Int → α} (h : RepV n l c) {k : Int} (h0 : 0 ≤ k) (v : α) : RepV n (upd l k v) (fun i => if i = k then v else c i) := by
  refine ⟨by rw [upd_length]; exact h.1, fun i i0 i1 => ?_⟩
  rw [idx_upd_some h0 (h.2 i i0 i1)]
  by_cases e : k = i
  · subst e; simp
  · simp [e, Ne.symm e]
theorem on_ok (T : Tree xs rk) {tm : Int} : ∀ (f kr : Nat) (B : Int) (l : List rails_rail) (c d : Fn) (k : Int), rk k < f → f ≤ kr → 0 ≤ k → k < xs.length → RepL xs l c d →
    (∀ i, 0 ≤ c i ∧ c i ≤ 1000) → (∀ i, 0 ≤ d i ∧ d i ≤ B) → 0 ≤ t → t ≤ B → B + 20 * f < 18446744073709551616 → f ≤ 1000 →
    ∃ l', rails_Rails_on.r kr (rails_Rails.mk l tm) k t = some (rails_Rails.mk l' tm, (aon xs t f c d k).2.2) ∧ RepL xs l' (aon xs t f c d k).1 (aon xs t f c d k).2.1
  | 0, kr, B, l, c, d, k, h, _, _, _, _, _, _, _, _, _, _ => absurd h (by omega)
  | f + 1, 0, B, l, c, d, k, h, h', _, _, _, _, _, _, _, _, _ => absurd h' (by omega)
  | f + 1, kr + 1, B, l, c, d, k, hf, hkr, k0, k1, hR, hc, hd, t0, tB, hB, hf9 => by
    have hck := hc k
    have hdk := hd k
    have hup := T.u k
    have hw : wi (c k + 1) = c k + 1 := wi_id (by omega) (by omega)
    have hR1 := hR.putc k0 k1 (c k + 1)
    rw [rails_Rails_on.r]
    simp only [hR.get k0 k1, Option.bind_some, hw, hR1.get k0 k1, set_self]
    rw [aon]
    by_cases h1 : 0 < c k
    · rw [if_pos h1, if_pos (by simp; omega)]
      exact ⟨_, rfl, hR1⟩
    · rw [if_neg h1, if_neg (by simp; omega)]
      by_cases h2 : 0 ≤ sp xs k
      · have h2' : 0 ≤ (rl xs k).Supply := h2
        rw [if_pos h2, if_pos (by simpa using h2')]
        have hrk := T.r k h2
        have hbd := aon_bound T t0 tB f c d (sp xs k) hd
        have hfr := aon_frame T (t := t) f c d (sp xs k) k hrk
        have hst := aon_set T (t := t) f c d (sp xs k) k (c k + 1) hrk
        obtain ⟨l', e1, e2⟩ := on_ok T (tm := tm) f kr B _ (set c k (c k + 1)) d (sp xs k) (by omega) (by omega) h2 (T.s k).2 hR1 (fun i => by have := hc i; unfold set; split <;> omega) hd t0 tB (by omega) (by omega)
        rw [hst] at e1 e2
        simp only at e1 e2
        have e1' : rails_Rails_on.r kr (rails_Rails.mk (upd l k (rails_rail.mk (rl xs k) (c k + 1) (d k))) tm) (rl xs k).Supply t = some (rails_Rails.mk l' tm, (aon xs t f c d (sp xs k)).2.2) := e1
        generalize aon xs t f c d (sp xs k) = r at *
        obtain ⟨rc, rd, ro⟩ := r
        simp only at *
        have hb1 := hbd.1 (sp xs k)
        have hb2 := hbd.2
        rw [e1', Option.bind_some]
        simp only [e2.get k0 k1, Option.bind_some]
        rw [show idx l' (rl xs k).Supply = some _ from e2.get h2 (T.s k).2]
        simp only [Option.bind_some, e2.get k0 k1]
        have hwu : wu (max (max t (d k)) (rd (sp xs k)) + (rl xs k).RampUp) = max (max t (d k)) (rd (sp xs k)) + (rl xs k).RampUp := wu_id (by omega) (by omega)
        have e5 : (rl xs k).Supply = sp xs k := rfl
        simp only [e5]
        rw [set_self, hwu]
        have hR2 := e2.putd k0 k1 (max (max t (d k)) (rd (sp xs k)) + (rl xs k).RampUp)
        rw [set_self] at hR2
        rw [hR2.get k0 k1, Option.bind_some, app_ok (by simp; omega), Option.bind_some]
        simp only [set_self]
        exact ⟨_, rfl, hR2⟩
      · have h2' : ¬ 0 ≤ (rl xs k).Supply := h2
        rw [if_neg h2, if_neg (by simpa using h2')]
        simp only [Option.bind_some, hR1.get k0 k1]
        have hwu : wu (max t (d k) + (rl xs k).RampUp) = max t (d k) + (rl xs k).RampUp := wu_id (by omega) (by omega)
        rw [set_self, hwu]
        have hR2 := hR1.putd k0 k1 (max t (d k) + (rl xs k).RampUp)
        rw [set_self] at hR2
        rw [hR2.get k0 k1, Option.bind_some, app_ok (by simp), Option.bind_some]
        simp only [set_self, List.nil_append]
        exact ⟨_, rfl, hR2⟩

theorem offl_ok {p : rails_Rails} {k : Int} {x7 : rails_rail} {c d : Fn} (h64 : xs.length ≤ 64) (hR : RepL xs (upd p.list k ({ x7 with count := wi (x7.count - 1) } : rails_rail)) c d) (m0 : Int) :
    rails_Rails_off.l0 p k x7 FUEL m0 0 = some (offS xs d k m0 xs.length) := by
  refine loop_c (L := fun fu (s : Int) i => rails_Rails_off.l0 p k x7 fu s i) xs.length (fun i s => s = offS xs d k m0 i) (fun o => o = some (offS xs d k m0 xs.length)) ?_ ?_ FUEL 0 m0 (Nat.zero_le _) (FUEL_pos (by omega)) rfl
  · rintro fu s i hi rfl
    rw [rails_Rails_off.l0, hR.1, if_pos (by simp; omega), hR.get (by omega) (by omega), Option.bind_some, offS]
    refine .inl ⟨_, rfl, ?_⟩
    have e : (rl xs (i : Int)).Supply = sp xs i := rfl
    simp only [e]
    by_cases h : sp xs i = k
    · rw [if_pos (by simpa using h), if_pos h, Option.bind_some, wi_succ (by omega)]
    · rw [if_neg (by simpa using h), if_neg h, Option.bind_some, wi_succ (by omega)]
  · rintro fu s rfl
    rw [rails_Rails_off.l0, hR.1, if_neg (by simp)]

theorem off_ok (T : Tree xs rk) {tm : Int} : ∀ (f kr : Nat) (B : Int) (l : List rails_rail) (c d : Fn) (k : Int), rk k < f → f ≤ kr → 0 ≤ k → k < xs.length → RepL xs l c d →
    (∀ i, 0 ≤ c i + 1000 ∧ c i ≤ 1000) → (∀ i, 0 ≤ d i ∧ d i ≤ B) → 0 ≤ t → t ≤ B → B + 20 * f < 18446744073709551616 → f ≤ 1000 → (∀ i, rk i < f → -500 + (f : Int) ≤ c i) →
    ∃ l', rails_Rails_off.r kr (rails_Rails.mk l tm) k t = some (rails_Rails.mk l' tm, (aoff xs t f c d k).2.2) ∧ RepL xs l' (aoff xs t f c d k).1 (aoff xs t f c d k).2.1
  | 0, kr, B, l, c, d, k, h, _, _, _, _, _, _, _, _, _, _, _ => absurd h (by omega)
  | f + 1, 0, B, l, c, d, k, h, h', _, _, _, _, _, _, _, _, _, _ => absurd h' (by omega)
  | f + 1, kr + 1, B, l, c, d, k, hf, hkr, k0, k1, hR, hc, hd, t0, tB, hB, hf9, hlo => by
    have hck := hc k
    have hdk := hd k
    have hup := T.d k
    have hw : wi (c k - 1) = c k - 1 := wi_id (by omega) (by omega)
    have hR1 := hR.putc k0 k1 (c k - 1)
    rw [rails_Rails_off.r]
    simp only [hR.get k0 k1, Option.bind_some, hw, hR1.get k0 k1, set_self]
    rw [aoff]
    by_cases h1 : 0 < c k - 1
    · rw [if_pos h1, if_pos (by simpa using h1)]
      exact ⟨_, rfl, hR1⟩
    · rw [if_neg h1, if_neg (by simpa using h1)]
      have hl0 := offl_ok (xs := xs) (p := rails_Rails.mk l tm) (k := k) (x7 := rails_rail.mk (rl xs k) (c k) (d k)) (c := set c k (c k - 1)) (d := d) (by have := T.n; omega) (by rw [show ({ (rails_rail.mk (rl xs k) (c k) (d k)) with count := wi ((rails_rail.mk (rl xs k) (c k) (d k)).count - 1) } : rails_rail) = rails_rail.mk (rl xs k) (c k - 1) (d k) by simp only [hw]]; exact hR1) (max t (d k))
      rw [hl0, Option.bind_some]
      have hs1 := (offS_ge (xs := xs) d k (max t (d k)) xs.length).1
      have hs2 := offS_le (xs := xs) d k (max t (d k)) (B := B) (by omega) (fun i => (hd i).2) xs.length
      generalize offS xs d k (max t (d k)) xs.length = s at *
      have hwu : wu (s + (rl xs k).RampDown) = s + (rl xs k).RampDown := wu_id (by omega) (by omega)
      simp only [hwu]
      have hR2 := hR1.putd k0 k1 (s + (rl xs k).RampDown)
      rw [set_self] at hR2
      rw [hR2.get k0 k1, Option.bind_some]
      simp only [set_self]
      by_cases h2 : 0 ≤ sp xs k
      · have h2' : 0 ≤ (rl xs k).Supply := h2
        rw [if_pos h2, if_pos (by simpa using h2')]
        have hrk := T.r k h2
        have hd2 : ∀ i, 0 ≤ set d k (s + (rl xs k).RampDown) i ∧ set d k (s + (rl xs k).RampDown) i ≤ B + 20 := fun i => by have := hd i; unfold set; split <;> omega
        have hbd := aoff_bound T f (B + 20) (set c k (c k - 1)) (set d k (s + (rl xs k).RampDown)) (sp xs k) t0 (by omega) hd2
        obtain ⟨l', e1, e2⟩ := off_ok T (tm := tm) f kr (B + 20) _ (set c k (c k - 1)) (set d k (s + (rl xs k).RampDown)) (sp xs k) (by omega) (by omega) h2 (T.s k).2 hR2
          (fun i => by have := hc i; have := hlo k hf; unfold set; split <;> omega) hd2 t0 (by omega) (by omega) (by omega) (fun i hi => by have := hlo i (by omega); have := hlo k hf; unfold set; split <;> omega)
        have e1' : rails_Rails_off.r kr (rails_Rails.mk (upd (upd l k (rails_rail.mk (rl xs k) (c k - 1) (d k))) k (rails_rail.mk (rl xs k) (c k - 1) (s + (rl xs k).RampDown))) tm) (rl xs k).Supply t = _ := e1
        rw [e1', Option.bind_some, app_ok (by simp; omega), Option.bind_some]
        exact ⟨_, rfl, e2⟩
      · have h2' : ¬ 0 ≤ (rl xs k).Supply := h2
        rw [if_neg h2, if_neg (by simpa using h2')]
        exact ⟨_, rfl, hR2⟩
end
end Go.Proofs.Ytfhhklkmbcnhnaa.Sim

namespace Go.Proofs.Ytfhhklkmbcnhnaa.Sim
open Go
set_option linter.unusedVariables false
set_option linter.unusedSimpArgs false

/-! ### ref25_later: function 76 -/
end Go.Proofs.Ytfhhklkmbcnhnaa.Sim

namespace Go.Proofs.Ytfhhklkmbcnhnaa.Sim
open Go
set_option linter.unusedVariables false
set_option linter.unusedSimpArgs false

/-! ### ref25_Rails_add: function 70 -/
end Go.Proofs.Ytfhhklkmbcnhnaa.Sim

namespace Go.Proofs.Ytfhhklkmbcnhnaa.Sim
open Go
set_option linter.unusedVariables false
set_option linter.unusedSimpArgs false

/-! ### ref25_Rails_drop: function 72 -/
end Go.Proofs.Ytfhhklkmbcnhnaa.Sim

namespace Go.Proofs.Ytfhhklkmbcnhnaa.Sim
open Go
set_option linter.unusedVariables false
set_option maxRecDepth 100000

section
variable {xs : List api_Rail} {rk : Int → Nat} {t : Int}

end
end Go.Proofs.Ytfhhklkmbcnhnaa.Sim

namespace Go.Proofs.Ytfhhklkmbcnhnaa.Sim
open Go
set_option linter.unusedVariables false
set_option linter.unusedSimpArgs false

/-! ### rails_Rails_Count: function 55 -/
end Go.Proofs.Ytfhhklkmbcnhnaa.Sim

namespace Go.Proofs.Ytfhhklkmbcnhnaa.Sim
open Go
set_option linter.unusedVariables false
set_option linter.unusedSimpArgs false

/-! ### rails_Rails_ReadyAt: function 68 -/
end Go.Proofs.Ytfhhklkmbcnhnaa.Sim

namespace Go.Proofs.Ytfhhklkmbcnhnaa.Sim
open Go
set_option linter.unusedVariables false
set_option linter.unusedSimpArgs false

/-! ### rails_Rails_Powered: function 56 -/
end Go.Proofs.Ytfhhklkmbcnhnaa.Sim

namespace Go.Proofs.Ytfhhklkmbcnhnaa.Sim
open Go
set_option linter.unusedVariables false
set_option linter.unusedSimpArgs false

/-! ### ref25_Rails_bad: function 69 -/
end Go.Proofs.Ytfhhklkmbcnhnaa.Sim

namespace Go.Proofs.Ytfhhklkmbcnhnaa.Sim
open Go
set_option linter.unusedVariables false
set_option linter.unusedSimpArgs false

/-! ### ref25_Rails_Acquire: function 58 -/
end Go.Proofs.Ytfhhklkmbcnhnaa.Sim

namespace Go.Proofs.Ytfhhklkmbcnhnaa.Sim
open Go
set_option linter.unusedVariables false
set_option linter.unusedSimpArgs false

/-! ### ref25_Rails_Count: function 37 -/
end Go.Proofs.Ytfhhklkmbcnhnaa.Sim

namespace Go.Proofs.Ytfhhklkmbcnhnaa.Sim
open Go
set_option linter.unusedVariables false
set_option linter.unusedSimpArgs false

/-! ### ref25_Rails_own: function 71 -/
end Go.Proofs.Ytfhhklkmbcnhnaa.Sim

namespace Go.Proofs.Ytfhhklkmbcnhnaa.Sim
open Go
set_option linter.unusedVariables false
set_option linter.unusedSimpArgs false

/-! ### ref25_Rails_Powered: function 60 -/
end Go.Proofs.Ytfhhklkmbcnhnaa.Sim

namespace Go.Proofs.Ytfhhklkmbcnhnaa.Sim
open Go
set_option linter.unusedVariables false
set_option linter.unusedSimpArgs false

/-! ### ref25_Rails_Release: function 59 -/
end Go.Proofs.Ytfhhklkmbcnhnaa.Sim

namespace Go.Proofs.Ytfhhklkmbcnhnaa.Sim
open Go
set_option linter.unusedVariables false
set_option maxRecDepth 100000

structure Ms where
  t : Int
  c : Fn
  d : Fn
def mcall (xs : List api_Rail) (s : Ms) (rel : Bool) (k u : Int) : Ms × List api_RailOp × Int :=
  if 0 ≤ k ∧ k < xs.length ∧ s.t ≤ u ∧ u ≤ 1152921504606846976 then
    if rel = true then (if s.c k - fed xs s.c k xs.length = 0 then (s, [], 9) else (⟨u, (aoff xs u 8 s.c s.d k).1, (aoff xs u 8 s.c s.d k).2.1⟩, (aoff xs u 8 s.c s.d k).2.2, 0))
    else (⟨u, (aon xs u 8 s.c s.d k).1, (aon xs u 8 s.c s.d k).2.1⟩, (aon xs u 8 s.c s.d k).2.2, 0)
  else (s, [], 1)
def musg (u : Fn) (r : Int) (rel : Bool) (k : Int) : Fn := if r = 0 then (if rel = true then set u k (u k - 1) else set u k (u k + 1)) else u
def RI (xs : List api_Rail) (a : rails_Rails) (s : Ms) : Prop := a.now = s.t ∧ RepL xs a.list s.c s.d
structure Gs (xs : List api_Rail) (j : Nat) (s : Ms) (u : Fn) : Prop where
  inv : Inv xs s.c s.d u
  c1 : ∀ i, s.c i ≤ j
  d1 : ∀ i, s.d i ≤ 1152921504606846976 + 160 * j
  t0 : 0 ≤ s.t
  t1 : s.t ≤ 1152921504606846976

section
variable {xs : List api_Rail} {rk : Int → Nat} {t : Int}

theorem aon_c (T : Tree xs rk) : ∀ (f : Nat) (c d : Fn) (k i : Int), c i ≤ (aon xs t f c d k).1 i ∧ (aon xs t f c d k).1 i ≤ c i + 1
  | 0, c, d, k, i => by simp only [aon]; omega
  | f + 1, c, d, k, i => by
    rw [aon]
    split
    · unfold set; simp only; split <;> (try subst i) <;> omega
    · split
      · rename_i h2
        have h3 := aon_frame T (t := t) f c d (sp xs k) k (T.r k h2)
        have h4 := aon_c T f c d (sp xs k) i
        unfold set; simp only; split <;> (try subst i) <;> omega
      · unfold set; simp only; split <;> (try subst i) <;> omega
theorem aoff_c : ∀ (f : Nat) (c d : Fn) (k i : Int), (aoff xs t f c d k).1 i ≤ c i
  | 0, c, d, k, i => by simp only [aoff]; omega
  | f + 1, c, d, k, i => by
    have hs : set c k (c k - 1) i ≤ c i := by unfold set; split <;> (try subst i) <;> omega
    rw [aoff]
    split
    · exact hs
    · simp only
      split
      · exact Int.le_trans (aoff_c f _ _ _ i) hs
      · exact hs

theorem mcall_good (T : Tree xs rk) {j : Nat} {s : Ms} {u : Fn} (g : Gs xs j s u) (rel : Bool) (k v : Int) :
    Gs xs (j + 1) (mcall xs s rel k v).1 (musg u (mcall xs s rel k v).2.2 rel k) ∧ Rp xs (pos s.c) s.d (mcall xs s rel k v).2.1 (pos (mcall xs s rel k v).1.c) (mcall xs s rel k v).1.d ∧ (mcall xs s rel k v).2.1.length ≤ 8 := by
  have same : Gs xs (j + 1) s u := ⟨g.inv, fun i => by have := g.c1 i; omega, fun i => by have := g.d1 i; omega, g.t0, g.t1⟩
  have hd : ∀ i, 0 ≤ s.d i ∧ s.d i ≤ 1152921504606846976 + 160 * j := fun i => ⟨g.inv.d0 i, g.d1 i⟩
  unfold mcall musg
  split
  · rename_i h
    obtain ⟨k0, k1, h1, h2⟩ := h
    have v0 : 0 ≤ v := by have := g.t0; omega
    have hbal := g.inv.bal k k0 k1
    have huk := g.inv.u0 k
    by_cases hr : rel = true
    · rw [if_pos hr]
      by_cases hz : s.c k - fed xs s.c k xs.length = 0
      · rw [if_pos hz]; simp only; exact ⟨same, .nil _ _, by simp⟩
      · rw [if_neg hz]; simp only
        rw [if_pos trivial, if_pos hr]
        obtain ⟨a1, a2⟩ := off_inv T v0 8 s.c s.d (set u k (u k - 1)) k (T.b k) k0 k1 g.inv.c0 g.inv.d0 (fun i => by have := g.inv.u0 i; unfold set; split <;> omega)
          (fun i i0 i1 => by
            have := g.inv.bal i i0 i1
            unfold set
            by_cases e : i = k
            · subst e; rw [if_pos rfl, if_pos rfl]; omega
            · rw [if_neg e, if_neg e]; omega) g.inv.pow
        have hb := aoff_bound T (t := v) 8 (1152921504606846976 + 160 * j) s.c s.d k v0 (by omega) hd
        exact ⟨⟨a1, fun i => by have := g.c1 i; have := aoff_c (xs := xs) (t := v) 8 s.c s.d k i; simp only; omega, fun i => by have := hb.1 i; simp only; omega, v0, h2⟩, a2, hb.2⟩
    · rw [if_neg hr]; simp only
      rw [if_pos trivial, if_neg hr]
      obtain ⟨a1, a2, _⟩ := on_inv T v0 8 s.c s.d (set u k (u k + 1)) k (T.b k) k0 k1 g.inv.c0 g.inv.d0 (fun i => by have := g.inv.u0 i; unfold set; split <;> omega) (by rw [set_self]; omega)
          (fun i i0 i1 => by
            have := g.inv.bal i i0 i1
            unfold set
            by_cases e : i = k
            · subst e; rw [if_pos rfl, if_pos rfl]; omega
            · rw [if_neg e, if_neg e]; omega) g.inv.pow
      have hb := aon_bound T (t := v) (B := 1152921504606846976 + 160 * j) v0 (by omega) 8 s.c s.d k hd
      exact ⟨⟨a1, fun i => by have := g.c1 i; have := aon_c T (t := v) 8 s.c s.d k i; simp only; omega, fun i => by have := hb.1 i; simp only; omega, v0, h2⟩, a2, hb.2⟩
  · simp only; exact ⟨same, .nil _ _, by simp⟩

theorem own_ok (T : Tree xs rk) {a : rails_Rails} {s : Ms} (h : RI xs a s) {k : Int} (k0 : 0 ≤ k) (k1 : k < xs.length) (hc : 0 ≤ s.c k ∧ s.c k ≤ 1000) : rails_Rails_own.f a k = some (s.c k - fed xs s.c k xs.length) := by
  have hn := T.n
  unfold rails_Rails_own.f
  rw [h.2.get k0 k1, Option.bind_some]
  simp only
  have : rails_Rails_own.l0 a k FUEL (s.c k) 0 = some (s.c k - fed xs s.c k xs.length) := by
    refine loop_c (L := fun fu (m : Int) i => rails_Rails_own.l0 a k fu m i) xs.length (fun i m => m = s.c k - fed xs s.c k i) (fun o => o = some (s.c k - fed xs s.c k xs.length)) ?_ ?_ FUEL 0 (s.c k) (Nat.zero_le _) (FUEL_pos (by omega)) (by simp [fed])
    · rintro fu m i hi rfl
      have hf := fed_nonneg (xs := xs) s.c k i
      rw [rails_Rails_own.l0, h.2.1, if_pos (by simp; omega), h.2.get (by omega) (by omega), Option.bind_some, fed]
      refine .inl ⟨_, rfl, ?_⟩
      have e : (rl xs (i : Int)).Supply = sp xs i := rfl
      simp only [e]
      by_cases hs : sp xs i = k ∧ 0 < s.c i
      · rw [if_pos (by simpa using hs), if_pos hs, Option.bind_some, wi_succ (by omega), wi_id (by omega) (by omega)]; congr 1; omega
      · rw [if_neg (by simpa using hs), if_neg hs, Option.bind_some, wi_succ (by omega)]; congr 1; omega
    · rintro fu m rfl
      rw [rails_Rails_own.l0, h.2.1, if_neg (by simp)]
  rw [this]; rfl
theorem FUEL_8 : 8 ≤ FUEL := by unfold FUEL; omega

theorem acquire_ok (T : Tree xs rk) {j : Nat} {s : Ms} {u : Fn} (g : Gs xs j s u) (hj : j ≤ 1000) {a : rails_Rails} (h : RI xs a s) (k v : Int) :
    ∃ a', rails_Rails_Acquire.f a k v = some (a', (mcall xs s false k v).2.1, (mcall xs s false k v).2.2) ∧ RI xs a' (mcall xs s false k v).1 := by
  unfold rails_Rails_Acquire.f rails_Rails_check.f rails_Rails_has.f mcall
  simp only [Option.bind_some, h.1, h.2.1]
  by_cases hc : 0 ≤ k ∧ k < xs.length ∧ s.t ≤ v ∧ v ≤ 1152921504606846976
  · rw [if_pos hc, if_neg (by simp [hc]), if_neg (by simp)]
    obtain ⟨k0, k1, h1, h2⟩ := hc
    have ht := g.t0
    obtain ⟨l', e1, e2⟩ := on_ok T (t := v) (tm := v) 8 FUEL (1152921504606846976 + 160 * j) a.list s.c s.d k (T.b k) FUEL_8 k0 k1 h.2 (fun i => ⟨g.inv.c0 i, by have := g.c1 i; omega⟩) (fun i => ⟨g.inv.d0 i, g.d1 i⟩) (by omega) (by omega) (by omega) (by omega)
    rw [show rails_Rails_on.f (rails_Rails.mk a.list v) k v = _ from e1, Option.bind_some]
    exact ⟨_, rfl, rfl, e2⟩
  · rw [if_neg hc, if_pos (by simp; omega)]
    exact ⟨a, rfl, h⟩
theorem release_ok (T : Tree xs rk) {j : Nat} {s : Ms} {u : Fn} (g : Gs xs j s u) (hj : j ≤ 1000) {a : rails_Rails} (h : RI xs a s) (k v : Int) :
    ∃ a', rails_Rails_Release.f a k v = some (a', (mcall xs s true k v).2.1, (mcall xs s true k v).2.2) ∧ RI xs a' (mcall xs s true k v).1 := by
  unfold rails_Rails_Release.f rails_Rails_check.f rails_Rails_has.f mcall
  simp only [Option.bind_some, h.1, h.2.1]
  by_cases hc : 0 ≤ k ∧ k < xs.length ∧ s.t ≤ v ∧ v ≤ 1152921504606846976
  · rw [if_pos hc, if_neg (by simp [hc]), if_pos trivial]
    obtain ⟨k0, k1, h1, h2⟩ := hc
    have ht := g.t0
    have hcj : ∀ i, 0 ≤ s.c i ∧ s.c i ≤ 1000 := fun i => ⟨g.inv.c0 i, by have := g.c1 i; omega⟩
    rw [own_ok T h k0 k1 (hcj k), Option.bind_some]
    by_cases hz : s.c k - fed xs s.c k xs.length = 0
    · rw [if_pos hz, if_pos (by simpa using hz)]; exact ⟨a, rfl, h⟩
    · rw [if_neg hz, if_neg (by simpa using hz)]
      obtain ⟨l', e1, e2⟩ := off_ok T (t := v) (tm := v) 8 FUEL (1152921504606846976 + 160 * j) a.list s.c s.d k (T.b k) FUEL_8 k0 k1 h.2 (fun i => by have := hcj i; omega) (fun i => ⟨g.inv.d0 i, g.d1 i⟩) (by omega) (by omega) (by omega) (by omega) (fun i _ => by have := hcj i; omega)
      rw [show rails_Rails_off.f (rails_Rails.mk a.list v) k v = _ from e1, Option.bind_some]
      exact ⟨_, rfl, rfl, e2⟩
  · rw [if_neg hc, if_pos (by simp; omega)]
    exact ⟨a, rfl, h⟩
/-! ### queries -/

end
end Go.Proofs.Ytfhhklkmbcnhnaa.Sim

namespace Go.Proofs.Ytfhhklkmbcnhnaa.Sim
open Go
set_option linter.unusedVariables false
set_option linter.unusedSimpArgs false

/-! ### help_Equal_api_RailOp: function 34 -/
end Go.Proofs.Ytfhhklkmbcnhnaa.Sim

namespace Go.Proofs.Ytfhhklkmbcnhnaa.Sim
open Go
set_option linter.unusedVariables false
section
variable {xs : List api_Rail} {rk : Int → Nat} {t : Int}

theorem tree_of (hn : xs.length ≤ 8) (h : ∀ i x, idx xs i = some x → (-1 ≤ x.Supply ∧ x.Supply < xs.length) ∧ (0 ≤ x.Supply → rk x.Supply < rk i) ∧ (0 ≤ x.RampUp ∧ x.RampUp ≤ 20) ∧ (0 ≤ x.RampDown ∧ x.RampDown ≤ 20)) (hb : ∀ i, rk i < 8) : Tree xs rk := by
  have hx : ∀ i, (∃ x, idx xs i = some x ∧ rl xs i = x) ∨ rl xs i = api_Rail.mk (-1) 0 0 := fun i => by
    rcases he : idx xs i with _ | x
    · right; unfold rl; rw [he]; rfl
    · left; exact ⟨x, rfl, rl_of he⟩
  refine ⟨hn, fun i => ?_, fun i => ?_, hb, fun i => ?_, fun i => ?_⟩
  all_goals
    rcases hx i with ⟨x, h1, h2⟩ | h2
    · have := h i x h1
      (try unfold sp)
      rw [h2]
      first | exact this.1 | exact this.2.1 | exact this.2.2.1 | exact this.2.2.2
    · (try unfold sp)
      rw [h2]
      simp <;> omega

theorem Tree.code (T : Tree xs rk) : newcode xs = 0 := by
  have hn := T.n
  have hb : ¬ xs.any (badR xs.length) = true := by
    intro hh
    obtain ⟨x, h1, h2⟩ := List.any_eq_true.1 hh
    obtain ⟨i, hi, rfl⟩ := List.getElem_of_mem h1
    have e := rl_of (idx_get hi)
    have a1 := T.s (i : Int)
    have a2 := T.u (i : Int)
    have a3 := T.d (i : Int)
    unfold sp at a1
    rw [e] at a1 a2 a3
    simp [badR] at h2
    omega
  unfold newcode
  rw [if_neg (by omega), if_neg hb, if_neg]
  intro hc
  obtain ⟨i, h0, h1, h2⟩ := ord_cyclic (links_good (by omega) hb) hc
  have key : ∀ {a b : Int}, Path (links xs) a b → rk b < rk a := by
    intro a b hp
    have hl : ∀ {a b : Int}, api_Link.mk a b ∈ links xs → rk b < rk a := fun {a b} hm => by
      obtain ⟨j, x, h3, h4, h5, h6⟩ := mem_linksTo.1 hm
      injection h6 with h6 h7
      have h8 : idx xs a = some x := by rw [h6, idx_nat (by omega)]; simpa using h4
      have := T.r a (by rw [sp_of h8]; exact h5)
      rw [sp_of h8] at this
      rw [h7]; exact this
    induction hp with
    | one h => exact hl h
    | more h _ ih => exact Nat.lt_trans ih (hl h)
  have := key h2
  omega

def st0 : Ms := ⟨0, fun _ => 0, fun _ => 0⟩
theorem idx_map {α β : Type} (f : α → β) {l : List α} {i : Int} {x : α} (h : idx l i = some x) : idx (l.map f) i = some (f x) := by
  have h0 := idx_lo h
  rw [idx_nat h0] at h ⊢
  rw [List.getElem?_map, h]; rfl
theorem rnew_tree (T : Tree xs rk) : rails_New.f xs = some (some (rails_Rails.mk (xs.map rail0) 0), 0) ∧ RI xs (rails_Rails.mk (xs.map rail0) 0) st0 := by
  refine ⟨by rw [rnew_ok, if_pos T.code], rfl, by simp, fun i x hx => ?_⟩
  rw [idx_map rail0 hx]; rfl
theorem fed_st0 (k : Int) : ∀ m, fed xs st0.c k m = 0
  | 0 => rfl
  | m + 1 => by rw [fed, fed_st0 k m, if_neg]; · rfl
                intro h; exact absurd h.2 (by simp [st0])
theorem gs0 : Gs xs 0 st0 (fun _ => 0) :=
  ⟨⟨fun _ => Int.le_refl _, fun _ => Int.le_refl _, fun _ => Int.le_refl _, fun i _ _ => by rw [fed_st0]; rfl, fun _ _ _ h _ => absurd h (by simp [st0])⟩, fun _ => by simp [st0], fun _ => by simp [st0], Int.le_refl _, by simp [st0]⟩

/-! ### the rails of the statements -/

theorem u64_range {x : Int} (h : (Lit.int .u64 x).wf = true) : 0 ≤ x ∧ x < 18446744073709551616 := by
  simp [Lit.wf, IntKind.min, IntKind.max, IntKind.signed, IntKind.bits] at h; omega
theorem tmod_range {x : Int} (n : Int) (hn : 0 < n) (h : 0 ≤ x) : 0 ≤ Int.tmod x n ∧ Int.tmod x n < n := by
  rw [Int.tmod_eq_emod_of_nonneg h]
  exact ⟨Int.emod_nonneg x (by omega), Int.emod_lt_of_pos x hn⟩

def Okx (n : Int) (x : api_Rail) : Prop := (-1 ≤ x.Supply ∧ x.Supply < n) ∧ (0 ≤ x.RampUp ∧ x.RampUp ≤ 20) ∧ (0 ≤ x.RampDown ∧ x.RampDown ≤ 20)
theorem some_l0 (raw : List api_Rail) (hl : raw.length ≤ maxLen) (hw : ∀ x ∈ raw, Wf_api_Rail x) : ∃ ys, law25_Some.l0 raw FUEL [] 0 = some ys ∧ ys.length ≤ 8 ∧ ∀ (i : Nat) (h : i < ys.length), Okx i ys[i] := by
  rw [maxLen_eq] at hl
  refine loop_c (L := fun fu (s : List api_Rail) i => law25_Some.l0 raw fu s i) (min raw.length 8) (fun i s => s.length = i ∧ ∀ (j : Nat) (h : j < s.length), Okx j s[j])
    (fun o => ∃ ys, o = some ys ∧ ys.length ≤ 8 ∧ ∀ (i : Nat) (h : i < ys.length), Okx i ys[i]) ?_ ?_ FUEL 0 [] (Nat.zero_le _) (FUEL_pos (by omega)) ⟨rfl, fun j h => absurd h (by simp)⟩
  · intro fu s i hi hI
    obtain ⟨h1, h2⟩ := hI
    have hir : i < raw.length := by omega
    rw [law25_Some.l0, if_pos (by simp; omega), idx_get hir, Option.bind_some]
    obtain ⟨r, hr, r0, r1⟩ := mod_ok (x := raw[i].Supply) (n := ((i + 1 : Nat) : Int)) (by omega) (by omega)
    have hwx := hw _ (List.getElem_mem hir)
    have hu := tmod_range 20 (by omega) (u64_range hwx.2.1).1
    have hd := tmod_range 20 (by omega) (u64_range hwx.2.2).1
    rw [wi_succ (by omega), hr, Option.bind_some, wi_id (by omega) (by omega), app_ok (by simp; omega), Option.bind_some]
    refine .inl ⟨_, ⟨by simp [h1], ?_⟩, rfl⟩
    intro j hj
    rw [List.getElem_append]
    split
    · exact h2 j _
    · rename_i hj2
      simp only [List.length_append, List.length_singleton] at hj
      simp only [List.getElem_singleton]
      refine ⟨⟨?_, ?_⟩, ⟨?_, ?_⟩, ?_, ?_⟩ <;> simp only <;> omega
  · intro fu s hI
    obtain ⟨h1, h2⟩ := hI
    rw [law25_Some.l0, if_neg (by simp; omega)]
    exact ⟨s, rfl, by omega, h2⟩

theorem some_l1 (v : List api_Rail) (hn : v.length ≤ 8) (hv : ∀ (i : Nat) (h : i < v.length), Okx i v[i]) :
    ∃ ys, law25_Some.l1 v FUEL (List.replicate v.length (api_Rail.mk 0 0 0)) 0 = some ys ∧ ys.length = v.length ∧ ∀ j y, idx ys j = some y → Okx v.length y ∧ (0 ≤ y.Supply → j < y.Supply) := by
  refine loop_c (L := fun fu (s : List api_Rail) i => law25_Some.l1 v fu s i) v.length (fun i s => s.length = v.length ∧ ∀ j y, idx s j = some y → (v.length : Int) ≤ j + i → Okx v.length y ∧ (0 ≤ y.Supply → j < y.Supply))
    (fun o => ∃ ys, o = some ys ∧ ys.length = v.length ∧ ∀ j y, idx ys j = some y → Okx v.length y ∧ (0 ≤ y.Supply → j < y.Supply)) ?_ ?_ FUEL 0 _ (Nat.zero_le _) (FUEL_pos (by omega)) ⟨by simp, fun j y h1 h2 => absurd (idx_hi h1) (by simp; omega)⟩
  · intro fu s i hi hI
    obtain ⟨h1, h2⟩ := hI
    have hx := hv i hi
    rw [law25_Some.l1, if_pos (by simp; omega), idx_get hi, Option.bind_some]
    generalize v[i] = x at hx
    obtain ⟨⟨a1, a2⟩, a3, a4⟩ := hx
    have e1 : wi ((v.length : Int) - 1) = (v.length : Int) - 1 := wi_id (by omega) (by omega)
    have e2 : wi ((v.length : Int) - 1 - i) = (v.length : Int) - 1 - i := wi_id (by omega) (by omega)
    obtain ⟨z, hz, _⟩ := idx_of (xs := s) (i := (v.length : Int) - 1 - i) (by omega) (by omega)
    have fin : ∀ y : api_Rail, Okx v.length y → (0 ≤ y.Supply → (v.length : Int) - 1 - i < y.Supply) → ∃ s', (s'.length = v.length ∧ ∀ j y, idx s' j = some y → (v.length : Int) ≤ j + ((i + 1 : Nat) : Int) → Okx v.length y ∧ (0 ≤ y.Supply → j < y.Supply)) ∧
        ((idx s (wi (wi ((v.length : Int) - 1) - i))).bind fun x152 => law25_Some.l1 v fu (upd s (wi (wi ((v.length : Int) - 1) - i)) y) (wi ((i : Int) + 1))) = law25_Some.l1 v fu s' ((i + 1 : Nat) : Int) := by
      intro y y1 y2
      refine ⟨upd s ((v.length : Int) - 1 - i) y, ⟨by rw [upd_length]; exact h1, ?_⟩, ?_⟩
      · intro j q hq hj
        by_cases e : (v.length : Int) - 1 - i = j
        · subst e
          rw [idx_upd_self hz] at hq
          cases hq; exact ⟨y1, y2⟩
        · rw [idx_upd_ne (by omega) e] at hq
          exact h2 j q hq (by omega)
      · rw [e1, e2, hz, Option.bind_some, wi_succ (by omega)]
    by_cases h0 : 0 ≤ x.Supply
    · rw [if_pos (by simpa using h0), Option.bind_some]
      have e3 : wi (wi ((v.length : Int) - 1) - x.Supply) = (v.length : Int) - 1 - x.Supply := by rw [e1, wi_id (by omega) (by omega)]
      rw [e3]
      exact .inl (fin (api_Rail.mk ((v.length : Int) - 1 - x.Supply) x.RampUp x.RampDown) ⟨⟨by simp only; omega, by simp only; omega⟩, a3, a4⟩ (fun _ => by simp only; omega))
    · rw [if_neg (by simpa using h0), Option.bind_some]
      exact .inl (fin x ⟨⟨a1, by omega⟩, a3, a4⟩ (fun h => absurd h h0))
  · intro fu s hI
    obtain ⟨h1, h2⟩ := hI
    rw [law25_Some.l1, if_neg (by simp)]
    exact ⟨s, rfl, h1, fun j y h3 => h2 j y h3 (by have := idx_lo h3; omega)⟩

theorem some_ok (raw : List api_Rail) (hl : raw.length ≤ maxLen) (hw : ∀ x ∈ raw, Wf_api_Rail x) : ∃ xs rk, law25_Some.f raw = some xs ∧ Tree xs rk := by
  obtain ⟨v, h1, h2, h3⟩ := some_l0 raw hl hw
  unfold law25_Some.f
  rw [h1, Option.bind_some]
  by_cases ho : (Int.tmod (v.length : Int) 2 == 1) = true
  · rw [if_pos ho, mk_ok (by omega), Option.bind_some]
    obtain ⟨ys, e1, e2, e3⟩ := some_l1 v h2 h3
    rw [e1]
    refine ⟨ys, fun i => if 0 ≤ i ∧ i < ys.length then (ys.length - 1 - i.toNat) else 0, rfl, tree_of (by omega) (fun i x hx => ?_) (fun i => by split <;> omega)⟩
    obtain ⟨⟨⟨a1, a2⟩, a3, a4⟩, a5⟩ := e3 i x hx
    have i0 := idx_lo hx
    have i1 := idx_hi hx
    rw [← e2] at a2
    refine ⟨⟨a1, a2⟩, fun h => ?_, a3, a4⟩
    have := a5 h
    rw [if_pos ⟨h, a2⟩, if_pos ⟨i0, i1⟩]
    omega
  · rw [if_neg ho]
    refine ⟨v, fun i => if 0 ≤ i ∧ i < v.length then i.toNat else 0, rfl, tree_of h2 (fun i x hx => ?_) (fun i => by split <;> omega)⟩
    have i0 := idx_lo hx
    have i1 := idx_hi hx
    obtain ⟨n, rfl⟩ := Int.eq_ofNat_of_zero_le i0
    have hi : n < v.length := by omega
    rw [idx_get hi] at hx
    cases hx
    obtain ⟨⟨a1, a2⟩, a3, a4⟩ := h3 n hi
    refine ⟨⟨a1, by omega⟩, fun h => ?_, a3, a4⟩
    rw [if_pos ⟨h, by omega⟩, if_pos ⟨i0, i1⟩]
    omega

end
end Go.Proofs.Ytfhhklkmbcnhnaa.Sim

namespace Go.Proofs.Ytfhhklkmbcnhnaa.Sim
open Go
set_option linter.unusedVariables false
set_option linter.unusedSimpArgs false

/-! ### ref27_ascending: function 47 -/
end Go.Proofs.Ytfhhklkmbcnhnaa.Sim

namespace Go.Proofs.Ytfhhklkmbcnhnaa.Sim
open Go
set_option linter.unusedVariables false

/-- Neighbours rise. -/
def asc : List Int → Bool
  | a :: b :: t => decide (a < b) && asc (b :: t)
  | _ => true

theorem asc_drop {xs : List Int} {i : Nat} (h : i + 1 < xs.length) : asc (xs.drop i) = (decide (xs[i] < xs[i + 1]) && asc (xs.drop (i + 1))) := by
  rw [List.drop_eq_getElem_cons (by omega : i < xs.length), List.drop_eq_getElem_cons h]
  rfl

theorem asc_last {xs : List Int} {i : Nat} (h : xs.length ≤ i + 1) : asc (xs.drop i) = true := by
  rcases Nat.lt_or_ge i xs.length with h1 | h1
  · rw [List.drop_eq_getElem_cons h1, List.drop_of_length_le h]; rfl
  · rw [List.drop_of_length_le h1]; rfl

theorem asc_pairwise : ∀ {xs : List Int}, asc xs = true ↔ xs.Pairwise (· < ·)
  | [] => by simp [asc]
  | [a] => by simp [asc]
  | a :: b :: t => by
    rw [asc, Bool.and_eq_true, asc_pairwise (xs := b :: t), List.pairwise_cons (a := a)]
    simp only [decide_eq_true_eq]
    constructor
    · rintro ⟨h1, h2⟩
      refine ⟨fun y hy => ?_, h2⟩
      rcases List.mem_cons.1 hy with rfl | hy
      · exact h1
      · have := List.rel_of_pairwise_cons h2 hy; omega
    · rintro ⟨h1, h2⟩
      exact ⟨h1 b (by simp), h2⟩

theorem ascending_l0 (xs : List Int) (hx : xs.length ≤ maxLen) : ∀ (d fuel i : Nat), i + d = xs.length → d < fuel → device_ascending.l0 xs fuel ((i : Int) + 1) = if asc (xs.drop i) = true then some (.nxt ()) else some (.out false) := by
  rw [maxLen_eq] at hx
  intro d
  induction d with
  | zero =>
    intro fuel i h1 h2
    obtain ⟨k, rfl⟩ : ∃ m, fuel = m + 1 := ⟨fuel - 1, by omega⟩
    rw [device_ascending.l0, if_neg (by simp; omega), asc_last (by omega), if_pos rfl]
  | succ d ih =>
    intro fuel i h1 h2
    obtain ⟨k, rfl⟩ : ∃ m, fuel = m + 1 := ⟨fuel - 1, by omega⟩
    rw [device_ascending.l0]
    by_cases hlt : i + 1 < xs.length
    · rw [if_pos (by simp; omega), show ((i : Int) + 1) = ((i + 1 : Nat) : Int) from rfl, idx_get hlt, wi_id (by omega) (by omega), show (((i + 1 : Nat) : Int) - 1) = (i : Int) from by omega, idx_get (by omega)]
      simp only [Option.bind_some, decide_eq_true_eq]
      rw [asc_drop hlt]
      by_cases hc : xs[i + 1] ≤ xs[i]
      · rw [if_pos hc, if_neg (by simp; omega)]
      · rw [if_neg hc, wi_id (by omega) (by omega), ih k (i + 1) (by omega) (by omega)]
        have : decide (xs[i] < xs[i + 1]) = true := by simp; omega
        rw [this, Bool.true_and]
    · rw [if_neg (by simp; omega), asc_last (by omega), if_pos rfl]

theorem FUEL_lt {n : Nat} (h : n ≤ maxLen) : n < FUEL := by rw [maxLen_eq] at h; unfold FUEL; omega

theorem ascending_ok (xs : List Int) (hx : xs.length ≤ maxLen) : device_ascending.f xs = some (asc xs) := by
  unfold device_ascending.f
  have h := ascending_l0 xs hx xs.length FUEL 0 (by omega) (FUEL_lt hx)
  simp only [Int.natCast_zero, Int.zero_add, List.drop_zero] at h
  rw [show (1 : Int) = ((0 : Nat) : Int) + 1 from rfl] at *
  simp only [Int.natCast_zero, Int.zero_add] at *
  rw [h]
  cases asc xs <;> rfl

theorem awake_ok : law27_awake.f = some true := by kernel_rfl

end Go.Proofs.Ytfhhklkmbcnhnaa.Sim

namespace Go.Proofs.Ytfhhklkmbcnhnaa.Sim
open Go
set_option linter.unusedVariables false
set_option linter.unusedSimpArgs false

/-! ### ref27_has: function 48 -/
end Go.Proofs.Ytfhhklkmbcnhnaa.Sim

namespace Go.Proofs.Ytfhhklkmbcnhnaa.Sim
open Go
set_option linter.unusedVariables false
set_option linter.unusedSimpArgs false

/-! ### ref27_needs: function 46 -/
end Go.Proofs.Ytfhhklkmbcnhnaa.Sim

namespace Go.Proofs.Ytfhhklkmbcnhnaa.Sim
open Go
set_option linter.unusedVariables false
set_option linter.unusedSimpArgs false

/-! ### ref27_Change: function 22 -/
end Go.Proofs.Ytfhhklkmbcnhnaa.Sim

namespace Go.Proofs.Ytfhhklkmbcnhnaa.Sim
open Go
set_option linter.unusedVariables false

theorem index_l0 (xs : List Int) (v : Int) (hx : xs.length ≤ maxLen) : ∀ (d fuel i : Nat), i + d = xs.length → d < fuel →
    (v ∈ xs.drop i ∧ ∃ j, 0 ≤ j ∧ slices_Index_int_int.l0 xs v fuel (i : Int) = some (.out j)) ∨ (v ∉ xs.drop i ∧ slices_Index_int_int.l0 xs v fuel (i : Int) = some (.nxt ())) := by
  rw [maxLen_eq] at hx
  intro d
  induction d with
  | zero =>
    intro fuel i h1 h2
    obtain ⟨k, rfl⟩ : ∃ m, fuel = m + 1 := ⟨fuel - 1, by omega⟩
    refine .inr ⟨by rw [List.drop_of_length_le (by omega)]; simp, ?_⟩
    rw [slices_Index_int_int.l0, if_neg (by simp <;> omega)]
  | succ d ih =>
    intro fuel i h1 h2
    obtain ⟨k, rfl⟩ : ∃ m, fuel = m + 1 := ⟨fuel - 1, by omega⟩
    have hlt : i < xs.length := by omega
    rw [slices_Index_int_int.l0, if_pos (by simp <;> omega), idx_get hlt, List.drop_eq_getElem_cons hlt]
    simp only [Option.bind_some, beq_iff_eq]
    by_cases e : v = xs[i]
    · rw [if_pos e]
      exact .inl ⟨by rw [← e]; simp, _, by omega, rfl⟩
    · rw [if_neg e, wi_id (by omega) (by omega)]
      rcases ih k (i + 1) (by omega) (by omega) with ⟨h3, h4⟩ | ⟨h3, h4⟩
      · exact .inl ⟨List.mem_cons_of_mem _ h3, h4⟩
      · exact .inr ⟨fun h => (List.mem_cons.1 h).elim e h3, h4⟩

theorem contains_ok (xs : List Int) (v : Int) (hx : xs.length ≤ maxLen) : slices_Contains_int_int.f xs v = some (decide (v ∈ xs)) := by
  unfold slices_Contains_int_int.f slices_Index_int_int.f
  have h := index_l0 xs v hx xs.length FUEL 0 (by omega) (FUEL_lt hx)
  simp only [List.drop_zero, Int.natCast_zero] at h
  rcases h with ⟨h1, j, h2, h3⟩ | ⟨h1, h3⟩
  · rw [h3]; simp [Fl.go, h1, h2]
  · rw [h3]; simp [Fl.go, h1]

/-- What is in a and not in b. -/
def less (a b : List Int) : List Int := a.filter (fun x => !decide (x ∈ b))

theorem without_l0 (a b : List Int) (ha : a.length ≤ 2147483648) (hb : b.length ≤ maxLen) : ∀ (d fuel i : Nat) (acc : List Int), i + d = a.length → d < fuel → acc.length ≤ i →
    device_without.l0 a b fuel acc (i : Int) = some (acc ++ less (a.drop i) b) := by
  intro d
  induction d with
  | zero =>
    intro fuel i acc h1 h2 h3
    obtain ⟨k, rfl⟩ : ∃ m, fuel = m + 1 := ⟨fuel - 1, by omega⟩
    rw [device_without.l0, if_neg (by simp <;> omega), List.drop_of_length_le (by omega)]
    simp [less]
  | succ d ih =>
    intro fuel i acc h1 h2 h3
    obtain ⟨k, rfl⟩ : ∃ m, fuel = m + 1 := ⟨fuel - 1, by omega⟩
    have hlt : i < a.length := by omega
    rw [device_without.l0, if_pos (by simp <;> omega), idx_get hlt, List.drop_eq_getElem_cons hlt]
    simp only [Option.bind_some, contains_ok b _ hb]
    by_cases e : a[i] ∈ b
    · simp only [e, decide_true, Bool.not_true, Bool.false_eq_true, if_false, Option.bind_some]
      rw [wi_id (by omega) (by omega), show ((i : Int) + 1) = ((i + 1 : Nat) : Int) from rfl, ih k (i + 1) acc (by omega) (by omega) (by omega)]
      simp [less, e, -List.getElem_cons_drop]
    · simp only [e, decide_false, Bool.not_false, if_true]
      rw [app_ok (by simp <;> omega)]
      simp only [Option.bind_some]
      rw [wi_id (by omega) (by omega), show ((i : Int) + 1) = ((i + 1 : Nat) : Int) from rfl, ih k (i + 1) (acc ++ [a[i]]) (by omega) (by omega) (by simp <;> omega)]
      simp [less, e, -List.getElem_cons_drop]

theorem without_ok (a b : List Int) (ha : a.length ≤ 2147483648) (hb : b.length ≤ maxLen) : device_without.f a b = some (less a b) := by
  unfold device_without.f
  have h := without_l0 a b ha hb a.length FUEL 0 [] (by omega) (by unfold FUEL; omega) (by simp)
  simp only [Int.natCast_zero, List.drop_zero, List.nil_append] at h
  rw [h]; rfl

theorem turn_l0 : ∀ (n : Nat) (m p s : List Int) (fuel : Nat), m.length ≤ n → (p ++ m ++ s).length ≤ 2147483648 → m.length < fuel →
    slices_Reverse_int_int.l0 fuel (p ++ m ++ s) (p.length : Int) ((p.length : Int) + m.length - 1) = some (p ++ m.reverse ++ s) := by
  intro n
  induction n with
  | zero =>
    intro m p s fuel h1 h2 h3
    obtain ⟨k, rfl⟩ : ∃ q, fuel = q + 1 := ⟨fuel - 1, by omega⟩
    have : m = [] := List.eq_nil_of_length_eq_zero (by omega)
    subst this
    rw [slices_Reverse_int_int.l0, if_neg (by simp <;> omega)]
    simp
  | succ n ih =>
    intro m p s fuel h1 h2 h3
    obtain ⟨k, rfl⟩ : ∃ q, fuel = q + 1 := ⟨fuel - 1, by omega⟩
    rcases Nat.lt_or_ge m.length 2 with h4 | h4
    · rw [slices_Reverse_int_int.l0, if_neg (by simp <;> omega)]
      match m, h4 with
      | [], _ => simp
      | [x], _ => simp
    · obtain ⟨a, m', z, rfl⟩ : ∃ a m' z, m = a :: (m' ++ [z]) := by
        match m, h4 with
        | a :: b :: t, _ => exact ⟨a, (b :: t).dropLast, (b :: t).getLast (by simp), by rw [List.dropLast_concat_getLast]⟩
      simp only [List.length_append, List.length_cons, List.length_nil] at h1 h2 h3 h4
      have hL : (p ++ a :: (m' ++ [z]) ++ s).length = p.length + (m'.length + 2) + s.length := by simp; omega
      have e1 : idx (p ++ a :: (m' ++ [z]) ++ s) ((p.length : Int) + ((a :: (m' ++ [z])).length : Nat) - 1) = some z := by
        have : ((p.length : Int) + ((a :: (m' ++ [z])).length : Nat) - 1) = ((p.length + m'.length + 1 : Nat) : Int) := by simp; omega
        rw [this]; unfold idx; rw [if_pos (by omega), Int.toNat_natCast]
        rw [List.append_assoc, List.getElem?_append_right (by omega), show p.length + m'.length + 1 - p.length = m'.length + 1 from by omega]
        simp
      have e2 : idx (p ++ a :: (m' ++ [z]) ++ s) (p.length : Int) = some a := by
        unfold idx; rw [if_pos (by omega), Int.toNat_natCast, List.append_assoc, List.getElem?_append_right (by omega)]
        simp
      have e3 : upd (p ++ a :: (m' ++ [z]) ++ s) (p.length : Int) z = p ++ z :: (m' ++ [z]) ++ s := by
        unfold upd; rw [Int.toNat_natCast, List.append_assoc, List.set_append_right _ _ (by omega)]
        simp
      have hj : ((p.length : Int) + ((a :: (m' ++ [z])).length : Nat) - 1) = ((p.length + m'.length + 1 : Nat) : Int) := by simp; omega
      have e4 : idx (p ++ z :: (m' ++ [z]) ++ s) ((p.length + m'.length + 1 : Nat) : Int) = some z := by
        unfold idx; rw [if_pos (by omega), Int.toNat_natCast]
        rw [List.append_assoc, List.getElem?_append_right (by omega), show p.length + m'.length + 1 - p.length = m'.length + 1 from by omega]
        simp
      have e5 : upd (p ++ z :: (m' ++ [z]) ++ s) ((p.length + m'.length + 1 : Nat) : Int) a = (p ++ [z]) ++ m' ++ (a :: s) := by
        unfold upd; rw [Int.toNat_natCast, List.append_assoc, List.set_append_right _ _ (by omega), show p.length + m'.length + 1 - p.length = m'.length + 1 from by omega]
        simp
      rw [slices_Reverse_int_int.l0, if_pos (by simp <;> omega), e1, e2]
      simp only [Option.bind_some]
      rw [e3, hj, e4]
      simp only [Option.bind_some]
      rw [e5, wi_id (by omega) (by omega), wi_id (by omega) (by omega)]
      have h5 := ih m' (p ++ [z]) (a :: s) k (by omega) (by simp <;> omega) (by omega)
      rw [show ((p ++ [z]).length : Int) = (p.length : Int) + 1 from by simp] at h5
      rw [show (((p.length + m'.length + 1 : Nat) : Int) - 1) = (p.length : Int) + 1 + (m'.length : Int) - 1 from by omega, h5]
      simp

theorem turn_ok (xs : List Int) (hx : xs.length ≤ 2147483648) : slices_Reverse_int_int.f xs = some xs.reverse := by
  unfold slices_Reverse_int_int.f
  have h := turn_l0 xs.length xs [] [] FUEL (by omega) (by simp <;> omega) (by unfold FUEL; omega)
  simp only [List.nil_append, List.append_nil, List.length_nil, Int.natCast_zero, Int.zero_add] at h
  rw [wi_id (by omega) (by omega), h]

end Go.Proofs.Ytfhhklkmbcnhnaa.Sim

namespace Go.Proofs.Ytfhhklkmbcnhnaa.Sim
open Go
set_option linter.unusedVariables false

/-- The rails of a state. -/
def needs (d : api_PowerDevice) (s : Int) : List Int := if s = 0 then d.Rails.a0 else if s = 1 then d.Rails.a1 else if s = 2 then d.Rails.a2 else if s = 3 then d.Rails.a3 else []

theorem ar4_idx {α : Type} (x : Ar4 α) (i : Int) (h0 : 0 ≤ i) (h1 : i < 4) : idx x.l i = some (if i = 0 then x.a0 else if i = 1 then x.a1 else if i = 2 then x.a2 else x.a3) := by
  have : i = 0 ∨ i = 1 ∨ i = 2 ∨ i = 3 := by omega
  rcases this with rfl | rfl | rfl | rfl <;> rfl
theorem ar6_idx {α : Type} (x : Ar6 α) (i : Int) (h0 : 0 ≤ i) (h1 : i < 6) : idx x.l i = some (if i = 0 then x.a0 else if i = 1 then x.a1 else if i = 2 then x.a2 else if i = 3 then x.a3 else if i = 4 then x.a4 else x.a5) := by
  have : i = 0 ∨ i = 1 ∨ i = 2 ∨ i = 3 ∨ i = 4 ∨ i = 5 := by omega
  rcases this with rfl | rfl | rfl | rfl | rfl | rfl <;> rfl

theorem needs_ok (d : api_PowerDevice) (s : Int) (h0 : 0 ≤ s) (h1 : s ≤ 4) : device_needs.f d s = some (needs d s) := by
  unfold device_needs.f needs
  have : s = 0 ∨ s = 1 ∨ s = 2 ∨ s = 3 ∨ s = 4 := by omega
  rcases this with rfl | rfl | rfl | rfl | rfl <;> rfl
/-- All rails' lists are at most n long. -/
def Few (n : Nat) (d : api_PowerDevice) : Prop := d.Rails.a0.length ≤ n ∧ d.Rails.a1.length ≤ n ∧ d.Rails.a2.length ≤ n ∧ d.Rails.a3.length ≤ n

theorem Few.needs {n : Nat} {d : api_PowerDevice} (h : Few n d) (s : Int) : (needs d s).length ≤ n := by
  obtain ⟨h0, h1, h2, h3⟩ := h
  unfold Sim.needs
  repeat' split
  all_goals first | assumption | simp

def isState (s : Int) : Bool := decide (0 ≤ s) && decide (s ≤ 4)

/-- What Change comes to. -/
def change (d : api_PowerDevice) (s t : Int) : List Int × List Int × Int :=
  if isState s && isState t && asc (needs d s) && asc (needs d t) then (less (needs d t) (needs d s), (less (needs d s) (needs d t)).reverse, 0) else ([], [], 1)

theorem less_length (a b : List Int) : (less a b).length ≤ a.length := List.length_filter_le _ _

theorem change_ok (d : api_PowerDevice) (s t : Int) (h : Few 1000000 d) : device_Change.f d s t = some (change d s t) := by
  unfold device_Change.f device_isState.f change
  by_cases hs : isState s = true
  · by_cases ht : isState t = true
    · have hs' : 0 ≤ s ∧ s ≤ 4 := by simpa [isState] using hs
      have ht' : 0 ≤ t ∧ t ≤ 4 := by simpa [isState] using ht
      have e1 : (decide (0 ≤ s) && decide (s ≤ 4)) = true := hs
      have e2 : (decide (0 ≤ t) && decide (t ≤ 4)) = true := ht
      have l1 := h.needs s
      have l2 := h.needs t
      have m1 : (needs d s).length ≤ maxLen := by rw [maxLen_eq]; omega
      have m2 : (needs d t).length ≤ maxLen := by rw [maxLen_eq]; omega
      have q1 := less_length (needs d s) (needs d t)
      simp only [Option.bind_some, e1, e2, Bool.not_true, Bool.false_eq_true, if_false, needs_ok d s hs'.1 hs'.2, needs_ok d t ht'.1 ht'.2, ascending_ok _ m1, ascending_ok _ m2, hs, ht, Bool.true_and]
      cases ha : asc (needs d s) <;> cases hb : asc (needs d t)
      · simp
      · simp
      · simp
      · simp only [Bool.not_true, Bool.false_eq_true, if_false, Option.bind_some, Bool.and_self, if_true]
        rw [without_ok _ _ (by omega) m1]
        simp only [Option.bind_some]
        rw [without_ok _ _ (by omega) m2]
        simp only [Option.bind_some]
        rw [turn_ok _ (by omega)]
        rfl
    · have e1 : (decide (0 ≤ s) && decide (s ≤ 4)) = true := hs
      have e2 : (decide (0 ≤ t) && decide (t ≤ 4)) = false := by simpa [isState] using ht
      simp only [Bool.not_eq_true] at ht
      simp [e1, e2, hs, ht]
  · have e1 : (decide (0 ≤ s) && decide (s ≤ 4)) = false := by simpa [isState] using hs
    simp only [Bool.not_eq_true] at hs
    simp [e1, hs]

end Go.Proofs.Ytfhhklkmbcnhnaa.Sim

namespace Go.Proofs.Ytfhhklkmbcnhnaa.Sim
open Go
set_option linter.unusedVariables false

/-- Rising numbers from 0 to n - 1, at most three. -/
structure Picked (n : Int) (l : List Int) : Prop where
  few : l.length ≤ 3
  up : l.Pairwise (· < ·)
  lo : ∀ x ∈ l, 0 ≤ x
  hi : ∀ x ∈ l, x < n

theorem pick_l1 (p : List Int) (n : Int) (h0 : 0 < n) (hn : n < 1000) (acc : List Int) (v : Int) (hp : p.length ≤ maxLen) (hacc : acc.length < 1000) : ∀ (d fuel i : Nat), i + d = p.length → d < fuel →
    law27_ascending.l1 p n acc v fuel (i : Int) = some (acc ++ [v]) ∨ law27_ascending.l1 p n acc v fuel (i : Int) = some acc := by
  rw [maxLen_eq] at hp
  intro d
  induction d with
  | zero =>
    intro fuel i h1 h2
    obtain ⟨k, rfl⟩ : ∃ m, fuel = m + 1 := ⟨fuel - 1, by omega⟩
    exact .inr (by rw [law27_ascending.l1, if_neg (by simp; omega)])
  | succ d ih =>
    intro fuel i h1 h2
    obtain ⟨k, rfl⟩ : ∃ m, fuel = m + 1 := ⟨fuel - 1, by omega⟩
    have hlt : i < p.length := by omega
    obtain ⟨r, hr, _, _⟩ := mod_ok (x := p[i]) h0 (by omega)
    rw [law27_ascending.l1, if_pos (by simp; omega), idx_get hlt]
    simp only [Option.bind_some, hr]
    by_cases e : (r == v) = true
    · rw [if_pos e, app_ok (by simp; omega)]
      exact .inl rfl
    · rw [if_neg e, wi_id (by omega) (by omega)]
      exact ih k (i + 1) (by omega) (by omega)

theorem pick_l0 (p : List Int) (n : Int) (h0 : 0 < n) (hn : n < 1000) (hp : p.length ≤ maxLen) : ∀ (d fuel v : Nat) (acc : List Int), (v : Int) + d = n → d < fuel → Picked v acc →
    ∃ r, law27_ascending.l0 p n fuel acc (v : Int) = some r ∧ Picked n r := by
  intro d
  induction d with
  | zero =>
    intro fuel v acc h1 h2 h3
    obtain ⟨k, rfl⟩ : ∃ m, fuel = m + 1 := ⟨fuel - 1, by omega⟩
    have e : (v : Int) = n := by omega
    exact ⟨acc, by rw [law27_ascending.l0, if_neg (by simp; omega)], e ▸ h3⟩
  | succ d ih =>
    intro fuel v acc h1 h2 h3
    obtain ⟨k, rfl⟩ : ∃ m, fuel = m + 1 := ⟨fuel - 1, by omega⟩
    rw [law27_ascending.l0]
    by_cases hl : acc.length < 3
    · rw [if_pos (by simp; omega), wi_id (by omega) (by omega), show ((v : Int) + 1) = ((v + 1 : Nat) : Int) from rfl]
      rcases pick_l1 p n h0 hn acc v hp (by omega) p.length FUEL 0 (by omega) (FUEL_lt hp) with h4 | h4 <;> rw [Int.natCast_zero] at h4 <;> rw [h4] <;> simp only [Option.bind_some]
      · refine ih k (v + 1) _ (by omega) (by omega) ⟨by simp; omega, ?_, ?_, ?_⟩
        · rw [List.pairwise_append]
          refine ⟨h3.up, by simp, fun a ha b hb => ?_⟩
          have := h3.hi a ha
          simp at hb; omega
        · intro x hx
          rcases List.mem_append.1 hx with hx | hx
          · exact h3.lo x hx
          · simp at hx; omega
        · intro x hx
          rcases List.mem_append.1 hx with hx | hx
          · have := h3.hi x hx; omega
          · simp at hx; omega
      · exact ih k (v + 1) _ (by omega) (by omega) ⟨h3.few, h3.up, h3.lo, fun x hx => by have := h3.hi x hx; omega⟩
    · rw [if_neg (by simp; omega)]
      exact ⟨acc, rfl, h3.few, h3.up, h3.lo, fun x hx => by have := h3.hi x hx; omega⟩

theorem pick_ok (p : List Int) (n : Int) (h0 : 0 < n) (hn : n < 1000) (hp : p.length ≤ maxLen) : ∃ r, law27_ascending.f p n = some r ∧ Picked n r := by
  unfold law27_ascending.f
  obtain ⟨r, h1, h2⟩ := pick_l0 p n h0 hn hp n.toNat FUEL 0 [] (by omega) (by unfold FUEL; omega) ⟨by simp, by simp, by simp, by simp⟩
  rw [Int.natCast_zero] at h1
  exact ⟨r, by rw [h1]; rfl, h2⟩

/-- The rails of a device that Some has made. -/
def PickedAll (n : Int) (d : api_PowerDevice) : Prop := Picked n d.Rails.a0 ∧ Picked n d.Rails.a1 ∧ Picked n d.Rails.a2 ∧ Picked n d.Rails.a3
/-- Its deepest states. -/
def Deepens (d : api_PowerDevice) : Prop := d.Deepest.a0 = 0 ∧ 0 ≤ d.Deepest.a1 ∧ d.Deepest.a1 ≤ d.Deepest.a2 ∧ d.Deepest.a2 ≤ d.Deepest.a3 ∧ d.Deepest.a3 ≤ d.Deepest.a4 ∧ d.Deepest.a4 ≤ d.Deepest.a5 ∧ d.Deepest.a5 ≤ 4

theorem Picked.nil (n : Int) : Picked n [] := ⟨by simp, by simp, by simp, by simp⟩

/-- All rails' lists of an argument are lists. -/
def Short (d : api_PowerDevice) : Prop := d.Rails.a0.length ≤ maxLen ∧ d.Rails.a1.length ≤ maxLen ∧ d.Rails.a2.length ≤ maxLen ∧ d.Rails.a3.length ≤ maxLen
theorem Short.of {d : api_PowerDevice} (h : Wf_api_PowerDevice d) : Short d := ⟨h.2.1.1, h.2.2.1.1, h.2.2.2.1.1, h.2.2.2.2.1.1⟩

theorem dsome_l1 (n : Int) (h0 : 0 ≤ n) (hn : n < 1000) (x : api_PowerDevice) (hx : Short x) (d : api_PowerDevice) (hd : PickedAll n d) :
    ∃ r, law27_Some.l1 n x FUEL d 0 = some r ∧ PickedAll n r ∧ r.Deepest = d.Deepest ∧ r.Parent = d.Parent ∧ r.WakeDevice = d.WakeDevice ∧ r.WakeSystem = d.WakeSystem := by
  have hF : FUEL = (18446744073709551611 + 1 + 1 + 1 + 1 + 1) := rfl
  rcases Int.lt_or_eq_of_le h0 with hpos | rfl
  · obtain ⟨r0, e0, q0⟩ := pick_ok x.Rails.a0 n hpos hn hx.1
    obtain ⟨r1, e1, q1⟩ := pick_ok x.Rails.a1 n hpos hn hx.2.1
    obtain ⟨r2, e2, q2⟩ := pick_ok x.Rails.a2 n hpos hn hx.2.2.1
    obtain ⟨r3, e3, q3⟩ := pick_ok x.Rails.a3 n hpos hn hx.2.2.2
    have w0 : wi ((0 : Int) + 1) = 1 := rfl
    have w1 : wi ((1 : Int) + 1) = 2 := rfl
    have w2 : wi ((2 : Int) + 1) = 3 := rfl
    have w3 : wi ((3 : Int) + 1) = 4 := rfl
    refine ⟨{ d with Rails := ⟨r0, r1, r2, r3⟩ }, ?_, ⟨q0, q1, q2, q3⟩, rfl, rfl, rfl, rfl⟩
    rw [hF, law27_Some.l1, if_pos (by simp [hpos]), ar4_idx _ 0 (by omega) (by omega), ar4_idx _ 0 (by omega) (by omega), w0]
    simp only [if_true, Option.bind_some, e0, Ar4.put]
    rw [law27_Some.l1, if_pos (by simp [hpos]), ar4_idx _ 1 (by omega) (by omega), ar4_idx _ 1 (by omega) (by omega), w1]
    simp only [if_true, Option.bind_some, e1, Ar4.put, show ((1 : Int) = 0) = False from by simp, if_false]
    rw [law27_Some.l1, if_pos (by simp [hpos]), ar4_idx _ 2 (by omega) (by omega), ar4_idx _ 2 (by omega) (by omega), w2]
    simp only [if_true, Option.bind_some, e2, Ar4.put, show ((2 : Int) = 0) = False from by simp, show ((2 : Int) = 1) = False from by simp, if_false]
    rw [law27_Some.l1, if_pos (by simp [hpos]), ar4_idx _ 3 (by omega) (by omega), ar4_idx _ 3 (by omega) (by omega), w3]
    simp only [if_true, Option.bind_some, e3, Ar4.put, show ((3 : Int) = 0) = False from by simp, show ((3 : Int) = 1) = False from by simp, show ((3 : Int) = 2) = False from by simp, if_false]
    rw [law27_Some.l1, if_neg (by simp)]
  · exact ⟨d, by rw [hF, law27_Some.l1, if_neg (by simp)], hd, rfl, rfl, rfl, rfl⟩

theorem dsome_l2 (x : api_PowerDevice) (d : api_PowerDevice) (h0 : d.Deepest.a0 = 0) :
    ∃ r, law27_Some.l2 x FUEL d 1 = some r ∧ Deepens r ∧ r.Rails = d.Rails ∧ r.Parent = d.Parent ∧ r.WakeDevice = d.WakeDevice ∧ r.WakeSystem = d.WakeSystem := by
  have hF : FUEL = (18446744073709551610 + 1 + 1 + 1 + 1 + 1 + 1) := rfl
  obtain ⟨r1, e1, l1, u1⟩ := mod_ok (x := x.Deepest.a1) (n := 5) (by omega) (by omega)
  obtain ⟨r2, e2, l2, u2⟩ := mod_ok (x := x.Deepest.a2) (n := 5) (by omega) (by omega)
  obtain ⟨r3, e3, l3, u3⟩ := mod_ok (x := x.Deepest.a3) (n := 5) (by omega) (by omega)
  obtain ⟨r4, e4, l4, u4⟩ := mod_ok (x := x.Deepest.a4) (n := 5) (by omega) (by omega)
  obtain ⟨r5, e5, l5, u5⟩ := mod_ok (x := x.Deepest.a5) (n := 5) (by omega) (by omega)
  have m1 : wi ((1 : Int) - 1) = 0 := rfl
  have m2 : wi ((2 : Int) - 1) = 1 := rfl
  have m3 : wi ((3 : Int) - 1) = 2 := rfl
  have m4 : wi ((4 : Int) - 1) = 3 := rfl
  have m5 : wi ((5 : Int) - 1) = 4 := rfl
  have w1 : wi ((1 : Int) + 1) = 2 := rfl
  have w2 : wi ((2 : Int) + 1) = 3 := rfl
  have w3 : wi ((3 : Int) + 1) = 4 := rfl
  have w4 : wi ((4 : Int) + 1) = 5 := rfl
  have w5 : wi ((5 : Int) + 1) = 6 := rfl
  refine ⟨{ d with Deepest := ⟨d.Deepest.a0, max d.Deepest.a0 r1, max (max d.Deepest.a0 r1) r2, max (max (max d.Deepest.a0 r1) r2) r3, max (max (max (max d.Deepest.a0 r1) r2) r3) r4, max (max (max (max (max d.Deepest.a0 r1) r2) r3) r4) r5⟩ }, ?_, ?_, rfl, rfl, rfl, rfl⟩
  · rw [hF, law27_Some.l2, if_pos (by simp), m1, ar6_idx _ 0 (by omega) (by omega), ar6_idx _ 1 (by omega) (by omega), ar6_idx _ 1 (by omega) (by omega), w1]
    simp only [if_true, Option.bind_some, e1, Ar6.put, show ((1 : Int) = 0) = False from by simp, if_false]
    rw [law27_Some.l2, if_pos (by simp), m2, ar6_idx _ 1 (by omega) (by omega), ar6_idx _ 2 (by omega) (by omega), ar6_idx _ 2 (by omega) (by omega), w2]
    simp only [if_true, Option.bind_some, e2, Ar6.put, show ((1 : Int) = 0) = False from by simp, show ((2 : Int) = 0) = False from by simp, show ((2 : Int) = 1) = False from by simp, if_false]
    rw [law27_Some.l2, if_pos (by simp), m3, ar6_idx _ 2 (by omega) (by omega), ar6_idx _ 3 (by omega) (by omega), ar6_idx _ 3 (by omega) (by omega), w3]
    simp only [if_true, Option.bind_some, e3, Ar6.put, show ((2 : Int) = 0) = False from by simp, show ((2 : Int) = 1) = False from by simp, show ((3 : Int) = 0) = False from by simp, show ((3 : Int) = 1) = False from by simp, show ((3 : Int) = 2) = False from by simp, if_false]
    rw [law27_Some.l2, if_pos (by simp), m4, ar6_idx _ 3 (by omega) (by omega), ar6_idx _ 4 (by omega) (by omega), ar6_idx _ 4 (by omega) (by omega), w4]
    simp only [if_true, Option.bind_some, e4, Ar6.put, show ((3 : Int) = 0) = False from by simp, show ((3 : Int) = 1) = False from by simp, show ((3 : Int) = 2) = False from by simp, show ((4 : Int) = 0) = False from by simp, show ((4 : Int) = 1) = False from by simp, show ((4 : Int) = 2) = False from by simp, show ((4 : Int) = 3) = False from by simp, if_false]
    rw [law27_Some.l2, if_pos (by simp), m5, ar6_idx _ 4 (by omega) (by omega), ar6_idx _ 5 (by omega) (by omega), ar6_idx _ 5 (by omega) (by omega), w5]
    simp only [if_true, Option.bind_some, e5, Ar6.put, show ((4 : Int) = 0) = False from by simp, show ((4 : Int) = 1) = False from by simp, show ((4 : Int) = 2) = False from by simp, show ((4 : Int) = 3) = False from by simp, show ((5 : Int) = 0) = False from by simp, show ((5 : Int) = 1) = False from by simp, show ((5 : Int) = 2) = False from by simp, show ((5 : Int) = 3) = False from by simp, show ((5 : Int) = 4) = False from by simp, if_false]
    rw [law27_Some.l2, if_neg (by simp)]
  · unfold Deepens; simp only; omega

/-- What Some makes of one device. -/
structure Made (n : Int) (d : api_PowerDevice) : Prop where
  rails : PickedAll n d
  deep : Deepens d
  wd : 0 ≤ d.WakeDevice ∧ d.WakeDevice ≤ 3
  ws : 0 ≤ d.WakeSystem ∧ d.WakeSystem ≤ 4

theorem Made.few {n : Int} {d : api_PowerDevice} (h : Made n d) : Few 1000000 d := by
  obtain ⟨⟨a, b, c, e⟩, _⟩ := h
  exact ⟨by have := a.few; omega, by have := b.few; omega, by have := c.few; omega, by have := e.few; omega⟩

theorem Made.needs {n : Int} {d : api_PowerDevice} (h : Made n d) (s : Int) : Picked n (needs d s) := by
  obtain ⟨⟨a, b, c, e⟩, _⟩ := h
  unfold Sim.needs
  repeat' split
  all_goals first | assumption | exact Picked.nil _

theorem Picked.asc {n : Int} {l : List Int} (h : Picked n l) : asc l = true := asc_pairwise.2 h.up

/-! ### large -/

theorem large_l1 (p : List api_PowerDevice) (i : Nat) (hi : i < p.length) : (Few 20 p[i] ∧ law27_large.l1 p (i : Int) FUEL 0 = some (.nxt ())) ∨ law27_large.l1 p (i : Int) FUEL 0 = some (.out (.out true)) := by
  have hF : FUEL = (18446744073709551611 + 1 + 1 + 1 + 1 + 1) := rfl
  have w0 : wi ((0 : Int) + 1) = 1 := rfl
  have w1 : wi ((1 : Int) + 1) = 2 := rfl
  have w2 : wi ((2 : Int) + 1) = 3 := rfl
  have w3 : wi ((3 : Int) + 1) = 4 := rfl
  rw [hF, law27_large.l1, if_pos (by simp), idx_get hi]
  simp only [Option.bind_some]
  rw [ar4_idx _ 0 (by omega) (by omega)]
  simp only [Option.bind_some, if_true]
  by_cases c0 : p[i].Rails.a0.length ≤ 20
  · rw [if_neg (by simp; omega), w0, law27_large.l1, if_pos (by simp), idx_get hi]
    simp only [Option.bind_some]
    rw [ar4_idx _ 1 (by omega) (by omega)]
    simp only [Option.bind_some, if_true, show ((1 : Int) = 0) = False from by simp, if_false]
    by_cases c1 : p[i].Rails.a1.length ≤ 20
    · rw [if_neg (by simp; omega), w1, law27_large.l1, if_pos (by simp), idx_get hi]
      simp only [Option.bind_some]
      rw [ar4_idx _ 2 (by omega) (by omega)]
      simp only [Option.bind_some, if_true, show ((2 : Int) = 0) = False from by simp, show ((2 : Int) = 1) = False from by simp, if_false]
      by_cases c2 : p[i].Rails.a2.length ≤ 20
      · rw [if_neg (by simp; omega), w2, law27_large.l1, if_pos (by simp), idx_get hi]
        simp only [Option.bind_some]
        rw [ar4_idx _ 3 (by omega) (by omega)]
        simp only [Option.bind_some, show ((3 : Int) = 0) = False from by simp, show ((3 : Int) = 1) = False from by simp, show ((3 : Int) = 2) = False from by simp, if_false]
        by_cases c3 : p[i].Rails.a3.length ≤ 20
        · rw [if_neg (by simp; omega), w3, law27_large.l1, if_neg (by simp)]
          exact .inl ⟨⟨c0, c1, c2, c3⟩, rfl⟩
        · exact .inr (if_pos (by simp; omega))
      · exact .inr (if_pos (by simp; omega))
    · exact .inr (if_pos (by simp; omega))
  · exact .inr (if_pos (by simp; omega))

theorem large_l0 (p : List api_PowerDevice) (hp : p.length ≤ 20) : ∀ (d fuel i : Nat), i + d = p.length → d < fuel → (∀ j (h : j < p.length), j < i → Few 20 p[j]) →
    ((∀ x ∈ p, Few 20 x) ∧ law27_large.l0 p fuel (i : Int) = some (.nxt ())) ∨ law27_large.l0 p fuel (i : Int) = some (.out true) := by
  intro d
  induction d with
  | zero =>
    intro fuel i h1 h2 h3
    obtain ⟨k, rfl⟩ : ∃ m, fuel = m + 1 := ⟨fuel - 1, by omega⟩
    refine .inl ⟨fun x hx => ?_, by rw [law27_large.l0, if_neg (by simp; omega)]⟩
    obtain ⟨j, hj, rfl⟩ := List.getElem_of_mem hx
    exact h3 j hj (by omega)
  | succ d ih =>
    intro fuel i h1 h2 h3
    obtain ⟨k, rfl⟩ : ∃ m, fuel = m + 1 := ⟨fuel - 1, by omega⟩
    have hlt : i < p.length := by omega
    rw [law27_large.l0, if_pos (by simp; omega)]
    rcases large_l1 p i hlt with ⟨h4, h5⟩ | h5
    · rw [h5]
      simp only [Option.bind_some, Fl.go]
      rw [wi_id (by omega) (by omega)]
      refine ih k (i + 1) (by omega) (by omega) (fun j hj hlt2 => ?_)
      rcases Nat.lt_or_ge j i with h6 | h6
      · exact h3 j hj h6
      · have : j = i := by omega
        subst this; exact h4
    · rw [h5]
      exact .inr rfl

theorem large_ok (p : List api_PowerDevice) : law27_large.f p = some true ∨ (law27_large.f p = some false ∧ p.length ≤ 20 ∧ ∀ x ∈ p, Few 20 x) := by
  unfold law27_large.f
  by_cases h : p.length ≤ 20
  · rw [if_neg (by simp; omega)]
    rcases large_l0 p h p.length FUEL 0 (by omega) (by unfold FUEL; omega) (fun _ _ h => by omega) with ⟨h1, h2⟩ | h2
    · rw [Int.natCast_zero] at h2
      exact .inr ⟨by rw [h2]; rfl, h, h1⟩
    · rw [Int.natCast_zero] at h2
      exact .inl (by rw [h2]; rfl)
  · exact .inl (if_pos (by simp; omega))

theorem Few.mono {m n : Nat} {d : api_PowerDevice} (h : Few m d) (hl : m ≤ n) : Few n d := by
  obtain ⟨a, b, c, e⟩ := h; exact ⟨by omega, by omega, by omega, by omega⟩

end Go.Proofs.Ytfhhklkmbcnhnaa.Sim

namespace Go.Proofs.Ytfhhklkmbcnhnaa.Sim
open Go
set_option linter.unusedVariables false
set_option linter.unusedSimpArgs false

/-! ### ref27_valid: function 40 -/
end Go.Proofs.Ytfhhklkmbcnhnaa.Sim

namespace Go.Proofs.Ytfhhklkmbcnhnaa.Sim
open Go
set_option linter.unusedVariables false
set_option linter.unusedSimpArgs false

/-! ### ref27_Check: function 18 -/
end Go.Proofs.Ytfhhklkmbcnhnaa.Sim

namespace Go.Proofs.Ytfhhklkmbcnhnaa.Sim
open Go
set_option linter.unusedVariables false

def railOK (r : Int) (x : List Int) : Bool := asc x && x.all (fun v => decide (0 ≤ v) && decide (v < r))

theorem asc_ends {x : List Int} (h : asc x = true) (i : Nat) (hi : i < x.length) : x[0]'(by omega) ≤ x[i] ∧ x[i] ≤ x[x.length - 1]'(by omega) := by
  have hp := asc_pairwise.1 h
  rw [List.pairwise_iff_getElem] at hp
  constructor
  · rcases Nat.eq_zero_or_pos i with rfl | h0
    · exact Int.le_refl _
    · have := hp 0 i (by omega) hi h0; omega
  · rcases Nat.lt_or_ge i (x.length - 1) with h1 | h1
    · have := hp i (x.length - 1) hi (by omega) h1; omega
    · have : i = x.length - 1 := by omega
      subst this; exact Int.le_refl _

theorem rail_dev (x : List Int) (r : Int) (hx : x.length ≤ maxLen) :
    ((device_ascending.f x).bind fun r29 => (if (!r29) = true then some true else (if decide (0 < (x.length : Int)) = true then (idx x 0).bind fun x42 => (if decide (x42 < 0) = true then some true else (idx x (wi ((x.length : Int) - 1))).bind fun x53 => some (decide (r ≤ x53))).bind fun t59 => some t59 else some false).bind fun t84 => some t84)) = some (!railOK r x) := by
  rw [ascending_ok x hx]
  rw [maxLen_eq] at hx
  unfold railOK
  cases ha : asc x
  · simp
  · simp only [Option.bind_some, Bool.not_true, Bool.false_eq_true, if_false, Bool.true_and]
    by_cases h0 : x.length = 0
    · have : x = [] := List.eq_nil_of_length_eq_zero h0
      subst this
      simp
    · have hz : 0 < x.length := by omega
      rw [if_pos (by simp; omega), show (0 : Int) = ((0 : Nat) : Int) from rfl, idx_get hz]
      simp only [Option.bind_some, Int.natCast_zero]
      by_cases hn : x[0] < 0
      · rw [if_pos (by simpa using hn)]
        simp only [Option.bind_some, Option.some.injEq]
        have : (x.all fun v => decide (0 ≤ v) && decide (v < r)) = false := by
          rw [List.all_eq_false]
          exact ⟨x[0], List.getElem_mem hz, by simp; omega⟩
        rw [this]; rfl
      · rw [if_neg (by simpa using hn), wi_id (by omega) (by omega), show ((x.length : Int) - 1) = ((x.length - 1 : Nat) : Int) from by omega, idx_get (show x.length - 1 < x.length by omega)]
        simp only [Option.bind_some, Option.some.injEq]
        by_cases hr : r ≤ x[x.length - 1]
        · have : (x.all fun v => decide (0 ≤ v) && decide (v < r)) = false := by
            rw [List.all_eq_false]
            exact ⟨x[x.length - 1], List.getElem_mem _, by simp; omega⟩
          rw [this]; simp [hr]
        · have : (x.all fun v => decide (0 ≤ v) && decide (v < r)) = true := by
            rw [List.all_eq_true]
            intro v hv
            obtain ⟨i, hi, rfl⟩ := List.getElem_of_mem hv
            have := asc_ends ha i hi
            simp only [Bool.and_eq_true, decide_eq_true_eq]; omega
          rw [this]; simp [hr]

def rail (d : api_PowerDevice) (k : Int) : List Int := if k = 0 then d.Rails.a0 else if k = 1 then d.Rails.a1 else if k = 2 then d.Rails.a2 else d.Rails.a3

theorem Short.rail {d : api_PowerDevice} (h : Short d) (k : Int) : (rail d k).length ≤ maxLen := by
  obtain ⟨a, b, c, e⟩ := h
  unfold Sim.rail
  repeat' split
  all_goals assumption

theorem dev_step (d : api_PowerDevice) (r : Int) (hd : Short d) (f : Nat) (k : Int) (h0 : 0 ≤ k) (h1 : k < 4) : device_valid.l0 d r (f + 1) k = if railOK r (rail d k) = true then device_valid.l0 d r f (k + 1) else some (.out false) := by
  have hg := rail_dev (rail d k) r (hd.rail k)
  rw [Option.bind_eq_some_iff] at hg
  obtain ⟨b, e1, e2⟩ := hg
  rw [device_valid.l0, if_pos (by simpa using h1), ar4_idx _ k h0 h1]
  simp only [Option.bind_some]
  rw [show (if k = 0 then d.Rails.a0 else if k = 1 then d.Rails.a1 else if k = 2 then d.Rails.a2 else d.Rails.a3) = rail d k from rfl, e1]
  simp only [Option.bind_some]
  rw [e2]
  simp only [Option.bind_some]
  rw [wi_id (by omega) (by omega)]
  cases railOK r (rail d k) <;> simp

theorem dev_end (d : api_PowerDevice) (r : Int) (f : Nat) : device_valid.l0 d r (f + 1) (0 + 1 + 1 + 1 + 1) = some (.nxt ()) := by rw [device_valid.l0, if_neg (by simp)]
def rails4 (d : api_PowerDevice) (r : Int) : Bool := railOK r (rail d 0) && railOK r (rail d 1) && railOK r (rail d 2) && railOK r (rail d 3)

theorem dev_rails (d : api_PowerDevice) (r : Int) (hd : Short d) : device_valid.l0 d r FUEL 0 = if rails4 d r = true then some (.nxt ()) else some (.out false) := by
  have hF : FUEL = (18446744073709551611 + 1 + 1 + 1 + 1 + 1) := rfl
  unfold rails4
  rw [hF, dev_step d r hd _ 0 (by omega) (by omega), dev_step d r hd _ (0 + 1) (by omega) (by omega), dev_step d r hd _ (0 + 1 + 1) (by omega) (by omega), dev_step d r hd _ (0 + 1 + 1 + 1) (by omega) (by omega), dev_end]
  simp only [show (0 : Int) + 1 = 1 from rfl, show (1 : Int) + 1 = 2 from rfl, show (2 : Int) + 1 = 3 from rfl]
  cases railOK r (rail d 0) <;> cases railOK r (rail d 1) <;> cases railOK r (rail d 2) <;> cases railOK r (rail d 3) <;> simp

theorem Made.short {n : Int} {d : api_PowerDevice} (h : Made n d) : Short d := by
  obtain ⟨a, b, c, e⟩ := h.few
  unfold Short; rw [maxLen_eq]; omega

end Go.Proofs.Ytfhhklkmbcnhnaa.Sim

namespace Go.Proofs.Ytfhhklkmbcnhnaa.Sim
open Go
set_option linter.unusedVariables false
set_option maxRecDepth 100000

/-- The devices that the statements make. -/
structure GDv (n : Int) (ds : List api_PowerDevice) : Prop where
  l6 : ds.length ≤ 6
  md : ∀ j (h : j < ds.length), Made n ds[j] ∧ -1 ≤ ds[j].Parent ∧ ds[j].Parent < j

theorem gsome_l0 (p : List api_PowerDevice) (n : Int) (h0 : 0 ≤ n) (hn : n < 1000) (hp : ∀ d ∈ p, Short d) : ∀ (d fuel i : Nat) (acc : List api_PowerDevice), i + d = min p.length 6 → d < fuel → acc.length = i → (∀ j (h : j < acc.length), Made n acc[j] ∧ -1 ≤ acc[j].Parent ∧ acc[j].Parent < j) →
    ∃ r, law27_Some.l0 p n fuel acc (i : Int) = some r ∧ r.length = min p.length 6 ∧ ∀ j (h : j < r.length), Made n r[j] ∧ -1 ≤ r[j].Parent ∧ r[j].Parent < j := by
  intro d
  induction d with
  | zero =>
    intro fuel i acc h1 h2 h3 h4
    obtain ⟨k, rfl⟩ : ∃ m, fuel = m + 1 := ⟨fuel - 1, by omega⟩
    exact ⟨acc, by rw [law27_Some.l0, if_neg (by simp; omega)], by omega, h4⟩
  | succ d ih =>
    intro fuel i acc h1 h2 h3 h4
    obtain ⟨k, rfl⟩ : ∃ m, fuel = m + 1 := ⟨fuel - 1, by omega⟩
    have hlt : i < p.length := by omega
    obtain ⟨a1, e1, l1, u1⟩ := mod_ok (x := p[i].Parent) (n := wi ((i : Int) + 1)) (by rw [wi_id] <;> omega) (by rw [wi_id] <;> omega)
    rw [wi_id (x := (i : Int) + 1) (by omega) (by omega)] at u1
    obtain ⟨a2, e2, l2, u2⟩ := mod_ok (x := p[i].WakeSystem) (n := 5) (by omega) (by omega)
    obtain ⟨a3, e3, l3, u3⟩ := mod_ok (x := p[i].WakeDevice) (n := 4) (by omega) (by omega)
    obtain ⟨r1, e4, q1, q2, q3, q4, q5⟩ := dsome_l1 n h0 hn p[i] (hp _ (List.getElem_mem hlt)) (api_PowerDevice.mk (wi (a1 - 1)) (Ar4.mk ([] : List Int) ([] : List Int) ([] : List Int) ([] : List Int)) (Ar6.mk 0 0 0 0 0 0) a3 a2) ⟨Picked.nil _, Picked.nil _, Picked.nil _, Picked.nil _⟩
    obtain ⟨r2, e5, v1, v2, v3, v4, v5⟩ := dsome_l2 p[i] r1 (by rw [q2])
    rw [law27_Some.l0, if_pos (by simp; omega), idx_get hlt]
    simp only [Option.bind_some, e1, e2, e3, e4, e5]
    rw [app_ok (by simp; omega)]
    simp only [Option.bind_some]
    rw [wi_id (by omega) (by omega)]
    refine ih k (i + 1) (acc ++ [r2]) (by omega) (by omega) (by simp; omega) (fun j hj => ?_)
    by_cases hc : j < acc.length
    · rw [List.getElem_append_left hc]; exact h4 j hc
    · have hj' : j = acc.length := by simp at hj; omega
      subst hj'
      rw [List.getElem_append_right (by omega)]
      simp only [Nat.sub_self, List.getElem_cons_zero]
      refine ⟨⟨by unfold PickedAll at q1 ⊢; rw [v2]; exact q1, v1, by rw [v4, q4]; exact ⟨l3, show a3 ≤ 3 by omega⟩, by rw [v5, q5]; exact ⟨l2, show a2 ≤ 4 by omega⟩⟩, ?_, ?_⟩
      · rw [v3, q3]; show -1 ≤ wi (a1 - 1); rw [wi_id (by omega) (by omega)]; omega
      · rw [v3, q3]; show wi (a1 - 1) < _; rw [wi_id (by omega) (by omega)]; omega

theorem gsome_ok (p : List api_PowerDevice) (n : Int) (h0 : 0 ≤ n) (hn : n < 1000) (hp : ∀ d ∈ p, Short d) : ∃ r, law27_Some.f p n = some r ∧ GDv n r := by
  unfold law27_Some.f
  obtain ⟨r, h1, h2, h3⟩ := gsome_l0 p n h0 hn hp (min p.length 6) FUEL 0 [] (by omega) (by unfold FUEL; omega) rfl (fun j h => absurd h (by simp))
  rw [Int.natCast_zero] at h1
  exact ⟨r, by rw [h1]; rfl, by omega, h3⟩

theorem isState_ok (s : Int) : device_isState.f s = some (isState s) := rfl

theorem deep_made {n : Int} {d : api_PowerDevice} (h : Made n d) : device_valid.l1 d FUEL 0 = some (.nxt ()) := by
  obtain ⟨d0, d1, d2, d3, d4, d5, d6⟩ := h.deep
  have hF : FUEL = (18446744073709551609 + 1 + 1 + 1 + 1 + 1 + 1 + 1) := rfl
  rw [hF]
  have st : ∀ (k : Nat) (i : Int) (x y : Int), 0 ≤ i → i < 6 → idx (Ar6.l d.Deepest) i = some x → (0 ≤ x ∧ x ≤ 4) → (i = 0 ∨ (idx (Ar6.l d.Deepest) (i - 1) = some y ∧ y ≤ x)) → device_valid.l1 d (k + 1) i = device_valid.l1 d k (i + 1) := fun k i x y i0 i1 hx hr hy => by
    rw [device_valid.l1, if_pos (by simpa using i1), hx, Option.bind_some, isState_ok, Option.bind_some]
    have hs : isState x = true := by unfold isState; simp [hr]
    rw [hs, if_neg (by simp), wi_id (x := i + 1) (by omega) (by omega)]
    rcases hy with rfl | ⟨hy, hxy⟩
    · rw [if_neg (by simp), Option.bind_some, Option.bind_some, if_neg (by simp)]
    · by_cases c : 0 < i
      · rw [if_pos (by simpa using c), wi_id (x := i - 1) (by omega) (by omega), hy, Option.bind_some, Option.bind_some, Option.bind_some, if_neg (by simp; omega)]
      · rw [if_neg (by simpa using c), Option.bind_some, Option.bind_some, if_neg (by simp)]
  rw [st _ 0 d.Deepest.a0 0 (by omega) (by omega) rfl (by omega) (.inl rfl)]
  rw [st _ (0 + 1) d.Deepest.a1 d.Deepest.a0 (by omega) (by omega) rfl (by omega) (.inr ⟨rfl, by omega⟩)]
  rw [st _ (0 + 1 + 1) d.Deepest.a2 d.Deepest.a1 (by omega) (by omega) rfl (by omega) (.inr ⟨rfl, by omega⟩)]
  rw [st _ (0 + 1 + 1 + 1) d.Deepest.a3 d.Deepest.a2 (by omega) (by omega) rfl (by omega) (.inr ⟨rfl, by omega⟩)]
  rw [st _ (0 + 1 + 1 + 1 + 1) d.Deepest.a4 d.Deepest.a3 (by omega) (by omega) rfl (by omega) (.inr ⟨rfl, by omega⟩)]
  rw [st _ (0 + 1 + 1 + 1 + 1 + 1) d.Deepest.a5 d.Deepest.a4 (by omega) (by omega) rfl (by omega) (.inr ⟨rfl, by omega⟩)]
  rw [device_valid.l1, if_neg (by simp)]

theorem Picked.ok {n : Int} {l : List Int} (h : Picked n l) : railOK n l = true := by
  unfold railOK
  rw [h.asc, Bool.true_and, List.all_eq_true]
  intro x hx
  simp [h.lo x hx, h.hi x hx]
theorem valid_made {n : Int} {d : api_PowerDevice} (h : Made n d) {i : Int} (h1 : -1 ≤ d.Parent) (h2 : d.Parent < i) : device_valid.f d i n = some true := by
  unfold device_valid.f
  have hr : rails4 d n = true := by
    unfold rails4
    obtain ⟨a, b, c, e⟩ := h.rails
    have hx : ∀ k : Int, railOK n (rail d k) = true := fun k => by
      unfold rail
      repeat' split
      all_goals first | exact a.ok | exact b.ok | exact c.ok | exact e.ok
    simp [hx]
  rw [dev_rails d n h.short, if_pos hr, Option.bind_some, Fl.go, deep_made h, Option.bind_some, Fl.go]
  have := h.wd; have := h.ws; have := h.deep.1
  congr 1
  simp only [Bool.and_eq_true, decide_eq_true_eq, beq_iff_eq]
  omega
theorem check_made {n : Int} {ds : List api_PowerDevice} (h0 : 0 ≤ n) (h1 : n ≤ 64) (G : GDv n ds) : device_Check.f ds n = some 0 := by
  have h6 := G.l6
  unfold device_Check.f
  rw [if_neg (by simp; omega)]
  have key : device_Check.l0 ds n FUEL 0 = some (.nxt ()) := by
    refine loop_c (L := fun k (_ : Unit) i => device_Check.l0 ds n k i) ds.length (fun _ _ => True) (fun o => o = some (.nxt ())) ?_ ?_ FUEL 0 () (Nat.zero_le _) (FUEL_pos (by omega)) trivial
    · intro k _ i hi _
      obtain ⟨a, b, c⟩ := G.md i hi
      rw [device_Check.l0, if_pos (by simp; omega), idx_get hi, Option.bind_some, valid_made a b c, Option.bind_some, if_neg (by simp), wi_succ (by omega)]
      exact .inl ⟨(), trivial, rfl⟩
    · intro k _ _
      rw [device_Check.l0, if_neg (by simp)]
  rw [key]; rfl

theorem clone_ok (xs : List Int) (h : xs.length ≤ 1000000) : slices_Clone_int_int.f xs = some xs := by
  unfold slices_Clone_int_int.f
  rw [app_ok (by simp; omega)]; rfl
theorem put4 {x : Ar4 (List Int)} {i : Int} (h0 : 0 ≤ i) (h1 : i < 4) : ∃ y, idx x.l i = some y ∧ x.put i y = some x ∧ (y = x.a0 ∨ y = x.a1 ∨ y = x.a2 ∨ y = x.a3) := by
  have : i = 0 ∨ i = 1 ∨ i = 2 ∨ i = 3 := by omega
  rcases this with rfl | rfl | rfl | rfl
  · exact ⟨x.a0, rfl, rfl, by simp⟩
  · exact ⟨x.a1, rfl, rfl, by simp⟩
  · exact ⟨x.a2, rfl, rfl, by simp⟩
  · exact ⟨x.a3, rfl, rfl, by simp⟩
theorem newdev_l1 {d : api_PowerDevice} (hf : Few 1000000 d) : device_New.l1 FUEL d 0 = some d := by
  refine loop_c (L := fun k (s : api_PowerDevice) i => device_New.l1 k s i) 4 (fun _ s => s = d) (fun o => o = some d) ?_ ?_ FUEL 0 d (Nat.zero_le _) (FUEL_pos (by omega)) rfl
  · rintro k s i hi rfl
    obtain ⟨y, e1, e2, e3⟩ := put4 (x := s.Rails) (i := (i : Int)) (by omega) (by omega)
    have hy : y.length ≤ 1000000 := by
      obtain ⟨a, b, c, e⟩ := hf
      rcases e3 with rfl | rfl | rfl | rfl <;> assumption
    rw [device_New.l1, if_pos (by simp; omega), e1, Option.bind_some, clone_ok _ hy, Option.bind_some, e2, Option.bind_some, wi_succ (by omega)]
    exact .inl ⟨s, rfl, rfl⟩
  · rintro k s rfl
    rw [device_New.l1, if_neg (by simp)]
theorem newdev_l0 {ds : List api_PowerDevice} (h6 : ds.length ≤ 100) (hf : ∀ d ∈ ds, Few 1000000 d) (st : rails_Rails) : device_New.l0 ds st FUEL (device_Tree.mk ([] : List api_PowerDevice) ([] : List Int) st 0) 0 = some (device_Tree.mk ds (List.replicate ds.length 4) st 0) := by
  refine loop_c (L := fun k (s : device_Tree) i => device_New.l0 ds st k s i) ds.length (fun i s => s = device_Tree.mk (ds.take i) (List.replicate i 4) st 0) (fun o => o = some (device_Tree.mk ds (List.replicate ds.length 4) st 0)) ?_ ?_ FUEL 0 _ (Nat.zero_le _) (FUEL_pos (by omega)) (by simp)
  · rintro k s i hi rfl
    rw [device_New.l0, if_pos (by simp; omega), idx_get hi, Option.bind_some, newdev_l1 (hf _ (List.getElem_mem hi)), Option.bind_some]
    simp only
    rw [app_ok (by simp; omega), Option.bind_some, app_ok (by simp; omega), Option.bind_some, Option.bind_some, wi_succ (by omega)]
    refine .inl ⟨_, ?_, rfl⟩
    rw [List.take_succ_eq_append_getElem hi, List.replicate_succ']
  · rintro k s rfl
    rw [device_New.l0, if_neg (by simp), List.take_length]

/-- A new tree of the statements' devices and rails. -/
theorem newdev_ok {xs : List api_Rail} {rk : Int → Nat} (T : Tree xs rk) {ds : List api_PowerDevice} (G : GDv xs.length ds) : device_New.f ds xs = some (some (device_Tree.mk ds (List.replicate ds.length 4) (rails_Rails.mk (xs.map rail0) 0) 0), 0) := by
  have h6 := G.l6
  have hn := T.n
  unfold device_New.f
  rw [check_made (by omega) (by omega) G, Option.bind_some, if_neg (by simp), (rnew_tree T).1, Option.bind_some, if_neg (by simp)]
  simp only [Option.bind_some]
  rw [newdev_l0 (by omega) (fun d hd => by obtain ⟨j, hj, rfl⟩ := List.getElem_of_mem hd; exact (G.md j hj).1.few)]
  rfl
end Go.Proofs.Ytfhhklkmbcnhnaa.Sim

namespace Go.Proofs.Ytfhhklkmbcnhnaa.Sim
open Go
set_option linter.unusedVariables false
set_option maxRecDepth 100000

/-- The rails' calls for a list of rails. -/
def facq (xs : List api_Rail) (rel : Bool) (t : Int) (q : Ms × List api_RailOp) (l : List Int) : Ms × List api_RailOp :=
  l.foldl (fun q k => ((mcall xs q.1 rel k t).1, q.2 ++ (mcall xs q.1 rel k t).2.1)) q
theorem facq_snoc (xs : List api_Rail) (rel : Bool) (t : Int) (q : Ms × List api_RailOp) (l : List Int) (k : Int) : facq xs rel t q (l ++ [k]) = ((mcall xs (facq xs rel t q l).1 rel k t).1, (facq xs rel t q l).2 ++ (mcall xs (facq xs rel t q l).1 rel k t).2.1) := by
  unfold facq; rw [List.foldl_append]; rfl

section
variable {xs : List api_Rail} {rk : Int → Nat}

theorem facq_good (T : Tree xs rk) (rel : Bool) (t : Int) : ∀ (l : List Int) {j : Nat} {s : Ms} {u : Fn} {os : List api_RailOp}, Gs xs j s u → (∃ u', Gs xs (j + l.length) (facq xs rel t (s, os) l).1 u') ∧ (facq xs rel t (s, os) l).2.length ≤ os.length + 8 * l.length
  | [], j, s, u, os, g => ⟨⟨u, g⟩, by simp [facq]⟩
  | k :: l, j, s, u, os, g => by
    obtain ⟨g1, _, h1⟩ := mcall_good T g rel k t
    obtain ⟨⟨u', h2⟩, h3⟩ := facq_good T rel t l (os := os ++ (mcall xs s rel k t).2.1) g1
    have e : facq xs rel t (s, os) (k :: l) = facq xs rel t ((mcall xs s rel k t).1, os ++ (mcall xs s rel k t).2.1) l := rfl
    rw [e]
    refine ⟨⟨u', by rw [List.length_cons, show j + (l.length + 1) = j + 1 + l.length by omega]; exact h2⟩, ?_⟩
    simp only [List.length_append, List.length_cons] at h3 ⊢
    omega

theorem setl0_ok (T : Tree xs rk) {t : Int} {r : List Int × List Int × Int} (hl : r.1.length ≤ 20) {j : Nat} {s : Ms} {u : Fn} (g : Gs xs j s u) (hj : j + 20 ≤ 1000) {a : rails_Rails} (h : RI xs a s) {os : List api_RailOp} (ho : os.length ≤ 10000) :
    ∃ a', device_Tree_Set.l0 t r FUEL a os 0 = some (a', (facq xs false t (s, os) r.1).2) ∧ RI xs a' (facq xs false t (s, os) r.1).1 := by
  have key : ∃ a', device_Tree_Set.l0 t r FUEL a os 0 = some (a', (facq xs false t (s, os) r.1).2) ∧ RI xs a' (facq xs false t (s, os) r.1).1 := by
    refine loop_c (L := fun k (z : rails_Rails × List api_RailOp) i => device_Tree_Set.l0 t r k z.1 z.2 i) r.1.length (fun i z => RI xs z.1 (facq xs false t (s, os) (r.1.take i)).1 ∧ z.2 = (facq xs false t (s, os) (r.1.take i)).2) (fun o => ∃ a', o = some (a', (facq xs false t (s, os) r.1).2) ∧ RI xs a' (facq xs false t (s, os) r.1).1) ?_ ?_ FUEL 0 (a, os) (Nat.zero_le _) (FUEL_pos (by omega)) ⟨by simpa [facq] using h, by simp [facq]⟩
    · rintro k ⟨a1, o1⟩ i hi ⟨h1, rfl⟩
      simp only at h1 ⊢
      obtain ⟨⟨u1, g1⟩, l1⟩ := facq_good T false t (r.1.take i) (os := os) g
      have hti : (r.1.take i).length = i := by rw [List.length_take]; omega
      rw [hti] at g1 l1
      obtain ⟨a2, e2, h2⟩ := acquire_ok T g1 (by omega) h1 r.1[i] t
      obtain ⟨_, _, l2⟩ := mcall_good T g1 false r.1[i] t
      rw [device_Tree_Set.l0, if_pos (by simp; omega), idx_get hi, Option.bind_some, e2, Option.bind_some]
      simp only
      rw [app_ok (by omega), Option.bind_some, wi_succ (by omega)]
      refine .inl ⟨(a2, _), ⟨?_, ?_⟩, rfl⟩
      · rw [List.take_succ_eq_append_getElem hi, facq_snoc]; exact h2
      · rw [List.take_succ_eq_append_getElem hi, facq_snoc]
    · rintro k ⟨a1, o1⟩ ⟨h1, rfl⟩
      simp only at h1 ⊢
      rw [device_Tree_Set.l0, if_neg (by simp)]
      rw [List.take_length] at h1 ⊢
      exact ⟨a1, rfl, h1⟩
  exact key
theorem setl1_ok (T : Tree xs rk) {t : Int} {r : List Int × List Int × Int} (hl : r.2.1.length ≤ 20) {j : Nat} {s : Ms} {u : Fn} (g : Gs xs j s u) (hj : j + 20 ≤ 1000) {a : rails_Rails} (h : RI xs a s) {os : List api_RailOp} (ho : os.length ≤ 10000) :
    ∃ a', device_Tree_Set.l1 t r FUEL a os 0 = some (a', (facq xs true t (s, os) r.2.1).2) ∧ RI xs a' (facq xs true t (s, os) r.2.1).1 := by
  refine loop_c (L := fun k (z : rails_Rails × List api_RailOp) i => device_Tree_Set.l1 t r k z.1 z.2 i) r.2.1.length (fun i z => RI xs z.1 (facq xs true t (s, os) (r.2.1.take i)).1 ∧ z.2 = (facq xs true t (s, os) (r.2.1.take i)).2) (fun o => ∃ a', o = some (a', (facq xs true t (s, os) r.2.1).2) ∧ RI xs a' (facq xs true t (s, os) r.2.1).1) ?_ ?_ FUEL 0 (a, os) (Nat.zero_le _) (FUEL_pos (by omega)) ⟨by simpa [facq] using h, by simp [facq]⟩
  · rintro k ⟨a1, o1⟩ i hi ⟨h1, rfl⟩
    simp only at h1 ⊢
    obtain ⟨⟨u1, g1⟩, l1⟩ := facq_good T true t (r.2.1.take i) (os := os) g
    have hti : (r.2.1.take i).length = i := by rw [List.length_take]; omega
    rw [hti] at g1 l1
    obtain ⟨a2, e2, h2⟩ := release_ok T g1 (by omega) h1 r.2.1[i] t
    obtain ⟨_, _, l2⟩ := mcall_good T g1 true r.2.1[i] t
    rw [device_Tree_Set.l1, if_pos (by simp; omega), idx_get hi, Option.bind_some, e2, Option.bind_some]
    simp only
    rw [app_ok (by omega), Option.bind_some, wi_succ (by omega)]
    refine .inl ⟨(a2, _), ⟨?_, ?_⟩, rfl⟩
    · rw [List.take_succ_eq_append_getElem hi, facq_snoc]; exact h2
    · rw [List.take_succ_eq_append_getElem hi, facq_snoc]
  · rintro k ⟨a1, o1⟩ ⟨h1, rfl⟩
    simp only at h1 ⊢
    rw [device_Tree_Set.l1, if_neg (by simp)]
    rw [List.take_length] at h1 ⊢
    exact ⟨a1, rfl, h1⟩

/-- Parent of device k. -/
def par (ds : List api_PowerDevice) (k : Int) : Int := ((idx ds k).map (·.Parent)).getD (-1)
theorem par_get {ds : List api_PowerDevice} {k : Nat} (h : k < ds.length) : par ds (k : Int) = ds[k].Parent := by unfold par; rw [idx_get h]; rfl
def permit (ds : List api_PowerDevice) (st : Int → Int) (k to : Int) : Prop := (0 ≤ par ds k → st (par ds k) ≤ to) ∧ ∀ i : Int, 0 ≤ i → i < ds.length → par ds i = k → to ≤ st i

structure DT (xs : List api_Rail) (ds : List api_PowerDevice) (j : Nat) (a : device_Tree) (st : Int → Int) (s : Ms) : Prop where
  dv : a.devices = ds
  sv : RepV ds.length a.state st
  ri : RI xs a.rails s
  gs : ∃ u, Gs xs j s u
  s0 : ∀ i : Int, 0 ≤ i → i < ds.length → 0 ≤ st i ∧ st i ≤ 4
  n0 : 0 ≤ a.now
  n1 : a.now ≤ 1152921504606846976

theorem permitted_ok {ds : List api_PowerDevice} {n : Int} (G : GDv n ds) {j : Nat} {a : device_Tree} {st : Int → Int} {s : Ms} (D : DT xs ds j a st s) {k : Nat} (hk : k < ds.length) (to : Int) :
    ∃ b, device_Tree_permitted.f a k to = some b ∧ (b = true ↔ permit ds st k to) := by
  have h6 := G.l6
  obtain ⟨_, hp1, hp2⟩ := G.md k hk
  unfold device_Tree_permitted.f
  rw [D.dv, idx_get hk, Option.bind_some]
  have e1 : (if decide (0 ≤ ds[k].Parent) = true then (idx a.state ds[k].Parent).bind fun x40 => some (decide (to < x40)) else some false) = some (decide (0 ≤ par ds k ∧ to < st (par ds k))) := by
    rw [par_get hk]
    by_cases c : 0 ≤ ds[k].Parent
    · rw [if_pos (by simpa using c), D.sv.2 _ c (by omega), Option.bind_some]; simp [c]
    · rw [if_neg (by simpa using c)]; simp [c]
  rw [e1, Option.bind_some]
  by_cases c1 : 0 ≤ par ds k ∧ to < st (par ds k)
  · rw [if_pos (by simpa using c1)]
    exact ⟨false, rfl, by simp; intro h; have := h.1 c1.1; omega⟩
  · rw [if_neg (by simpa using c1)]
    have key : ((∃ i : Int, 0 ≤ i ∧ i < ds.length ∧ par ds i = k ∧ st i < to) ∧ device_Tree_permitted.l0 a k to FUEL 0 = some (.out false)) ∨ ((∀ i : Int, 0 ≤ i → i < ds.length → par ds i = k → to ≤ st i) ∧ device_Tree_permitted.l0 a k to FUEL 0 = some (.nxt ())) := by
      refine loop_c (L := fun q (_ : Unit) i => device_Tree_permitted.l0 a k to q i) ds.length (fun i _ => ∀ j : Int, 0 ≤ j → j < i → par ds j = k → to ≤ st j) (fun o => ((∃ i : Int, 0 ≤ i ∧ i < ds.length ∧ par ds i = k ∧ st i < to) ∧ o = some (.out false)) ∨ ((∀ i : Int, 0 ≤ i → i < ds.length → par ds i = k → to ≤ st i) ∧ o = some (.nxt ()))) ?_ ?_ FUEL 0 () (Nat.zero_le _) (FUEL_pos (by omega)) (fun j h0 h1 => by omega)
      · intro q _ i hi hI
        have hp := par_get hi
        rw [device_Tree_permitted.l0, D.dv, if_pos (by simp; omega), idx_get hi, Option.bind_some, wi_succ (by omega)]
        by_cases c : ds[i].Parent = k
        · rw [if_pos (by simpa using c), D.sv.2 (i : Int) (by omega) (by omega), Option.bind_some, Option.bind_some]
          by_cases c2 : st i < to
          · rw [if_pos (by simpa using c2)]
            exact .inr (.inl ⟨⟨i, by omega, by omega, by rw [hp]; exact c, c2⟩, rfl⟩)
          · rw [if_neg (by simpa using c2)]
            refine .inl ⟨(), fun j j0 j1 hj => ?_, rfl⟩
            by_cases e : j = i
            · subst e; omega
            · exact hI j j0 (by omega) hj
        · rw [if_neg (by simpa using c), Option.bind_some, if_neg (by simp)]
          refine .inl ⟨(), fun j j0 j1 hj => ?_, rfl⟩
          by_cases e : j = i
          · subst e; rw [hp] at hj; exact absurd hj c
          · exact hI j j0 (by omega) hj
      · intro q _ hI
        rw [device_Tree_permitted.l0, D.dv, if_neg (by simp)]
        exact .inr ⟨hI, rfl⟩
    rcases key with ⟨⟨i, i0, i1, hp, hlt⟩, e⟩ | ⟨h, e⟩
    · rw [e]
      exact ⟨false, rfl, by simp; intro h; have := h.2 i i0 i1 hp; omega⟩
    · rw [e]
      exact ⟨true, rfl, fun _ => ⟨fun h0 => Int.not_lt.1 fun hl => c1 ⟨h0, hl⟩, h⟩, fun _ => rfl⟩

theorem tset_ok (T : Tree xs rk) {ds : List api_PowerDevice} (G : GDv xs.length ds) {j : Nat} (hj : j + 40 ≤ 1000) {a : device_Tree} {st : Int → Int} {s : Ms} (D : DT xs ds j a st s) (d to t : Int) :
    ∃ a' ops e, device_Tree_Set.f a d to t = some (a', ops, e) ∧ ((e ≠ 0 ∧ a' = a) ∨ (e = 0 ∧ ((0 ≤ d ∧ d < ds.length) ∧ (0 ≤ to ∧ to ≤ 4) ∧ a.now ≤ t ∧ t ≤ 1152921504606846976) ∧ permit ds st d to ∧ a'.now = t ∧ ∃ s', DT xs ds (j + 6) a' (fun i => if i = d then to else st i) s')) := by
  have h6 := G.l6
  unfold device_Tree_Set.f device_Tree_has.f
  rw [Option.bind_some, D.dv]
  have e1 : (if (!((decide (0 ≤ d)) && (decide (d < (ds.length : Int))))) = true then some true else (device_isState.f to).bind fun r13 => some (!r13)) = some (!decide ((0 ≤ d ∧ d < ds.length) ∧ (0 ≤ to ∧ to ≤ 4))) := by
    rw [isState_ok, Option.bind_some]
    unfold isState
    by_cases c : 0 ≤ d ∧ d < (ds.length : Int)
    · rw [if_neg (by simp [c])]; congr 1; simp [c]
    · rw [if_pos (by simp; omega)]; congr 1; simp; omega
  rw [e1, Option.bind_some]
  by_cases hc : ((0 ≤ d ∧ d < (ds.length : Int)) ∧ (0 ≤ to ∧ to ≤ 4)) ∧ a.now ≤ t ∧ t ≤ 1152921504606846976
  rotate_left
  · rw [if_pos (by simp only [Bool.or_eq_true, Bool.not_eq_true', decide_eq_false_iff_not, decide_eq_true_eq]; omega)]
    exact ⟨a, [], 1, rfl, .inl ⟨by omega, rfl⟩⟩
  · rw [if_neg (by simp only [Bool.or_eq_true, Bool.not_eq_true', decide_eq_false_iff_not, decide_eq_true_eq]; omega)]
    obtain ⟨⟨⟨d0, d1⟩, hto⟩, ht⟩ := hc
    obtain ⟨k, rfl⟩ := Int.eq_ofNat_of_zero_le d0
    have hk : k < ds.length := by omega
    obtain ⟨b, e2, hb⟩ := permitted_ok G D hk to
    rw [e2, Option.bind_some]
    by_cases hp : permit ds st k to
    · rw [hb.2 hp, if_neg (by simp), idx_get hk, Option.bind_some, D.sv.2 (k : Int) (by omega) (by omega), Option.bind_some]
      obtain ⟨hm, _, _⟩ := G.md k hk
      have hs := D.s0 k (by omega) (by omega)
      have hch : change ds[k] (st k) to = (less (needs ds[k] to) (needs ds[k] (st k)), (less (needs ds[k] (st k)) (needs ds[k] to)).reverse, 0) := by
        unfold change
        rw [if_pos]
        have e3 : isState (st k) = true := by unfold isState; simp [hs]
        have e4 : isState to = true := by unfold isState; simp [hto]
        rw [e3, e4, (hm.needs _).asc, (hm.needs _).asc]; rfl
      have l1 : (less (needs ds[k] to) (needs ds[k] (st k))).length ≤ 3 := Nat.le_trans (less_length _ _) (hm.needs to).few
      have l2 : (less (needs ds[k] (st k)) (needs ds[k] to)).reverse.length ≤ 3 := by rw [List.length_reverse]; exact Nat.le_trans (less_length _ _) (hm.needs _).few
      rw [change_ok _ _ _ hm.few, Option.bind_some, hch, if_neg (by simp)]
      obtain ⟨u, g⟩ := D.gs
      obtain ⟨a1, f1, r1⟩ := setl0_ok T (t := t) (r := (less (needs ds[k] to) (needs ds[k] (st k)), (less (needs ds[k] (st k)) (needs ds[k] to)).reverse, (0 : Int))) (by simp only; omega) g (by omega) D.ri (os := []) (by simp)
      obtain ⟨⟨u1, g1⟩, q1⟩ := facq_good T false t (less (needs ds[k] to) (needs ds[k] (st k))) (os := []) g
      obtain ⟨a2, f2, r2⟩ := setl1_ok T (t := t) (r := (less (needs ds[k] to) (needs ds[k] (st k)), (less (needs ds[k] (st k)) (needs ds[k] to)).reverse, (0 : Int))) (by simp only; omega) g1 (by omega) r1 (os := (facq xs false t (s, []) (less (needs ds[k] to) (needs ds[k] (st k)))).2) (by simp only [List.length_nil] at q1; omega)
      obtain ⟨⟨u2, g2⟩, q2⟩ := facq_good T true t (less (needs ds[k] (st k)) (needs ds[k] to)).reverse (os := (facq xs false t (s, []) (less (needs ds[k] to) (needs ds[k] (st k)))).2) g1
      rw [f1, Option.bind_some]
      simp only
      rw [f2, Option.bind_some]
      refine ⟨_, _, 0, rfl, .inr ⟨rfl, ⟨⟨by omega, by omega⟩, hto, ht⟩, hp, rfl, _, rfl, ?_, r2, ⟨u2, ?_⟩, fun i i0 i1 => ?_, by have := D.n0; show 0 ≤ t; omega, ht.2⟩⟩
      · exact D.sv.put (by omega) to
      · refine ⟨g2.inv, fun i => ?_, fun i => ?_, g2.t0, g2.t1⟩
        · refine Int.le_trans (g2.c1 i) ?_; omega
        · refine Int.le_trans (g2.d1 i) ?_; omega
      · show 0 ≤ (if i = (k : Int) then to else st i) ∧ (if i = (k : Int) then to else st i) ≤ 4
        split
        · exact hto
        · exact D.s0 i i0 i1
    · have hb' : b = false := Bool.eq_false_iff.2 fun h => hp (hb.1 h)
      rw [hb', if_pos (by simp)]
      exact ⟨a, [], 9, rfl, .inl ⟨by omega, rfl⟩⟩

theorem state_ok {ds : List api_PowerDevice} {j : Nat} {a : device_Tree} {st : Int → Int} {s : Ms} (D : DT xs ds j a st s) (k : Int) : device_Tree_State.f a k = some (if 0 ≤ k ∧ k < ds.length then st k else -1) := by
  unfold device_Tree_State.f device_Tree_has.f
  rw [Option.bind_some, D.dv]
  by_cases c : 0 ≤ k ∧ k < (ds.length : Int)
  · rw [if_neg (by simp [c]), if_pos c, D.sv.2 k c.1 c.2]; rfl
  · rw [if_pos (by simp; omega), if_neg c]
end
end Go.Proofs.Ytfhhklkmbcnhnaa.Sim

namespace Go.Proofs.Ytfhhklkmbcnhnaa.Sim
open Go
set_option linter.unusedVariables false
set_option maxRecDepth 100000

theorem at27_ok {n : Nat} (hn : 0 < n) (h6 : n ≤ 6) (a b w now : Int) (h0 : 0 ≤ now ∧ now ≤ 1000000) (hw : 0 ≤ w) : ∃ d to q, law27_Call_at.f (law27_Call.mk a b w false) n now = some (d, to, now + q) ∧ (0 ≤ d ∧ d < n) ∧ (0 ≤ to ∧ to ≤ 4) ∧ 0 ≤ q ∧ q ≤ 19 := by
  obtain ⟨d, e, d0, d1⟩ := mod_ok (x := a) (n := (n : Int)) (by omega) (by omega)
  obtain ⟨to, e2, t0, t1⟩ := mod_ok (x := b) (n := 5) (by omega) (by omega)
  refine ⟨d, to, w % 20, ?_, ⟨d0, d1⟩, ⟨t0, by omega⟩, by omega, by omega⟩
  unfold law27_Call_at.f
  rw [if_neg (by simp; omega)]
  simp only
  rw [e, Option.bind_some, e2, Option.bind_some, Int.tmod_eq_emod_of_nonneg hw, wu_id (by omega) (by omega)]

theorem hier_l0 {ds : List api_PowerDevice} (h6 : ds.length ≤ 6) (t : device_Tree) : law27_DeviceHierarchy.l0 ds t FUEL (List.replicate ds.length 0) 0 = some (t.devices, t.state, t.rails.list, t.rails.now, t.now, List.replicate ds.length 4) := by
  refine loop_c (L := fun k (s : List Int) i => law27_DeviceHierarchy.l0 ds t k s i) ds.length (fun i s => s.length = ds.length ∧ ∀ j (hj : j < s.length), j < i → s[j] = 4) (fun o => o = some (t.devices, t.state, t.rails.list, t.rails.now, t.now, List.replicate ds.length 4)) ?_ ?_ FUEL 0 _ (Nat.zero_le _) (FUEL_pos (by omega)) ⟨by simp, fun j _ h => by omega⟩
  · rintro k s i hi ⟨h1, h2⟩
    rw [law27_DeviceHierarchy.l0, if_pos (by simp; omega), idx_get (by omega : i < s.length), Option.bind_some, wi_succ (by omega)]
    refine .inl ⟨_, ⟨by rw [upd_length]; exact h1, fun j hj hji => ?_⟩, rfl⟩
    rw [upd_length] at hj
    unfold upd
    simp only [Int.toNat_natCast]
    rw [List.getElem_set]
    split
    · rfl
    · exact h2 j hj (by omega)
  · rintro k s ⟨h1, h2⟩
    rw [law27_DeviceHierarchy.l0, if_neg (by simp)]
    have : s = List.replicate ds.length 4 := List.ext_getElem (by simp [h1]) fun j h3 h4 => by rw [h2 j h3 (by omega)]; simp
    rw [this]

def Hier (ds : List api_PowerDevice) (st : Int → Int) : Prop := ∀ k : Nat, k < ds.length → 0 ≤ par ds k → st (par ds k) ≤ st k
theorem Hier.set {n : Int} {ds : List api_PowerDevice} (G : GDv n ds) {st : Int → Int} (h : Hier ds st) {d to : Int} (hp : permit ds st d to) : Hier ds (fun i => if i = d then to else st i) := fun k hk h0 => by
  obtain ⟨_, p1, p2⟩ := G.md k hk
  have hpk := par_get hk
  show (if par ds k = d then to else st (par ds k)) ≤ (if (k : Int) = d then to else st k)
  by_cases c1 : (k : Int) = d
  · rw [if_neg (by omega), if_pos c1]
    subst c1
    exact hp.1 h0
  · rw [if_neg c1]
    by_cases c2 : par ds k = d
    · rw [if_pos c2]; exact hp.2 k (by omega) (by omega) c2
    · rw [if_neg c2]; exact h k hk h0

theorem hier_l2 {xs : List api_Rail} {ds : List api_PowerDevice} {n : Int} (G : GDv n ds) {j : Nat} {a : device_Tree} {st : Int → Int} {s : Ms} (D : DT xs ds j a st s) (hh : Hier ds st) {sl : List Int} (hs : RepV ds.length sl st) (ops : List api_RailOp) (e now : Int) :
    law27_DeviceHierarchy.l2 ds (a, ops, e) (now, sl) FUEL 0 = some (.nxt (a, a.rails, now, sl)) := by
  have h6 := G.l6
  refine loop_c (L := fun k (_ : Unit) i => law27_DeviceHierarchy.l2 ds (a, ops, e) (now, sl) k i) ds.length (fun _ _ => True) (fun o => o = some (.nxt (a, a.rails, now, sl))) ?_ ?_ FUEL 0 () (Nat.zero_le _) (FUEL_pos (by omega)) trivial
  · intro k _ i hi _
    obtain ⟨_, p1, p2⟩ := G.md i hi
    rw [law27_DeviceHierarchy.l2, if_pos (by simp; omega)]
    simp only
    rw [hs.2 (i : Int) (by omega) (by omega), Option.bind_some, state_ok D, if_pos (by omega), Option.bind_some, if_neg (by simp), idx_get hi, Option.bind_some]
    have e1 : (if decide (0 ≤ ds[i].Parent) = true then (idx sl ds[i].Parent).bind fun x318 => some (decide (st i < x318)) else some false) = some false := by
      by_cases c : 0 ≤ ds[i].Parent
      · rw [if_pos (by simpa using c), hs.2 _ c (by omega), Option.bind_some]
        have := hh i hi (by rw [par_get hi]; exact c)
        rw [par_get hi] at this
        congr 1
        rw [decide_eq_false_iff_not]; omega
      · rw [if_neg (by simpa using c)]
    rw [e1, Option.bind_some, Option.bind_some, if_neg (by simp), wi_succ (by omega)]
    exact .inl ⟨(), trivial, rfl⟩
  · intro k _ _
    rw [law27_DeviceHierarchy.l2, if_neg (by simp)]

theorem DT.start {xs : List api_Rail} {rk : Int → Nat} (T : Tree xs rk) {ds : List api_PowerDevice} : DT xs ds 0 (device_Tree.mk ds (List.replicate ds.length 4) (rails_Rails.mk (xs.map rail0) 0) 0) (fun _ => 4) st0 :=
  ⟨rfl, ⟨by simp, fun i i0 i1 => idx_replicate i0 i1⟩, (rnew_tree T).2, ⟨_, gs0⟩, fun _ _ _ => by omega, Int.le_refl _, by simp only; omega⟩
theorem DT.mono {xs : List api_Rail} {ds : List api_PowerDevice} {j k : Nat} {a : device_Tree} {st : Int → Int} {s : Ms} (D : DT xs ds j a st s) (h : j ≤ k) : DT xs ds k a st s := by
  obtain ⟨u, g⟩ := D.gs
  exact ⟨D.dv, D.sv, D.ri, ⟨u, g.inv, fun i => by have := g.c1 i; omega, fun i => by have := g.d1 i; omega, g.t0, g.t1⟩, D.s0, D.n0, D.n1⟩

/-- The statements' devices and rails. -/
theorem open27 (p0 : List api_PowerDevice) (p1 : List api_Rail) (h0 : p0.length ≤ maxLen ∧ ∀ p0' ∈ p0, Wf_api_PowerDevice p0') (h1 : p1.length ≤ maxLen ∧ ∀ p1' ∈ p1, Wf_api_Rail p1') : ∃ xs rk ds, law25_Some.f p1 = some xs ∧ Tree xs rk ∧ law27_Some.f p0 (xs.length : Int) = some ds ∧ GDv xs.length ds := by
  obtain ⟨xs, rk, e1, T⟩ := some_ok p1 h1.1 h1.2
  have hn := T.n
  obtain ⟨ds, e2, G⟩ := gsome_ok p0 xs.length (by omega) (by omega) (fun d hd => Short.of (h0.2 d hd))
  exact ⟨xs, rk, ds, e1, T, e2, G⟩

theorem deviceHierarchy : law27_DeviceHierarchy.Pure := by
  intro p0 p1 p2 h0 h1 h2
  unfold law27_DeviceHierarchy.f
  rw [awake_ok]
  obtain ⟨b, e0⟩ : ∃ b, law27_large.f p0 = some b := by rcases large_ok p0 with e | ⟨e, _⟩ <;> exact ⟨_, e⟩
  rw [e0, Option.bind_some]
  by_cases hb : ((b || (decide (20 < (p1.length : Int)))) || (decide (40 < (p2.length : Int)))) = true
  · rw [if_pos hb]; rfl
  · rw [if_neg hb]
    have hl : p2.length ≤ 40 := by
      simp only [Bool.or_eq_true, decide_eq_true_eq] at hb; omega
    obtain ⟨xs, rk, ds, e1, T, e2, G⟩ := open27 p0 p1 h0 h1
    have h6 := G.l6
    rw [e1, Option.bind_some, e2, Option.bind_some, newdev_ok T G, Option.bind_some, if_neg (by simp), mk_ok (by omega), Option.bind_some]
    simp only [Option.bind_some]
    rw [hier_l0 h6, Option.bind_some]
    simp only
    have key : law27_DeviceHierarchy.l1 p2 ds FUEL (device_Tree.mk ds (List.replicate ds.length 4) (rails_Rails.mk (xs.map rail0) 0) 0) (rails_Rails.mk (xs.map rail0) 0) 0 (List.replicate ds.length 4) 0 = some (.nxt ()) := by
      by_cases hz : ds.length = 0
      · rw [show FUEL = 18446744073709551615 + 1 from rfl, law27_DeviceHierarchy.l1, if_neg (by simp only [Bool.and_eq_true, decide_eq_true_eq]; omega)]
      · refine loop_c (L := fun k (z : device_Tree × rails_Rails × Int × List Int) i => law27_DeviceHierarchy.l1 p2 ds k z.1 z.2.1 z.2.2.1 z.2.2.2 i) p2.length (fun i z => ∃ st s, DT xs ds (6 * i) z.1 st s ∧ z.2.1 = z.1.rails ∧ z.2.2.1 = z.1.now ∧ z.1.now ≤ 20 * i ∧ RepV ds.length z.2.2.2 st ∧ Hier ds st) (fun o => o = some (.nxt ())) ?_ ?_ FUEL 0 (_, _, _, _) (Nat.zero_le _) (FUEL_pos (by omega)) ⟨_, _, DT.start T, rfl, rfl, by simp, ⟨by simp, fun i i0 i1 => idx_replicate i0 i1⟩, fun k hk _ => Int.le_refl _⟩
        · rintro k ⟨a, r, now, sl⟩ i hi ⟨st, s, D, er, en, ht, hs, hh⟩
          simp only at D er en ht hs ⊢
          subst er; subst en
          have hn0 := D.n0
          obtain ⟨d, to, q, e4, hd, hto, q0, q1⟩ := at27_ok (n := ds.length) (by omega) h6 p2[i].Device p2[i].State p2[i].Wait a.now ⟨hn0, by omega⟩ (u64_range (h2.2 _ (List.getElem_mem hi)).2.2.1).1
          obtain ⟨a', ops, e, e5, hr⟩ := tset_ok T G (by omega) D d to (a.now + q)
          rw [law27_DeviceHierarchy.l1, if_pos (by simp only [Bool.and_eq_true, decide_eq_true_eq]; omega), idx_get hi, Option.bind_some, e4, Option.bind_some]
          simp only
          rw [e5, Option.bind_some]
          rcases hr with ⟨he, rfl⟩ | ⟨rfl, _, hp, hnow, s', D'⟩
          · rw [if_neg (by simpa using he), Option.bind_some, hier_l2 G D hh hs, Option.bind_some, Fl.go, wi_succ (by omega)]
            exact .inl ⟨(a', a'.rails, a'.now, sl), ⟨st, s, D.mono (by omega), rfl, rfl, by simp only; omega, hs, hh⟩, rfl⟩
          · have hs' : RepV ds.length (upd sl d to) (fun i => if i = d then to else st i) := hs.put hd.1 to
            rw [if_pos (by simp), hs.2 d hd.1 hd.2, Option.bind_some, Option.bind_some, hier_l2 G D' (hh.set G hp) hs', Option.bind_some, Fl.go, wi_succ (by omega)]
            exact .inl ⟨(a', a'.rails, a.now + q, upd sl d to), ⟨_, s', D'.mono (by omega), rfl, hnow.symm, by simp only [hnow]; omega, hs', hh.set G hp⟩, rfl⟩
        · rintro k ⟨a, r, now, sl⟩ _
          simp only
          rw [law27_DeviceHierarchy.l1, if_neg (by simp)]
    rw [key]; rfl
end Go.Proofs.Ytfhhklkmbcnhnaa.Sim
