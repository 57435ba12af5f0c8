/-
  Texts of this session, part 7 of 7: the words of the walk, plain functions with the same answers as the Go functions and the proofs of it, plain lemmas. No condition.
  They are, one behind the other: G0 G1 G2 G3 G4 E1 E2 GC E3 E4 E5 E6 QLaw28Play E7 E8 GR GCR E9 E10 E11 PuCalls.
-/
import Derived.Test.YtcfcffbjdjacfaaProg
import Derived.Test.YtcfcffbjdjacfaaZRuntimepmCallsAgree6

namespace Go.Proofs.Ytcfcffbjdjacfaa.Sim
open Go
set_option linter.unusedVariables false


theorem loop_m {σ ρ : Type} {L : Nat → σ → Option ρ} (I : σ → Prop) (μ : σ → Nat) (Q : Option ρ → Prop)
  (step : ∀ k s, I s → (∃ s', I s' ∧ μ s' < μ s ∧ L (k + 1) s = L k s') ∨ Q (L (k + 1) s)) : ∀ (fuel : Nat) (s : σ), I s → μ s < fuel → Q (L fuel s)
 | 0, s, _, h => absurd h (by omega)
 | k + 1, s, hi, h => by
  rcases step k s hi with ⟨s', h1, h2, h3⟩ | h1
  ·rw [h3]; exact loop_m I μ Q step k s' h1 (by omega)
  ·exact h1

theorem y4o {σ ρ : Type} {L : Nat → σ → Int → Option ρ} (n : Nat) (I : Nat → σ → Prop) (Q : Option ρ → Prop)
  (step : ∀ k s i, i < n → I i s → (∃ s', I (i + 1) s' ∧ L (k + 1) s (i : Int) = L k s' ((i + 1 : Nat) : Int)) ∨ Q (L (k + 1) s (i : Int)))
  (fin : ∀ k s, I n s → Q (L (k + 1) s (n : Int))) : ∀ (fuel i : Nat) (s : σ), i ≤ n → n - i < fuel → I i s → Q (L fuel s (i : Int))
 | 0, i, s, _, h, _ => absurd h (by omega)
 | k + 1, i, s, h0, h, hi => by
  rcases Nat.lt_or_ge i n with hl | hl
  ·rcases step k s i hl hi with ⟨s', h1, h3⟩ | h1
   ·rw [h3]; exact y4o n I Q step fin k (i + 1) s' hl (by omega) h1
   ·exact h1
  ·have : i = n := by omega
   subst this
   exact fin k s hi

theorem y2x {n : Nat} (h : n ≤ 9223372036854775807) : n < FUEL := by unfold FUEL; omega


theorem wi_id {x : Int} (h0 : -9223372036854775808 ≤ x) (h1 : x < 9223372036854775808) : wi x = x := by
 unfold wi; simp only [IntKind.wrap, IntKind.bits, IntKind.signed, Bool.true_and]; split <;> rename_i h <;> simp at h <;> omega
theorem wu_eq (x : Int) : wu x = x % 18446744073709551616 := by
 unfold wu; simp only [IntKind.wrap, IntKind.bits, IntKind.signed, Bool.false_and]; rfl
theorem wu_id {x : Int} (h0 : 0 ≤ x) (h1 : x < 18446744073709551616) : wu x = x := by rw [wu_eq]; omega
theorem wu_range (x : Int) : 0 ≤ wu x ∧ wu x < 18446744073709551616 := by rw [wu_eq]; omega
theorem maxLen_eq : maxLen = 9223372036854775807 := rfl
theorem y3d {i : Nat} (h : i < 9223372036854775807) : wi ((i : Int) + 1) = ((i + 1 : Nat) : Int) := by rw [wi_id (by omega) (by omega)]; rfl


theorem y3u {α : Type} {xs : List α} {i : Nat} (h : i < xs.length) : idx xs (i : Int) = some xs[i] := by
 unfold idx; rw [if_pos (by omega)]; simp [h]
theorem idx_nat {α : Type} {xs : List α} {i : Int} (h0 : 0 ≤ i) : idx xs i = xs[i.toNat]? := by
 unfold idx; rw [if_pos h0]
theorem idx_of {α : Type} {xs : List α} {i : Int} (h0 : 0 ≤ i) (h1 : i < (xs.length : Int)) : ∃ x, idx xs i = some x ∧ x ∈ xs := by
 obtain ⟨n, rfl⟩ := Int.eq_ofNat_of_zero_le h0
 have hn : n < xs.length := by omega
 exact ⟨xs[n], y3u hn, List.getElem_mem hn⟩
theorem idx_upd {α : Type} {xs : List α} {i j : Int} {x : α} (hi : 0 ≤ i) (hj : 0 ≤ j) (hl : j < (xs.length : Int)) : idx (upd xs i x) j = if i = j then some x else idx xs j := by
 rw [idx_nat hj, idx_nat hj]
 unfold upd
 rw [List.getElem?_set]
 by_cases e : i = j
 ·subst e; rw [if_pos rfl, if_pos rfl, if_pos (by omega)]
 ·rw [if_neg e, if_neg (by omega)]
theorem idx_upd_some {α : Type} {xs : List α} {i j : Int} {x y : α} (hi : 0 ≤ i) (h : idx xs j = some y) : idx (upd xs i x) j = some (if i = j then x else y) := by
 rw [idx_upd hi (y26 h) (y27 h)]
 split <;> simp [h]

theorem app_ok {α : Type} {xs ys : List α} (h : xs.length + ys.length ≤ 4294967296) : app xs ys = some (xs ++ ys) := by
 unfold app; rw [if_pos h]
theorem mk_ok {α : Type} {n : Nat} {x : α} (h : n ≤ 4294967296) : mk (n : Int) x = some (List.replicate n x) := by
 unfold mk; rw [if_pos (by omega)]; rfl
theorem idx_replicate {α : Type} {n : Nat} {x : α} {i : Int} (h0 : 0 ≤ i) (h1 : i < (n : Int)) : idx (List.replicate n x) i = some x := by
 rw [idx_nat h0, List.getElem?_replicate, if_pos (by omega)]
theorem slc_front {α : Type} {xs : List α} {h : Nat} (hh : h ≤ xs.length) : slc xs 0 (h : Int) = some (xs.take h) := by
 unfold slc; rw [if_pos (by omega)]; simp
theorem nodup_le {α : Type} [DecidableEq α] : ∀ {l s : List α}, l.Nodup → (∀ x ∈ l, x ∈ s) → l.length ≤ s.length
 | [], _, _, _ => by simp
 | a :: t, s, hn, hs => by
  have ha := hs a (List.mem_cons_self ..)
  rw [List.nodup_cons] at hn
  have := nodup_le (l := t) (s := s.erase a) hn.2 (fun x hx => by
   have : x ≠ a := fun e => hn.1 (e ▸ hx)
   exact (List.mem_erase_of_ne this).2 (hs x (List.mem_cons_of_mem _ hx)))
  rw [List.length_erase_of_mem ha] at this
  have : 0 < s.length := List.length_pos_of_mem ha
  simp only [List.length_cons]; omega

def below (n : Nat) : List Int := (List.range n).map (fun (i : Nat) => (i : Int))
theorem mem_below {n : Nat} {x : Int} : x ∈ below n ↔ 0 ≤ x ∧ x < n := by
 unfold below
 simp only [List.mem_map, List.mem_range]
 constructor
 ·rintro ⟨a, h, rfl⟩; omega
 ·rintro ⟨h0, h1⟩; exact ⟨x.toNat, by omega, by omega⟩
theorem below_length (n : Nat) : (below n).length = n := by simp [below]
theorem below_succ (n : Nat) : below (n + 1) = below n ++ [(n : Int)] := by simp [below, List.range_succ]
theorem below_nodup (n : Nat) : (below n).Nodup := by
 induction n with
 | zero => simp [below]
 | succ n ih =>
  rw [below_succ, List.nodup_append]
  refine ⟨ih, by simp, fun a ha b hb => ?_⟩
  have := (mem_below.1 ha).2
  simp only [List.mem_singleton] at hb
  omega

end Go.Proofs.Ytcfcffbjdjacfaa.Sim

namespace Go.Proofs.Ytcfcffbjdjacfaa.Sim
open Go
set_option linter.unusedVariables false

def hf (q : List Int) (i : Nat) : Int := q.getD i 0
theorem hf_get {q : List Int} {i : Nat} (h : i < q.length) : hf q i = q[i] := by simp [hf, h]
theorem idx_hf {q : List Int} {i : Nat} (h : i < q.length) : idx q (i : Int) = some (hf q i) := by rw [y3u h, hf_get h]

def sw (q : List Int) (i j : Nat) : List Int := (q.set i (hf q j)).set j (hf q i)
theorem sw_length (q : List Int) (i j : Nat) : (sw q i j).length = q.length := by simp [sw]
theorem hf_sw {q : List Int} {i j : Nat} (hi : i < q.length) (hj : j < q.length) (k : Nat) : hf (sw q i j) k = if k = j then hf q i else if k = i then hf q j else hf q k := by
 unfold sw
 simp only [hf, List.getD_eq_getElem?_getD, List.getElem?_set, List.length_set]
 by_cases e1 : k = j
 ·subst e1; simp [hj]
 ·rw [if_neg (fun h => e1 h.symm), if_neg e1]
  by_cases e2 : k = i
  ·subst e2; simp [hi]
  ·rw [if_neg (fun h => e2 h.symm), if_neg e2]
theorem sw_perm {q : List Int} {i j : Nat} (hi : i < q.length) (hj : j < q.length) : (sw q i j).Perm q := by
 unfold sw
 rw [hf_get hi, hf_get hj]
 exact List.set_set_perm hi hj

theorem swap_ok {q : List Int} {i j : Nat} (hi : i < q.length) (hj : j < q.length) : y2y.f q (i : Int) (j : Int) = some (sw q i j) := by
 unfold y2y.f
 rw [idx_hf hj, idx_hf hi]
 simp only [Option.bind_some]
 have : (upd q (i : Int) (hf q j)).length = q.length := y1w _ _ _
 rw [y3u (by omega)]
 rfl
theorem less_ok {q : List Int} {i j : Nat} (hi : i < q.length) (hj : j < q.length) : y2u.f q (i : Int) (j : Int) = some (decide (hf q i < hf q j)) := by
 unfold y2u.f
 rw [idx_hf hj, idx_hf hi]
 rfl

def Heap (q : List Int) (n : Nat) : Prop := ∀ k, 0 < k → k < n → hf q ((k - 1) / 2) ≤ hf q k

theorem Heap.min {q : List Int} {n : Nat} (h : Heap q n) : ∀ k, k < n → hf q 0 ≤ hf q k := by
 intro k
 induction k using Nat.strongRecOn with
 | _ k ih =>
  intro hk
  rcases Nat.eq_zero_or_pos k with rfl | h0
  ·omega
  ·have h1 := ih ((k - 1) / 2) (by omega) (by omega)
   have h2 := h k h0 hk
   omega

structure UpI (q : List Int) (j : Nat) : Prop where
 lt : j < q.length
 a : ∀ k, 0 < k → k < q.length → k ≠ j → hf q ((k - 1) / 2) ≤ hf q k
 b : ∀ k, 0 < k → k < q.length → (k - 1) / 2 = j → 0 < j → hf q ((j - 1) / 2) ≤ hf q k

theorem up_par {j : Nat} (h : j < 4294967296) : wi (Int.tdiv (wi ((j : Int) - 1)) 2) = (((j - 1) / 2 : Nat) : Int) := by
 rw [wi_id (x := (j : Int) - 1) (by omega) (by omega)]
 rcases Nat.eq_zero_or_pos j with rfl | h0
 ·rw [show Int.tdiv (((0 : Nat) : Int) - 1) 2 = 0 from by decide]; exact wi_id (by omega) (by omega)
 ·rw [Int.tdiv_eq_ediv_of_nonneg (by omega), wi_id (by omega) (by omega)]; omega

theorem up_ok (q : List Int) (j : Nat) (hl : q.length ≤ 4294967296) (h : UpI q j) : ∃ q', heap_up.f ⟨q⟩ (j : Int) = some ⟨q'⟩ ∧ q'.Perm q ∧ Heap q' q'.length := by
 unfold heap_up.f
 show ∃ q', (fun k (s : List Int × Nat) => heap_up.l0 k s.1 (s.2 : Int)) FUEL (q, j) = some ⟨q'⟩ ∧ _
 refine loop_m (L := fun k (s : List Int × Nat) => heap_up.l0 k s.1 (s.2 : Int)) (fun s => UpI s.1 s.2 ∧ s.1.Perm q) (fun s => s.2) (fun o => ∃ q', o = some ⟨q'⟩ ∧ q'.Perm q ∧ Heap q' q'.length) ?_ FUEL (q, j) ⟨h, List.Perm.refl _⟩ (y2x (by have := h.lt; show j ≤ _; omega))
 rintro k ⟨q1, j⟩ ⟨hi, hp⟩
 simp only at hi hp ⊢
 have hlen := hp.length_eq
 have hjl := hi.lt
 rw [heap_up.l0, up_par (by omega)]
 by_cases e : (j - 1) / 2 = j
 ·have hj0 : j = 0 := by omega
  subst hj0
  refine .inr ⟨q1, by simp, hp, fun k h0 h1 => hi.a k h0 h1 (by omega)⟩
 ·have hj0 : 0 < j := by omega
  rw [if_neg (by simp; omega), less_ok (by omega) (by omega)]
  simp only [Option.bind_some]
  by_cases hc : hf q1 j < hf q1 ((j - 1) / 2)
  ·refine .inl ⟨(sw q1 ((j - 1) / 2) j, (j - 1) / 2), ⟨?_, (sw_perm (by omega) (by omega)).trans hp⟩, by show (j - 1) / 2 < j; omega, ?_⟩
   ·have hs := fun k => hf_sw (q := q1) (i := (j - 1) / 2) (j := j) (by omega) (by omega) k
    refine ⟨by rw [sw_length]; omega, fun k h0 h1 hk => ?_, fun k h0 h1 hk hp0 => ?_⟩
    ·rw [sw_length] at h1
     simp only at hk
     rw [hs, hs]
     by_cases e1 : k = j
     ·subst e1
      rw [if_neg (by omega), if_pos rfl, if_pos rfl]; omega
     ·rw [if_neg e1, if_neg hk]
      by_cases e2 : (k - 1) / 2 = j
      ·rw [if_pos e2]; exact hi.b k h0 h1 e2 hj0
      ·rw [if_neg e2]
       by_cases e3 : (k - 1) / 2 = (j - 1) / 2
       ·rw [if_pos e3]
        have := hi.a k h0 h1 e1
        rw [e3] at this; omega
       ·rw [if_neg e3]; exact hi.a k h0 h1 e1
    ·rw [sw_length] at h1
     simp only at hk hp0 ⊢
     rw [hs, hs, if_neg (by omega), if_neg (by omega)]
     have hpar := hi.a ((j - 1) / 2) hp0 (by omega) (by omega)
     by_cases e1 : k = j
     ·rw [if_pos e1]; exact hpar
     ·rw [if_neg e1, if_neg (by omega)]
      have := hi.a k h0 h1 e1
      rw [hk] at this; omega
   ·rw [decide_eq_true hc]
    simp only [Bool.not_true, Bool.false_eq_true, if_false]
    rw [swap_ok (by omega) (by omega)]
    rfl
  ·refine .inr ⟨q1, ?_, hp, fun k h0 h1 => ?_⟩
   ·rw [decide_eq_false hc]; simp
   ·by_cases e1 : k = j
    ·subst e1; omega
    ·exact hi.a k h0 h1 e1

theorem push_ok (q : List Int) (x : Int) (hl : q.length < 4294967296) (h : Heap q q.length) : ∃ q', heap_Push.f ⟨q⟩ x = some ⟨q'⟩ ∧ q'.Perm (x :: q) ∧ Heap q' q'.length := by
 unfold heap_Push.f y46.f y3h.f
 rw [app_ok (by simp; omega)]
 simp only [Option.bind_some]
 have hlen : (q ++ [x]).length = q.length + 1 := by simp
 have e : wi (((q ++ [x]).length : Int) - 1) = ((q.length : Nat) : Int) := by rw [hlen, wi_id (by omega) (by omega)]; omega
 rw [e]
 have hh : ∀ k, k < q.length → hf (q ++ [x]) k = hf q k := by
  intro k hk; rw [hf_get hk, hf_get (by omega)]; simp [hk]
 obtain ⟨q', h1, h2, h3⟩ := up_ok (q ++ [x]) q.length (by omega) ⟨by omega, fun k h0 h1 hk => by
  rw [hh k (by omega), hh _ (by omega)]; exact h k h0 (by omega), fun k h0 h1 hk _ => by omega⟩
 rw [h1]
 exact ⟨q', rfl, h2.trans (List.perm_append_singleton x q), h3⟩

structure DownI (q : List Int) (n i : Nat) : Prop where
 le : n ≤ q.length
 a : ∀ k, 0 < k → k < n → (k - 1) / 2 ≠ i → hf q ((k - 1) / 2) ≤ hf q k
 b : ∀ k, 0 < k → k < n → (k - 1) / 2 = i → 0 < i → hf q ((i - 1) / 2) ≤ hf q k

theorem down_ok (q : List Int) (n : Nat) (hl : q.length ≤ 4294967296) (h : DownI q n 0) : ∃ q' i, y4n.l0 (n : Int) FUEL q 0 = some (i, q') ∧ q'.Perm q ∧ Heap q' n ∧ ∀ k, n ≤ k → hf q' k = hf q k := by
 show ∃ q' i, (fun k (s : List Int × Nat) => y4n.l0 (n : Int) k s.1 (s.2 : Int)) FUEL (q, 0) = some (i, q') ∧ _
 refine loop_m (L := fun k (s : List Int × Nat) => y4n.l0 (n : Int) k s.1 (s.2 : Int)) (fun s => DownI s.1 n s.2 ∧ s.1.Perm q ∧ (s.2 < n ∨ s.2 = 0) ∧ ∀ k, n ≤ k → hf s.1 k = hf q k) (fun s => n - s.2)
  (fun o => ∃ q' i, o = some (i, q') ∧ q'.Perm q ∧ Heap q' n ∧ ∀ k, n ≤ k → hf q' k = hf q k) ?_ FUEL (q, 0) ⟨h, List.Perm.refl _, .inr rfl, fun _ _ => rfl⟩ (y2x (by have := h.le; show n - 0 ≤ _; omega))
 rintro k ⟨q1, i⟩ ⟨hi, hp, hin, hk⟩
 simp only at hi hp hin hk ⊢
 have hlen := hp.length_eq
 have hle := hi.le
 rw [y4n.l0]
 have e1 : wi (2 * (i : Int)) = ((2 * i : Nat) : Int) := by rw [wi_id (by omega) (by omega)]; omega
 have e2 : wi (((2 * i : Nat) : Int) + 1) = ((2 * i + 1 : Nat) : Int) := y3d (by omega)
 have e3 : wi (((2 * i + 1 : Nat) : Int) + 1) = ((2 * i + 2 : Nat) : Int) := y3d (by omega)
 rw [e1, e2, e3]
 by_cases hc : n ≤ 2 * i + 1
 ·rw [if_pos (by simp; omega)]
  refine .inr ⟨q1, _, rfl, hp, fun k h0 h1 => ?_, hk⟩
  exact hi.a k h0 h1 (by omega)
 ·rw [if_neg (by simp; omega)]
  -- the smaller child
  have hj : ∃ j, (j = 2 * i + 1 ∨ j = 2 * i + 2) ∧ j < n ∧ (∀ k, 0 < k → k < n → (k - 1) / 2 = i → hf q1 j ≤ hf q1 k) ∧
    ((if decide (((2 * i + 2 : Nat) : Int) < (n : Int)) = true then (y2u.f q1 ((2 * i + 2 : Nat) : Int) ((2 * i + 1 : Nat) : Int)).bind fun r46 => some r46 else some false).bind fun t50 => if t50 = true then (some ((2 * i + 2 : Nat) : Int)) else (some ((2 * i + 1 : Nat) : Int)) : Option Int) = some (j : Int) := by
   by_cases h2 : 2 * i + 2 < n
   ·rw [if_pos (by simp; omega), less_ok (by omega) (by omega)]
    simp only [Option.bind_some]
    by_cases h3 : hf q1 (2 * i + 2) < hf q1 (2 * i + 1)
    ·refine ⟨2 * i + 2, .inr rfl, h2, fun k h0 h1 hk => ?_, by rw [decide_eq_true h3]; rfl⟩
     have : k = 2 * i + 1 ∨ k = 2 * i + 2 := by omega
     rcases this with rfl | rfl <;> omega
    ·refine ⟨2 * i + 1, .inl rfl, by omega, fun k h0 h1 hk => ?_, by rw [decide_eq_false h3]; rfl⟩
     have : k = 2 * i + 1 ∨ k = 2 * i + 2 := by omega
     rcases this with rfl | rfl <;> omega
   ·rw [if_neg (by simp; omega)]
    refine ⟨2 * i + 1, .inl rfl, by omega, fun k h0 h1 hk => ?_, rfl⟩
    have : k = 2 * i + 1 := by omega
    subst this; omega
  obtain ⟨j, hj1, hj2, hj3, hj4⟩ := hj
  rw [hj4]
  simp only [Option.bind_some]
  rw [less_ok (by omega) (by omega)]
  simp only [Option.bind_some]
  by_cases h5 : hf q1 j < hf q1 i
  ·refine .inl ⟨(sw q1 i j, j), ⟨?_, (sw_perm (by omega) (by omega)).trans hp, .inl hj2, fun k hk' => ?_⟩, by show n - j < n - i; omega, ?_⟩
   ·have hs := fun k => hf_sw (q := q1) (i := i) (j := j) (by omega) (by omega) k
    refine ⟨by rw [sw_length]; exact hle, fun k h0 h1 hk' => ?_, fun k h0 h1 hk' _ => ?_⟩
    ·simp only at hk'
     rw [hs, hs, if_neg hk']
     by_cases e4 : (k - 1) / 2 = i
     ·rw [if_pos e4]
      by_cases e5 : k = j
      ·rw [if_pos e5]; omega
      ·rw [if_neg e5, if_neg (by omega)]; exact hj3 k h0 h1 e4
     ·rw [if_neg e4]
      by_cases e5 : k = j
      ·omega
      ·rw [if_neg e5]
       by_cases e6 : k = i
       ·rw [if_pos e6]; subst e6
        exact hi.b j (by omega) hj2 (by omega) h0
       ·rw [if_neg e6]; exact hi.a k h0 h1 e4
    ·simp only at hk' ⊢
     rw [hs, hs, if_neg (by omega), if_pos (by omega), if_neg (by omega), if_neg (by omega)]
     have := hi.a k h0 h1 (by omega)
     rw [hk'] at this; exact this
   ·simp only
    rw [hf_sw (by omega) (by omega), if_neg (by omega), if_neg (by omega)]; exact hk k hk'
   ·rw [decide_eq_true h5]
    simp only [Bool.not_true, Bool.false_eq_true, if_false]
    rw [swap_ok (by omega) (by omega)]
    rfl
  ·rw [decide_eq_false h5]
   refine .inr ⟨q1, _, rfl, hp, fun k h0 h1 => ?_, hk⟩
   by_cases e4 : (k - 1) / 2 = i
   ·rw [e4]; have := hj3 k h0 h1 e4; omega
   ·exact hi.a k h0 h1 e4

theorem pop_ok (q : List Int) (hl : q.length ≤ 4294967296) (h0 : 0 < q.length) (h : Heap q q.length) : ∃ q' x, heap_Pop.f ⟨q⟩ = some (⟨q'⟩, x) ∧ (x :: q').Perm q ∧ Heap q' q'.length ∧ ∀ y ∈ q, x ≤ y := by
 unfold heap_Pop.f y3h.f y4n.f y49.f
 simp only [Option.bind_some]
 obtain ⟨n, hn⟩ : ∃ n, q.length = n + 1 := ⟨q.length - 1, by omega⟩
 have e : wi ((q.length : Int) - 1) = ((n : Nat) : Int) := by rw [wi_id (by omega) (by omega)]; omega
 rw [e, show (0 : Int) = ((0 : Nat) : Int) from rfl, swap_ok (by omega) (by omega)]
 simp only [Option.bind_some]
 have hs := fun k => hf_sw (q := q) (i := 0) (j := n) (by omega) (by omega) k
 obtain ⟨q', i, h1, h2, h3, h4⟩ := down_ok (sw q 0 n) n (by rw [sw_length]; exact hl) ⟨by rw [sw_length]; omega, fun k k0 k1 hk => by
  rw [hs, hs, if_neg (by omega), if_neg hk, if_neg (by omega), if_neg (by omega)]; exact h k k0 (by omega), fun k _ _ _ hh => by omega⟩
 have hlen : q'.length = n + 1 := by rw [h2.length_eq, sw_length]; exact hn
 simp only [Int.natCast_zero] at h1 ⊢
 rw [h1]
 simp only [Option.bind_some]
 have e2 : wi ((q'.length : Int) - 1) = ((n : Nat) : Int) := by rw [hlen, wi_id (by omega) (by omega)]; omega
 rw [e2, idx_hf (by omega)]
 have := slc_front (xs := q') (h := n) (by omega)
 rw [this]
 simp only [Option.bind_some]
 have hx : hf q' n = hf q 0 := by rw [h4 n (Nat.le_refl _), hs, if_pos rfl]
 have hdec : q' = q'.take n ++ [hf q' n] := by
  rw [hf_get (by omega)]
  have := List.take_append_drop n q'
  rw [List.drop_eq_getElem_cons (by omega), List.drop_of_length_le (by omega)] at this
  exact this.symm
 refine ⟨_, _, rfl, ?_, ?_, ?_⟩
 ·have hp := h2.trans (sw_perm (q := q) (i := 0) (j := n) (by omega) (by omega))
  refine (List.perm_append_singleton _ _).symm.trans ?_
  rw [← hdec]; exact hp
 ·intro k k0 k1
  rw [List.length_take, Nat.min_eq_left (by omega)] at k1
  have hh : ∀ k, k < n → hf (q'.take n) k = hf q' k := by
   intro k hk; rw [hf_get (by rw [List.length_take]; omega), hf_get (by omega)]; simp
  rw [hh _ (by omega), hh _ k1]
  exact h3 k k0 k1
 ·intro y hy
  rw [hx]
  obtain ⟨k, hk, rfl⟩ := List.getElem_of_mem hy
  rw [← hf_get hk]
  exact h.min k hk

end Go.Proofs.Ytcfcffbjdjacfaa.Sim

namespace Go.Proofs.Ytcfcffbjdjacfaa.Sim
open Go
set_option linter.unusedVariables false

theorem search_ok {α ρ : Type} {L : Nat → Int → Option (Fl ρ Unit)} (xs : List α) (P : α → Bool) (v : ρ) (hlen : xs.length ≤ maxLen)
  (hL : ∀ k (i : Nat), L (k + 1) (i : Int) = if decide ((i : Int) < (xs.length : Int)) = true then (idx xs (i : Int)).bind fun x => if P x = true then some (.out v) else L k (wi ((i : Int) + 1)) else some (.nxt ())) :
  L FUEL 0 = some (if xs.any P = true then .out v else .nxt ()) := by
 rw [maxLen_eq] at hlen
 refine y4o (L := fun k (_ : Unit) i => L k i) xs.length (fun i _ => ∀ x ∈ xs.take i, P x = false) (fun o => o = some (if xs.any P = true then .out v else .nxt ())) ?_ ?_ FUEL 0 () (Nat.zero_le _) (y2x (by omega)) (by simp)
 ·intro k s i hi hI
  simp only [hL]
  rw [if_pos (by simp; omega), y3u hi]
  simp only [Option.bind_some]
  by_cases hp : P xs[i] = true
  ·rw [if_pos hp]
   refine .inr ?_
   rw [if_pos (List.any_eq_true.2 ⟨_, List.getElem_mem hi, hp⟩)]
  ·rw [if_neg hp]
   refine .inl ⟨(), ?_, by rw [y3d (by omega)]⟩
   intro x hx
   rw [List.take_succ_eq_append_getElem hi] at hx
   rcases List.mem_append.1 hx with h | h
   ·exact hI x h
   ·simp only [List.mem_singleton] at h; subst h; simpa using hp
 ·intro k s hI
  simp only [hL]
  rw [if_neg (by simp)]
  rw [List.take_length] at hI
  rw [if_neg]
  intro h
  obtain ⟨x, h1, h2⟩ := List.any_eq_true.1 h
  rw [hI x h1] at h2; cases h2


def badL (n : Int) (x : y0g) : Bool := ((((decide (x.Consumer < 0)) || (decide (n ≤ x.Consumer))) || (decide (x.Supplier < 0))) || (decide (n ≤ x.Supplier)))
def vcode (n : Int) (ls : List y0g) : Int :=
 if (((decide (n < 0)) || (decide (128 < n))) || (decide (1024 < (ls.length : Int)))) = true then 1 else if ls.any (badL n) = true then 1 else if ls.Nodup then 0 else 7

theorem nodup_take {α : Type} {xs : List α} (i : Nat) (h : xs.Nodup) : (xs.take i).Nodup := List.Sublist.nodup (List.take_sublist i xs) h

theorem y2r {α : Type} {xs : List α} {i : Nat} {x : α} (hi : i < xs.length) : x ∈ xs.take (i + 1) ↔ x ∈ xs.take i ∨ x = xs[i] := by
 rw [List.take_succ_eq_append_getElem hi, List.mem_append, List.mem_singleton]

theorem nodup_step {α : Type} {xs : List α} {i : Nat} (hi : i < xs.length) (h : (xs.take i).Nodup) : (xs.take (i + 1)).Nodup ↔ xs[i] ∉ xs.take i := by
 rw [List.take_succ_eq_append_getElem hi, List.nodup_append]
 constructor
 ·rintro ⟨_, _, h3⟩ hm
  exact h3 _ hm _ (by simp) rfl
 ·intro hm
  refine ⟨h, by simp, fun a ha b hb => ?_⟩
  simp only [List.mem_singleton] at hb
  subst hb
  exact fun e => hm (e ▸ ha)

theorem validate_ok (n : Int) (ls : List y0g) (h : ls.length ≤ maxLen) : y1r.f n ls = some (vcode n ls) := by
 unfold y1r.f vcode
 by_cases h0 : (((decide (n < 0)) || (decide (128 < n))) || (decide (1024 < (ls.length : Int)))) = true
 ·rw [if_pos h0, if_pos h0]
 ·rw [if_neg h0, if_neg h0]
  have hlen : ls.length ≤ 1024 := by simp at h0; omega
  rw [search_ok (L := y1r.l0 n ls) ls (badL n) 1 h (fun k i => by rw [y1r.l0]; rfl)]
  by_cases hb : ls.any (badL n) = true
  ·rw [if_pos hb, if_pos hb]; rfl
  ·rw [if_neg hb, if_neg hb]
   simp only [Option.bind_some, Fl.go]
   have key : y1r.l1 ls FUEL [] 0 = some (if ls.Nodup then .nxt () else .out 7) := by
    refine y4o (L := fun k (s : List y0g) i => y1r.l1 ls k s i) ls.length (fun i s => s = ls.take i ∧ (ls.take i).Nodup) (fun o => o = some (if ls.Nodup then .nxt () else .out 7)) ?_ ?_ FUEL 0 [] (Nat.zero_le _) (y2x (by omega)) (by simp)
    ·rintro k s i hi ⟨rfl, hI⟩
     rw [y1r.l1, if_pos (by simp; omega), y3u hi]
     simp only [Option.bind_some]
     by_cases hm : ls[i] ∈ ls.take i
     ·rw [if_pos (by simpa using hm)]
      refine .inr ?_
      rw [if_neg (fun hn => (nodup_step hi hI).1 (nodup_take (i + 1) hn) hm)]
     ·rw [if_neg (by simpa using hm)]
      refine .inl ⟨_, ⟨?_, (nodup_step hi hI).2 hm⟩, by rw [y3d (by omega)]⟩
      rw [List.take_succ_eq_append_getElem hi]
    ·rintro k s ⟨rfl, hI⟩
     rw [y1r.l1, if_neg (by simp)]
     rw [List.take_length] at hI
     rw [if_pos hI]
   rw [key]
   by_cases hn : ls.Nodup
   ·rw [if_pos hn, if_pos hn]; rfl
   ·rw [if_neg hn, if_neg hn]; rfl

structure y50 (n : Nat) (ls : List y0g) : Prop where
 n128 : n ≤ 128
 len : ls.length ≤ 1024
 c0 : ∀ l ∈ ls, 0 ≤ l.Consumer ∧ l.Consumer < n
 s0 : ∀ l ∈ ls, 0 ≤ l.Supplier ∧ l.Supplier < n
 nodup : ls.Nodup

theorem vcode_good {p : Int} {ls : List y0g} (h : vcode p ls = 0) : ∃ n : Nat, p = n ∧ y50 n ls := by
 unfold vcode at h
 split at h
 ·cases h
 ·rename_i h0
  simp only [Bool.or_eq_true, decide_eq_true_eq, not_or] at h0
  split at h
  ·cases h
  ·rename_i hb
   split at h
   ·rename_i hn
    refine ⟨p.toNat, by omega, by omega, by omega, fun l hl => ?_, fun l hl => ?_, hn⟩
    all_goals
     have : badL p l = false := by
      rw [Bool.not_eq_true, List.any_eq_false] at hb
      simpa using hb l hl
     simp [badL] at this
     omega
   ·cases h
theorem good_vcode {n : Nat} {ls : List y0g} (g : y50 n ls) : vcode n ls = 0 := by
 unfold vcode
 rw [if_neg (by have := g.n128; have := g.len; simp; omega), if_neg, if_pos g.nodup]
 rw [Bool.not_eq_true, List.any_eq_false]
 intro l hl
 have := g.c0 l hl
 have := g.s0 l hl
 simp [badL]; omega


theorem mod_ok {x n : Int} (h0 : 0 < n) (h1 : n < 9223372036854775808) : ∃ r, y4r.f x n = some r ∧ 0 ≤ r ∧ r < n := by
 have hn := wu_id (x := n) (by omega) (by omega)
 have hx := wu_range x
 refine ⟨wi (Int.tmod (wu x) (wu n)), by unfold y4r.f; rw [if_neg (by rw [hn]; omega)], ?_⟩
 rw [hn, Int.tmod_eq_emod_of_nonneg hx.1]
 have h2 := Int.emod_nonneg (wu x) (show n ≠ 0 by omega)
 have h3 := Int.emod_lt_of_pos (wu x) h0
 rw [wi_id (by omega) (by omega)]
 exact ⟨h2, h3⟩

end Go.Proofs.Ytcfcffbjdjacfaa.Sim

namespace Go.Proofs.Ytcfcffbjdjacfaa.Sim
open Go
set_option linter.unusedVariables false


def y4f (ls : List y0g) (s : Int) : List Int := (ls.filter (fun l => l.Supplier == s)).map (·.Consumer)
def rem (ls : List y0g) (out : List Int) (c : Int) : Nat := ls.countP (fun l => (l.Consumer == c) && decide (l.Supplier ∉ out))

theorem mem_consOf {ls : List y0g} {s c : Int} : c ∈ y4f ls s ↔ y0g.mk c s ∈ ls := by
 unfold y4f
 simp only [List.mem_map, List.mem_filter, beq_iff_eq]
 constructor
 ·rintro ⟨l, ⟨h1, h2⟩, rfl⟩; subst h2; exact h1
 ·intro h; exact ⟨_, ⟨h, rfl⟩, rfl⟩

theorem rem_split {out : List Int} {x : Int} (hx : x ∉ out) : ∀ (ls : List y0g) (c : Int), rem ls out c = rem ls (out ++ [x]) c + (y4f ls x).count c
 | [], c => by simp [rem, y4f]
 | l :: t, c => by
  have ih := rem_split hx t c
  unfold rem y4f at ih ⊢
  simp only [List.countP_cons, List.filter_cons]
  by_cases h1 : l.Consumer = c <;> by_cases h2 : l.Supplier = x <;> by_cases h4 : l.Supplier ∈ out <;> grind

theorem consOf_snoc (ls : List y0g) (l : y0g) (s : Int) : y4f (ls ++ [l]) s = if l.Supplier = s then y4f ls s ++ [l.Consumer] else y4f ls s := by
 unfold y4f
 by_cases h : l.Supplier = s <;> simp [List.filter_append, h]
theorem rem_snoc (ls : List y0g) (l : y0g) (c : Int) : rem (ls ++ [l]) [] c = rem ls [] c + if l.Consumer = c then 1 else 0 := by
 unfold rem
 by_cases h : l.Consumer = c <;> simp [List.countP_append, h]
theorem rem_le (ls : List y0g) (out : List Int) (c : Int) : rem ls out c ≤ ls.length := List.countP_le_length
theorem consOf_le (ls : List y0g) (s : Int) : (y4f ls s).length ≤ ls.length := by
 unfold y4f; rw [List.length_map]; exact List.length_filter_le _ _

theorem adjacent_ok {n : Nat} {ls : List y0g} (g : y50 n ls) : ∃ adj cnt, y2e.f (n : Int) ls = some (adj, cnt) ∧ adj.length = n ∧ cnt.length = n ∧ ∀ v, 0 ≤ v → v < (n : Int) → idx adj v = some (y4f ls v) ∧ idx cnt v = some (rem ls [] v : Int) := by
 have hn := g.n128
 have hl := g.len
 unfold y2e.f
 rw [mk_ok (by omega), mk_ok (by omega)]
 simp only [Option.bind_some]
 have key : ∃ adj cnt, y2e.l0 ls FUEL (List.replicate n []) (List.replicate n 0) 0 = some (adj, cnt) ∧ adj.length = n ∧ cnt.length = n ∧ ∀ v, 0 ≤ v → v < (n : Int) → idx adj v = some (y4f ls v) ∧ idx cnt v = some (rem ls [] v : Int) := by
  refine y4o (L := fun k (s : List (List Int) × List Int) i => y2e.l0 ls k s.1 s.2 i) ls.length (fun i s => s.1.length = n ∧ s.2.length = n ∧ ∀ v, 0 ≤ v → v < (n : Int) → idx s.1 v = some (y4f (ls.take i) v) ∧ idx s.2 v = some (rem (ls.take i) [] v : Int))
   (fun o => ∃ adj cnt, o = some (adj, cnt) ∧ adj.length = n ∧ cnt.length = n ∧ ∀ v, 0 ≤ v → v < (n : Int) → idx adj v = some (y4f ls v) ∧ idx cnt v = some (rem ls [] v : Int)) ?_ ?_ FUEL 0 (_, _) (Nat.zero_le _) (y2x (by omega)) ?_
  ·rintro k ⟨adj, cnt⟩ i hi ⟨h1, h2, h3⟩
   simp only at h1 h2 h3 ⊢
   have hm := List.getElem_mem hi
   have hc := g.c0 _ hm
   have hs := g.s0 _ hm
   rw [y2e.l0, if_pos (by simp; omega), y3u hi]
   simp only [Option.bind_some]
   have hcl := consOf_le (ls.take i) ls[i].Supplier
   rw [List.length_take] at hcl
   have hrl := rem_le (ls.take i) [] ls[i].Consumer
   rw [List.length_take] at hrl
   rw [(h3 _ hs.1 hs.2).1]
   simp only [Option.bind_some]
   rw [app_ok (by simp only [List.length_singleton]; omega)]
   simp only [Option.bind_some]
   rw [(h3 _ hc.1 hc.2).2]
   simp only [Option.bind_some]
   refine .inl ⟨(upd adj ls[i].Supplier (y4f (ls.take i) ls[i].Supplier ++ [ls[i].Consumer]), upd cnt ls[i].Consumer ((rem (ls.take i) [] ls[i].Consumer + 1 : Nat) : Int)), ?_, by rw [y3d (by omega), y3d (by omega)]⟩
   refine ⟨by rw [y1w]; exact h1, by rw [y1w]; exact h2, fun v v0 v1 => ?_⟩
   rw [idx_upd (xs := adj) hs.1 v0 (by omega), idx_upd (xs := cnt) hc.1 v0 (by omega), List.take_succ_eq_append_getElem hi, consOf_snoc, rem_snoc]
   obtain ⟨q1, q2⟩ := h3 v v0 v1
   constructor
   ·by_cases e : ls[i].Supplier = v
    ·subst e; rw [if_pos rfl, if_pos rfl]
    ·rw [if_neg e, if_neg e]; exact q1
   ·by_cases e : ls[i].Consumer = v
    ·subst e; rw [if_pos rfl, if_pos rfl]
    ·rw [if_neg e, if_neg e]; exact q2
  ·rintro k ⟨adj, cnt⟩ ⟨h1, h2, h3⟩
   simp only at h1 h2 h3 ⊢
   rw [y2e.l0, if_neg (by simp)]
   rw [List.take_length] at h3
   exact ⟨adj, cnt, rfl, h1, h2, h3⟩
  ·refine ⟨by simp, by simp, fun v v0 v1 => ?_⟩
   simp only
   rw [idx_replicate v0 v1, idx_replicate v0 v1]
   simp [y4f, rem]
 obtain ⟨adj, cnt, h1, h2⟩ := key
 rw [h1]
 exact ⟨adj, cnt, rfl, h2⟩


def free (ls : List y0g) (out : List Int) (v : Int) : Bool := decide (v ∉ out) && ls.all (fun l => !(l.Consumer == v) || decide (l.Supplier ∈ out))
def least (n : Nat) (ls : List y0g) (out : List Int) : Option Int := (below n).find? (free ls out)

theorem free_iff {ls : List y0g} {out : List Int} {v : Int} : free ls out v = true ↔ v ∉ out ∧ ∀ l ∈ ls, l.Consumer = v → l.Supplier ∈ out := by
 unfold free
 simp only [Bool.and_eq_true, decide_eq_true_eq, List.all_eq_true, Bool.or_eq_true, Bool.not_eq_true', beq_eq_false_iff_ne, ne_eq]
 constructor
 ·rintro ⟨h1, h2⟩; exact ⟨h1, fun l hl e => (h2 l hl).resolve_left (fun h => h e)⟩
 ·rintro ⟨h1, h2⟩; exact ⟨h1, fun l hl => by by_cases e : l.Consumer = v <;> simp [e, h2 l hl]⟩

theorem free_rem {ls : List y0g} {out : List Int} {v : Int} : free ls out v = true ↔ v ∉ out ∧ rem ls out v = 0 := by
 rw [free_iff]
 unfold rem
 rw [List.countP_eq_zero]
 simp only [Bool.and_eq_true, beq_iff_eq, decide_eq_true_eq, not_and, Decidable.not_not]

theorem find_below (P : Int → Bool) : ∀ (n : Nat), ((∀ u : Int, 0 ≤ u → u < n → P u = false) ∧ (below n).find? P = none) ∨ ∃ v : Int, 0 ≤ v ∧ v < n ∧ P v = true ∧ (∀ u : Int, 0 ≤ u → u < v → P u = false) ∧ (below n).find? P = some v
 | 0 => .inl ⟨fun u h0 h1 => by omega, by simp [below]⟩
 | n + 1 => by
  rw [below_succ, List.find?_append]
  rcases find_below P n with ⟨h1, h2⟩ | ⟨v, h1, h2, h3, h4, h5⟩
  ·rw [h2]
   by_cases hp : P (n : Int) = true
   ·exact .inr ⟨n, by omega, by omega, hp, h1, by simp [hp]⟩
   ·refine .inl ⟨fun u h0 h3 => ?_, by simp [hp]⟩
    by_cases e : u = n
    ·subst e; simpa using hp
    ·exact h1 u h0 (by omega)
  ·exact .inr ⟨v, h1, by omega, h3, h4, by rw [h5]; rfl⟩

theorem least_of {n : Nat} {ls : List y0g} {out : List Int} {v : Int} (h0 : 0 ≤ v) (h1 : v < n) (h2 : free ls out v = true) (h3 : ∀ u, 0 ≤ u → u < v → free ls out u = false) : least n ls out = some v := by
 rcases find_below (free ls out) n with ⟨h4, h5⟩ | ⟨u, h4, h5, h6, h7, h8⟩
 ·rw [h4 v h0 h1] at h2; cases h2
 ·have : u = v := by
   rcases Int.lt_trichotomy u v with h | h | h
   ·rw [h3 u h4 h] at h6; cases h6
   ·exact h
   ·rw [h7 v h0 h] at h2; cases h2
  subst this; exact h8
theorem least_some {n : Nat} {ls : List y0g} {out : List Int} {v : Int} (h : least n ls out = some v) : 0 ≤ v ∧ v < n ∧ free ls out v = true ∧ ∀ u, 0 ≤ u → u < v → free ls out u = false := by
 rcases find_below (free ls out) n with ⟨h4, h5⟩ | ⟨u, h4, h5, h6, h7, h8⟩
 ·unfold least at h; rw [h5] at h; cases h
 ·unfold least at h; rw [h8] at h; injection h with h; subst h; exact ⟨h4, h5, h6, h7⟩
theorem least_none {n : Nat} {ls : List y0g} {out : List Int} : least n ls out = none ↔ ∀ u : Int, 0 ≤ u → u < n → free ls out u = false := by
 rcases find_below (free ls out) n with ⟨h4, h5⟩ | ⟨u, h4, h5, h6, h7, h8⟩
 ·exact ⟨fun _ => h4, fun _ => h5⟩
 ·refine ⟨fun h => ?_, fun h => ?_⟩
  ·unfold least at h; rw [h8] at h; cases h
  ·rw [h u h4 h5] at h6; cases h6

inductive Run (n : Nat) (ls : List y0g) : List Int → Prop where
 | nil : Run n ls []
 | snoc {out : List Int} {v : Int} (h : Run n ls out) (hv : least n ls out = some v) : Run n ls (out ++ [v])

theorem Run.facts {n : Nat} {ls : List y0g} {out : List Int} (h : Run n ls out) : out.Nodup ∧ (∀ v ∈ out, 0 ≤ v ∧ v < n) ∧ ∀ l ∈ ls, l.Consumer ∈ out → l.Supplier ∈ out := by
 induction h with
 | nil => simp
 | @snoc out v h hv ih =>
  obtain ⟨h1, h2, h3⟩ := ih
  obtain ⟨h4, h5, h6, h7⟩ := least_some hv
  obtain ⟨h8, h9⟩ := free_iff.1 h6
  refine ⟨?_, fun u hu => ?_, fun l hl hc => ?_⟩
  ·rw [List.nodup_append]
   refine ⟨h1, by simp, fun a ha b hb => ?_⟩
   simp only [List.mem_singleton] at hb
   subst hb
   exact fun e => h8 (e ▸ ha)
  ·rcases List.mem_append.1 hu with hu | hu
   ·exact h2 u hu
   ·simp only [List.mem_singleton] at hu; subst hu; exact ⟨h4, h5⟩
  ·rcases List.mem_append.1 hc with hc | hc
   ·exact List.mem_append.2 (.inl (h3 l hl hc))
   ·simp only [List.mem_singleton] at hc
    exact List.mem_append.2 (.inl (h9 l hl hc))
theorem Run.length_le {n : Nat} {ls : List y0g} {out : List Int} (h : Run n ls out) : out.length ≤ n := by
 have := nodup_le h.facts.1 (fun x hx => mem_below.2 (h.facts.2.1 x hx))
 rwa [below_length] at this

def greedy (n : Nat) (ls : List y0g) : Nat → List Int → List Int
 | 0, out => out
 | k + 1, out => match least n ls out with
  | none => out
  | some v => greedy n ls k (out ++ [v])
def ord (n : Nat) (ls : List y0g) : List Int := greedy n ls (n + 1) []

theorem Run.greedy {n : Nat} {ls : List y0g} {out : List Int} (h : Run n ls out) (k : Nat) : Sim.greedy n ls (k + out.length) [] = Sim.greedy n ls k out := by
 induction h generalizing k with
 | nil => rfl
 | @snoc out v h hv ih =>
  have := ih (k + 1)
  rw [show k + 1 + out.length = k + (out ++ [v]).length from by simp; omega] at this
  rw [this, Sim.greedy, hv]
theorem Run.ord {n : Nat} {ls : List y0g} {out : List Int} (h : Run n ls out) (hn : least n ls out = none) : out = Sim.ord n ls := by
 have h1 := h.length_le
 have h2 := h.greedy (n + 1 - out.length)
 rw [show n + 1 - out.length + out.length = n + 1 from by omega] at h2
 unfold Sim.ord
 rw [h2, show n + 1 - out.length = (n - out.length) + 1 from by omega, Sim.greedy, hn]
theorem greedy_run {n : Nat} {ls : List y0g} : ∀ (k : Nat) (out : List Int), Run n ls out → n < k + out.length → Run n ls (greedy n ls k out) ∧ least n ls (greedy n ls k out) = none
 | 0, out, h, hk => by have := h.length_le; omega
 | k + 1, out, h, hk => by
  rw [greedy]
  split
  ·rename_i hn; exact ⟨h, hn⟩
  ·rename_i v hv; exact greedy_run k _ (h.snoc hv) (by simp; omega)
theorem ord_run (n : Nat) (ls : List y0g) : Run n ls (ord n ls) ∧ least n ls (ord n ls) = none := greedy_run _ _ .nil (by simp)
theorem ord_le (n : Nat) (ls : List y0g) : (ord n ls).length ≤ n := (ord_run n ls).1.length_le


structure Que (n : Nat) (q : List Int) (P : Int → Prop) : Prop where
 heap : Heap q q.length
 nodup : q.Nodup
 mem : ∀ v, v ∈ q ↔ 0 ≤ v ∧ v < (n : Int) ∧ P v

theorem Que.len {n : Nat} {q : List Int} {P : Int → Prop} (h : Que n q P) : q.length ≤ n := by
 have := nodup_le h.nodup (fun x hx => mem_below.2 ⟨((h.mem x).1 hx).1, ((h.mem x).1 hx).2.1⟩)
 rwa [below_length] at this
theorem Que.congr {n : Nat} {q : List Int} {P Q : Int → Prop} (h : Que n q P) (hpq : ∀ v, 0 ≤ v → v < (n : Int) → (P v ↔ Q v)) : Que n q Q :=
 ⟨h.heap, h.nodup, fun v => by rw [h.mem]; constructor <;> rintro ⟨a, b, c⟩; exact ⟨a, b, (hpq v a b).1 c⟩; exact ⟨a, b, (hpq v a b).2 c⟩⟩
theorem Que.push {n : Nat} {q : List Int} {P : Int → Prop} (h : Que n q P) (hn : n ≤ 128) {x : Int} (h0 : 0 ≤ x) (h1 : x < n) (hx : ¬ P x) : ∃ q', heap_Push.f ⟨q⟩ x = some ⟨q'⟩ ∧ Que n q' (fun v => v = x ∨ P v) := by
 have hl := h.len
 obtain ⟨q', e, hp, hh⟩ := push_ok q x (by omega) h.heap
 refine ⟨q', e, hh, ?_, fun v => ?_⟩
 ·rw [hp.nodup_iff, List.nodup_cons]
  exact ⟨fun hm => hx ((h.mem x).1 hm).2.2, h.nodup⟩
 ·rw [hp.mem_iff, List.mem_cons, h.mem]
  constructor
  ·rintro (rfl | ⟨a, b, c⟩)
   ·exact ⟨h0, h1, .inl rfl⟩
   ·exact ⟨a, b, .inr c⟩
  ·rintro ⟨a, b, rfl | c⟩
   ·exact .inl rfl
   ·exact .inr ⟨a, b, c⟩

theorem sort_l0 {n : Nat} (hn : n ≤ 128) {adj : List (List Int)} {cnt : List Int} (hc : cnt.length = n) : ∃ q, y1x.l0 (adj, cnt) FUEL [] 0 = some q ∧ Que n q (fun v => idx cnt v = some 0) := by
 refine y4o (L := fun k (s : List Int) i => y1x.l0 (adj, cnt) k s i) n (fun i s => Que n s (fun v => v < (i : Int) ∧ idx cnt v = some 0)) (fun o => ∃ q, o = some q ∧ Que n q (fun v => idx cnt v = some 0)) ?_ ?_ FUEL 0 [] (Nat.zero_le _) (y2x (by omega)) ⟨fun k h0 h1 => by simp at h1, by simp, fun v => by simp; omega⟩
 ·rintro k s i hi hq
  rw [y1x.l0, if_pos (by show decide ((i : Int) < (cnt.length : Int)) = true; simp; omega), y3u (xs := cnt) (by omega)]
  simp only [Option.bind_some]
  by_cases e : cnt[i] = 0
  ·rw [if_pos (by simp [e])]
   obtain ⟨q', h1, h2⟩ := hq.push hn (x := (i : Int)) (by omega) (by omega) (fun h => by omega)
   rw [h1]
   refine .inl ⟨q', h2.congr (fun v v0 v1 => ?_), by rw [y3d (by omega)]; rfl⟩
   constructor
   ·rintro (rfl | ⟨h3, h4⟩)
    ·exact ⟨by omega, by rw [y3u (by omega), e]⟩
    ·exact ⟨by omega, h4⟩
   ·rintro ⟨h3, h4⟩
    by_cases e2 : v = i
    ·exact .inl e2
    ·exact .inr ⟨by omega, h4⟩
  ·rw [if_neg (by simp [e])]
   refine .inl ⟨s, hq.congr (fun v v0 v1 => ?_), by rw [y3d (by omega)]; rfl⟩
   constructor
   ·rintro ⟨h3, h4⟩; exact ⟨by omega, h4⟩
   ·rintro ⟨h3, h4⟩
    by_cases e2 : v = i
    ·subst e2; rw [y3u (by omega)] at h4; injection h4 with h4; exact absurd h4 e
    ·exact ⟨by omega, h4⟩
 ·rintro k s hq
  rw [y1x.l0, if_neg (by simp only [decide_eq_true_eq]; omega)]
  exact ⟨s, rfl, hq.congr (fun v v0 v1 => ⟨fun h => h.2, fun h => ⟨v1, h⟩⟩)⟩

theorem sort_l2 {n : Nat} {ls : List y0g} (g : y50 n ls) {out : List Int} (hr : Run n ls out) {x : Int} (hx : least n ls out = some x) {cnt q : List Int} (hc : cnt.length = n) (hcv : ∀ v : Int, 0 ≤ v → v < n → idx cnt v = some (rem ls out v : Int)) (hq : Que n q (fun v => v ∉ out ++ [x] ∧ idx cnt v = some 0)) :
  ∃ cnt' q', y1x.l2 (out ++ [x]) (y4f ls x) FUEL cnt q 0 = some (.nxt (cnt', q', out ++ [x])) ∧ cnt'.length = n ∧ (∀ v : Int, 0 ≤ v → v < n → idx cnt' v = some (rem ls (out ++ [x]) v : Int)) ∧ Que n q' (fun v => v ∉ out ++ [x] ∧ idx cnt' v = some 0) := by
 have hn := g.n128
 have hl := g.len
 have hcl := consOf_le ls x
 obtain ⟨x0, x1, hfree, _⟩ := least_some hx
 obtain ⟨hxo, hxs⟩ := free_iff.1 hfree
 have hmem : ∀ c ∈ y4f ls x, (0 ≤ c ∧ c < n) ∧ c ∉ out ++ [x] := by
  intro c hc
  have hm := mem_consOf.1 hc
  refine ⟨g.c0 _ hm, fun h => ?_⟩
  rcases List.mem_append.1 h with h | h
  ·exact hxo (hr.facts.2.2 _ hm h)
  ·simp only [List.mem_singleton] at h
   exact hxo (hxs _ hm h)
 refine y4o (L := fun k (s : List Int × List Int) i => y1x.l2 (out ++ [x]) (y4f ls x) k s.1 s.2 i) (y4f ls x).length
  (fun i s => s.1.length = n ∧ (∀ v : Int, 0 ≤ v → v < n → idx s.1 v = some ((rem ls (out ++ [x]) v + ((y4f ls x).drop i).count v : Nat) : Int)) ∧ Que n s.2 (fun v => v ∉ out ++ [x] ∧ idx s.1 v = some 0))
  (fun o => ∃ cnt' q', o = some (.nxt (cnt', q', out ++ [x])) ∧ cnt'.length = n ∧ (∀ v : Int, 0 ≤ v → v < n → idx cnt' v = some (rem ls (out ++ [x]) v : Int)) ∧ Que n q' (fun v => v ∉ out ++ [x] ∧ idx cnt' v = some 0)) ?_ ?_ FUEL 0 (cnt, q) (Nat.zero_le _) (y2x (by omega)) ⟨hc, fun v v0 v1 => by rw [hcv v v0 v1, rem_split hxo]; rfl, hq⟩
 ·rintro k ⟨cn, qq⟩ i hi ⟨i1, i2, i3⟩
  simp only at i1 i2 i3 ⊢
  obtain ⟨⟨c0, c1⟩, co⟩ := hmem _ (List.getElem_mem hi)
  rw [y1x.l2, if_pos (by simp; omega), y3u hi]
  simp only [Option.bind_some]
  generalize hcc : (y4f ls x)[i] = c at *
  have hdrop : (y4f ls x).drop i = c :: (y4f ls x).drop (i + 1) := by rw [List.drop_eq_getElem_cons hi, hcc]
  have hcur := i2 c c0 c1
  have hrle := rem_le ls (out ++ [x]) c
  have hcle : ((y4f ls x).drop (i + 1)).count c ≤ (y4f ls x).length := Nat.le_trans List.count_le_length (by simp)
  rw [hdrop, List.count_cons_self] at hcur
  rw [hcur]
  simp only [Option.bind_some]
  have e1 : wi (((rem ls (out ++ [x]) c + (((y4f ls x).drop (i + 1)).count c + 1) : Nat) : Int) - 1) = ((rem ls (out ++ [x]) c + ((y4f ls x).drop (i + 1)).count c : Nat) : Int) := by
   rw [wi_id (by omega) (by omega)]; omega
  rw [e1]
  have hnew : ∀ v : Int, 0 ≤ v → v < n → idx (upd cn c ((rem ls (out ++ [x]) c + ((y4f ls x).drop (i + 1)).count c : Nat) : Int)) v = some ((rem ls (out ++ [x]) v + ((y4f ls x).drop (i + 1)).count v : Nat) : Int) := by
   intro v v0 v1
   rw [idx_upd (xs := cn) c0 v0 (by omega)]
   by_cases e : c = v
   ·subst e; rw [if_pos rfl]
   ·rw [if_neg e, i2 v v0 v1, hdrop, List.count_cons_of_ne e]
  rw [hnew c c0 c1]
  simp only [Option.bind_some]
  have hne : ∀ v, v ≠ c → 0 ≤ v → v < (n : Int) → (idx (upd cn c ((rem ls (out ++ [x]) c + ((y4f ls x).drop (i + 1)).count c : Nat) : Int)) v = some 0 ↔ idx cn v = some 0) := by
   intro v hv v0 v1
   rw [idx_upd (xs := cn) c0 v0 (by omega), if_neg (fun e => hv e.symm)]
  have hpos : idx cn c ≠ some 0 := by
   rw [hcur]; intro h; injection h with h; omega
  by_cases hz : (rem ls (out ++ [x]) c + ((y4f ls x).drop (i + 1)).count c) = 0
  ·rw [if_pos (by rw [hz]; rfl)]
   obtain ⟨q', p1, p2⟩ := i3.push hn c0 c1 (fun h => hpos h.2)
   rw [p1]
   refine .inl ⟨(upd cn c ((rem ls (out ++ [x]) c + ((y4f ls x).drop (i + 1)).count c : Nat) : Int), q'), ⟨by rw [y1w]; exact i1, hnew, p2.congr (fun v v0 v1 => ?_)⟩, by rw [y3d (by omega)]; rfl⟩
   by_cases e : v = c
   ·subst e
    refine ⟨fun _ => ⟨co, by rw [hnew v c0 c1, hz]; rfl⟩, fun _ => .inl rfl⟩
   ·constructor
    ·rintro (h | ⟨h1, h2⟩)
     ·exact absurd h e
     ·exact ⟨h1, (hne v e v0 v1).2 h2⟩
    ·rintro ⟨h1, h2⟩; exact .inr ⟨h1, (hne v e v0 v1).1 h2⟩
  ·rw [if_neg (by simp only [beq_iff_eq]; omega)]
   refine .inl ⟨(upd cn c ((rem ls (out ++ [x]) c + ((y4f ls x).drop (i + 1)).count c : Nat) : Int), qq), ⟨by rw [y1w]; exact i1, hnew, i3.congr (fun v v0 v1 => ?_)⟩, by rw [y3d (by omega)]; rfl⟩
   by_cases e : v = c
   ·subst e
    refine ⟨fun h => absurd h.2 hpos, fun h => ?_⟩
    have h2 := h.2
    rw [hnew v c0 c1] at h2
    injection h2 with h2; omega
   ·exact ⟨fun h => ⟨h.1, (hne v e v0 v1).2 h.2⟩, fun h => ⟨h.1, (hne v e v0 v1).1 h.2⟩⟩
 ·rintro k ⟨cn, qq⟩ ⟨i1, i2, i3⟩
  simp only at i1 i2 i3 ⊢
  rw [y1x.l2, if_neg (by simp)]
  refine ⟨cn, qq, rfl, i1, fun v v0 v1 => ?_, i3⟩
  rw [i2 v v0 v1, List.drop_length]; rfl

theorem sort_ok {n : Nat} {ls : List y0g} (g : y50 n ls) : y1x.f (n : Int) ls = some (ord n ls) := by
 have hn := g.n128
 unfold y1x.f
 obtain ⟨adj, cnt, ha, hal, hcl, hac⟩ := adjacent_ok g
 rw [ha]
 simp only [Option.bind_some]
 obtain ⟨q, h1, h2⟩ := sort_l0 (n := n) hn (adj := adj) (cnt := cnt) hcl
 rw [h1]
 simp only [Option.bind_some]
 have key : y1x.l1 (adj, cnt) FUEL cnt q [] = some (ord n ls) := by
  refine loop_m (L := fun k (s : List Int × List Int × List Int) => y1x.l1 (adj, cnt) k s.1 s.2.1 s.2.2) (fun s => Run n ls s.2.2 ∧ s.1.length = n ∧ (∀ v : Int, 0 ≤ v → v < n → idx s.1 v = some (rem ls s.2.2 v : Int)) ∧ Que n s.2.1 (fun v => v ∉ s.2.2 ∧ idx s.1 v = some 0))
   (fun s => n - s.2.2.length) (fun o => o = some (ord n ls)) ?_ FUEL (cnt, q, []) ⟨.nil, hcl, fun v v0 v1 => (hac v v0 v1).2, h2.congr (fun v _ _ => by simp)⟩ (y2x (by show n - 0 ≤ _; omega))
  rintro k ⟨cn, qq, out⟩ ⟨i1, i2, i3, i4⟩
  simp only at i1 i2 i3 i4 ⊢
  have hlen := i1.length_le
  have hql := i4.len
  have hiff : ∀ v : Int, 0 ≤ v → v < n → ((v ∉ out ∧ idx cn v = some 0) ↔ free ls out v = true) := by
   intro v v0 v1
   rw [free_rem, i3 v v0 v1]
   constructor
   ·rintro ⟨h1, h2⟩; injection h2 with h2; exact ⟨h1, by omega⟩
   ·rintro ⟨h1, h2⟩; exact ⟨h1, by rw [h2]; rfl⟩
  rw [y1x.l1]
  by_cases h0 : 0 < qq.length
  ·rw [if_pos (by simp; omega)]
   obtain ⟨q', x, p1, p2, p3, p4⟩ := pop_ok qq (by omega) h0 i4.heap
   rw [p1]
   simp only [Option.bind_some, Bool.not_true, Bool.false_eq_true, if_false]
   have hxq : x ∈ qq := p2.mem_iff.1 (List.mem_cons_self ..)
   obtain ⟨x0, x1, hxf⟩ := (i4.mem x).1 hxq
   have hx : least n ls out = some x := least_of x0 x1 ((hiff x x0 x1).1 hxf) (fun u u0 ux => by
    rw [Bool.eq_false_iff]
    intro hf
    have := p4 u ((i4.mem u).2 ⟨u0, by omega, (hiff u u0 (by omega)).2 hf⟩)
    omega)
   rw [app_ok (by simp; omega)]
   simp only [Option.bind_some]
   rw [(hac x x0 x1).1]
   simp only [Option.bind_some]
   have hnd : (x :: q').Nodup := p2.nodup_iff.2 i4.nodup
   rw [List.nodup_cons] at hnd
   obtain ⟨cnt', q2, r1, r2, r3, r4⟩ := sort_l2 g i1 hx i2 i3 (q := q') ⟨p3, hnd.2, fun v => by
    have hv := i4.mem v
    rw [← p2.mem_iff, List.mem_cons] at hv
    constructor
    ·intro hm
     obtain ⟨v0, v1, v2, v3⟩ := hv.1 (.inr hm)
     refine ⟨v0, v1, fun h => ?_, v3⟩
     rcases List.mem_append.1 h with h | h
     ·exact v2 h
     ·simp only [List.mem_singleton] at h; subst h; exact hnd.1 hm
    ·rintro ⟨v0, v1, v2, v3⟩
     rw [List.mem_append, List.mem_singleton, not_or] at v2
     exact (hv.2 ⟨v0, v1, v2.1, v3⟩).resolve_left v2.2⟩
   rw [r1]
   have hr' := i1.snoc hx
   have := hr'.length_le
   simp only [List.length_append, List.length_singleton] at this
   exact .inl ⟨(cnt', q2, out ++ [x]), ⟨hr', r2, r3, r4⟩, by simp; omega, rfl⟩
  ·rw [if_neg (by simp only [decide_eq_true_eq]; omega)]
   have hq0 : qq = [] := List.eq_nil_of_length_eq_zero (by omega)
   subst hq0
   refine .inr ?_
   have := i1.ord (least_none.2 (fun u u0 u1 => by
    rw [Bool.eq_false_iff]
    intro hf
    have := (i4.mem u).2 ⟨u0, u1, (hiff u u0 u1).2 hf⟩
    simp at this))
   rw [← this]
 rw [key]
 rfl

end Go.Proofs.Ytcfcffbjdjacfaa.Sim

namespace Go.Proofs.Ytcfcffbjdjacfaa.Sim
open Go
set_option linter.unusedVariables false

inductive Path (ls : List y0g) : Int → Int → Prop where
 | one {a b : Int} (h : y0g.mk a b ∈ ls) : Path ls a b
 | more {a b c : Int} (h : y0g.mk a b ∈ ls) (h' : Path ls b c) : Path ls a c

theorem Path.trans {ls : List y0g} {a b c : Int} (h : Path ls a b) (h' : Path ls b c) : Path ls a c := by
 induction h with
 | one h => exact .more h h'
 | more h _ ih => exact .more h (ih h')
theorem Path.first {ls : List y0g} {a b : Int} (h : Path ls a b) : ∃ c, y0g.mk a c ∈ ls ∧ (c = b ∨ Path ls c b) := by
 cases h with
 | one h => exact ⟨_, h, .inl rfl⟩
 | more h h' => exact ⟨_, h, .inr h'⟩
theorem Run.closed {n : Nat} {ls : List y0g} {out : List Int} (hr : Run n ls out) {a b : Int} (h : Path ls a b) (ha : a ∈ out) : b ∈ out := by
 induction h with
 | one h => exact hr.facts.2.2 _ h ha
 | more h _ ih => exact ih (hr.facts.2.2 _ h ha)

theorem Run.acyclic {n : Nat} {ls : List y0g} {out : List Int} (hr : Run n ls out) : ∀ a ∈ out, ¬ Path ls a a := by
 induction hr with
 | nil => simp
 | @snoc out v h hv ih =>
  intro a ha hp
  rcases List.mem_append.1 ha with ha | ha
  ·exact ih a ha hp
  ·simp only [List.mem_singleton] at ha
   subst ha
   obtain ⟨_, _, hf, _⟩ := least_some hv
   obtain ⟨h1, h2⟩ := free_iff.1 hf
   obtain ⟨c, hc, h3⟩ := hp.first
   have hco := h2 _ hc rfl
   rcases h3 with rfl | h3
   ·exact h1 hco
   ·exact h1 (h.closed h3 hco)

theorem walk_back {n : Nat} (w : Nat → Int) (h : ∀ i, 0 ≤ w i ∧ w i < n) : ∃ i j, i < j ∧ j ≤ n ∧ w i = w j := by
 refine Classical.byContradiction fun hno => ?_
 have hnd : ((List.range (n + 1)).map w).Nodup := by
  rw [List.nodup_iff_pairwise_ne, List.pairwise_map]
  refine List.Pairwise.imp_of_mem ?_ List.pairwise_lt_range
  intro i j hi hj hij e
  exact hno ⟨i, j, hij, by have := List.mem_range.1 hj; omega, e⟩
 have := nodup_le hnd (s := below n) (fun x hx => by
  obtain ⟨i, _, rfl⟩ := List.mem_map.1 hx
  exact mem_below.2 (h i))
 rw [below_length, List.length_map, List.length_range] at this
 omega

theorem ord_short {n : Nat} {ls : List y0g} (g : y50 n ls) (h : (ord n ls).length < n) : ∃ u : Int, 0 ≤ u ∧ u < n ∧ u ∉ ord n ls := by
 refine Classical.byContradiction fun hno => ?_
 have := nodup_le (below_nodup n) (s := ord n ls) (fun x hx => Classical.byContradiction fun hx' => hno ⟨x, (mem_below.1 hx).1, (mem_below.1 hx).2, hx'⟩)
 rw [below_length] at this
 omega
theorem ord_full {n : Nat} {ls : List y0g} (h : ¬ (ord n ls).length < n) {v : Int} (h0 : 0 ≤ v) (h1 : v < n) : v ∈ ord n ls := by
 refine Classical.byContradiction fun hv => ?_
 have hr := (ord_run n ls).1.facts
 have := nodup_le (l := v :: ord n ls) (s := below n) (List.nodup_cons.2 ⟨hv, hr.1⟩) (fun x hx => by
  rcases List.mem_cons.1 hx with rfl | hx
  ·exact mem_below.2 ⟨h0, h1⟩
  ·exact mem_below.2 (hr.2.1 x hx))
 rw [below_length, List.length_cons] at this
 omega

theorem ord_stuck {n : Nat} {ls : List y0g} (g : y50 n ls) {u : Int} (h0 : 0 ≤ u) (h1 : u < n) (hu : u ∉ ord n ls) : ∃ s, y0g.mk u s ∈ ls ∧ s ∉ ord n ls := by
 have hn := least_none.1 (ord_run n ls).2 u h0 h1
 refine Classical.byContradiction fun hno => ?_
 have : free ls (ord n ls) u = true := free_iff.2 ⟨hu, fun l hl hc => Classical.byContradiction fun hs => hno ⟨l.Supplier, by subst hc; exact hl, hs⟩⟩
 rw [this] at hn; cases hn

theorem ord_cyclic {n : Nat} {ls : List y0g} (g : y50 n ls) (h : (ord n ls).length < n) : ∃ i : Int, 0 ≤ i ∧ i < n ∧ Path ls i i := by
 obtain ⟨u, u0, u1, hu⟩ := ord_short g h
 let R := { v : Int // 0 ≤ v ∧ v < n ∧ v ∉ ord n ls }
 have nx : ∀ v : R, ∃ s : R, y0g.mk v.1 s.1 ∈ ls := fun v => by
  obtain ⟨s, h1, h2⟩ := ord_stuck g v.2.1 v.2.2.1 v.2.2.2
  have := g.s0 _ h1
  exact ⟨⟨s, this.1, this.2, h2⟩, h1⟩
 let f : R → R := fun v => (nx v).choose
 have hf : ∀ v : R, y0g.mk v.1 (f v).1 ∈ ls := fun v => (nx v).choose_spec
 let w : Nat → R := fun i => Nat.rec ⟨u, u0, u1, hu⟩ (fun _ v => f v) i
 have hw : ∀ i, y0g.mk (w i).1 (w (i + 1)).1 ∈ ls := fun i => hf (w i)
 obtain ⟨i, j, hij, _, e⟩ := walk_back (n := n) (fun i => (w i).1) (fun i => ⟨(w i).2.1, (w i).2.2.1⟩)
 have hp : ∀ d, Path ls (w i).1 (w (i + d + 1)).1 := by
  intro d
  induction d with
  | zero => exact .one (hw i)
  | succ d ih => exact ih.trans (.one (hw (i + d + 1)))
 have := hp (j - i - 1)
 rw [show i + (j - i - 1) + 1 = j from by omega] at this
 refine ⟨(w i).1, (w i).2.1, (w i).2.2.1, ?_⟩
 rw [← e] at this
 exact this


def ccode (p : Int) (ls : List y0g) : Int := if vcode p ls = 0 then (if (ord p.toNat ls).length < p.toNat then 18 else 0) else vcode p ls

theorem ccode_good {n : Nat} {ls : List y0g} (g : y50 n ls) : ccode (n : Int) ls = if (ord n ls).length < n then 18 else 0 := by
 unfold ccode; rw [if_pos (good_vcode g)]; rfl

def ores (p : Int) (ls : List y0g) : List Int × Int := if ccode p ls = 0 then (ord p.toNat ls, 0) else ([], ccode p ls)

theorem order_ok (p : Int) (ls : List y0g) (h : ls.length ≤ maxLen) : depgraph_Order.f p ls = some (ores p ls) := by
 unfold depgraph_Order.f
 rw [validate_ok p ls h]
 simp only [Option.bind_some]
 by_cases hv : vcode p ls = 0
 ·obtain ⟨n, rfl, g⟩ := vcode_good hv
  unfold ores
  rw [if_neg (by simp [hv]), ccode_good g, sort_ok g]
  simp only [Option.bind_some]
  by_cases hc : (ord n ls).length < n
  ·rw [if_pos (by simp; omega), if_pos hc, if_neg (by decide)]
  ·rw [if_neg (by simp; omega), if_neg hc, if_pos rfl]; rfl
 ·rw [if_pos (by simpa using hv)]
  unfold ores ccode; rw [if_neg hv, if_neg hv]

end Go.Proofs.Ytcfcffbjdjacfaa.Sim

namespace Go.Proofs.Ytcfcffbjdjacfaa.Sim
open Go
set_option linter.unusedVariables false
set_option maxRecDepth 100000

def fset {α : Type} (f : Int → α) (k : Int) (v : α) : Int → α := fun i => if i = k then v else f i
theorem fset_self {α : Type} (f : Int → α) (k : Int) (v : α) : fset f k v k = v := by simp [fset]
theorem fset_ne {α : Type} (f : Int → α) {k i : Int} (v : α) (h : i ≠ k) : fset f k v i = f i := by simp [fset, h]

structure Pm where
 act : Int → Bool
 cnt : Int → Int
 idl : Int → Int
 now : Int
def idle (ls : List y0g) (m : Pm) (k : Int) : Bool := m.act k && decide (m.cnt k = 0) && ls.all (fun l => !(decide (l.Supplier = k) && m.act l.Consumer))
theorem idle_iff {ls : List y0g} {m : Pm} {k : Int} : idle ls m k = true ↔ m.act k = true ∧ m.cnt k = 0 ∧ ∀ l ∈ ls, l.Supplier = k → m.act l.Consumer = false := by
 unfold idle
 simp only [Bool.and_eq_true, decide_eq_true_eq, List.all_eq_true, Bool.not_eq_true', Bool.and_eq_false_iff, decide_eq_false_iff_not, and_assoc]
 refine and_congr Iff.rfl (and_congr Iff.rfl ⟨fun h l hl e => (h l hl).resolve_left (fun hn => hn e), fun h l hl => ?_⟩)
 by_cases e : l.Supplier = k
 ·exact .inr (h l hl e)
 ·exact .inl e

def nxTo (ls : List y0g) (de : Int → Int) (m : Pm) : Nat → Option (Int × Int)
 | 0 => none
 | i + 1 => if idle ls m (i : Int) = true ∧ (∀ z, nxTo ls de m i = some z → m.idl i + de i < z.2) then some ((i : Int), m.idl i + de i) else nxTo ls de m i
section
variable {ls : List y0g} {de : Int → Int} {m : Pm}
theorem nxTo_none : ∀ {n : Nat}, nxTo ls de m n = none → ∀ k : Int, 0 ≤ k → k < n → idle ls m k = false
 | 0, _, k, h0, h1 => by omega
 | n + 1, h, k, h0, h1 => by
  rw [nxTo] at h
  split at h
  ·cases h
  ·rename_i hn
   by_cases e : k = n
   ·subst e
    refine Bool.eq_false_iff.2 fun hi => hn ⟨hi, fun z hz => ?_⟩
    rw [h] at hz; cases hz
   ·exact nxTo_none h k h0 (by omega)
theorem nxTo_some : ∀ {n : Nat} {k t : Int}, nxTo ls de m n = some (k, t) → (0 ≤ k ∧ k < n) ∧ idle ls m k = true ∧ t = m.idl k + de k ∧ ∀ j : Int, 0 ≤ j → j < n → idle ls m j = true → t ≤ m.idl j + de j
 | 0, k, t, h => by cases h
 | n + 1, k, t, h => by
  rw [nxTo] at h
  split at h
  ·rename_i hp
   injection h with h; injection h with h1 h2; subst h1
   refine ⟨by omega, hp.1, h2.symm, fun j j0 j1 hj => ?_⟩
   by_cases e : j = n
   ·subst e; omega
   ·cases hq : nxTo ls de m n with
    | none => rw [nxTo_none hq j j0 (by omega)] at hj; cases hj
    | some z =>
     have := hp.2 z hq
     obtain ⟨_, _, _, h5⟩ := nxTo_some (k := z.1) (t := z.2) hq
     have := h5 j j0 (by omega) hj
     omega
  ·rename_i hn
   obtain ⟨a, b, c, d⟩ := nxTo_some h
   refine ⟨by omega, b, c, fun j j0 j1 hj => ?_⟩
   by_cases e : j = n
   ·subst e
    refine Classical.byContradiction fun hlt => hn ⟨hj, fun z hz => ?_⟩
    rw [h] at hz; injection hz with hz; subst hz
    simp only; omega
   ·exact d j j0 (by omega) hj
end

def off1 (ls : List y0g) (m : Pm) (k at_ : Int) : Pm :=
 { m with act := fset m.act k false, idl := fun s => if (ls.any (fun l => decide (l.Consumer = k) && decide (l.Supplier = s)) && idle ls { m with act := fset m.act k false } s) = true then at_ else m.idl s }

def stop (n : Nat) (ls : List y0g) (de : Int → Int) (t : Int) (m : Pm) : Prop := ∀ k at_, nxTo ls de m n = some (k, at_) → t < at_
inductive Exp (n : Nat) (ls : List y0g) (de : Int → Int) (t : Int) : Pm → List y0e → Pm → Prop where
 | nil {m : Pm} (h : stop n ls de t m) : Exp n ls de t m [] m
 | cons {m m' : Pm} {k at_ : Int} {ops : List y0e} (h : nxTo ls de m n = some (k, at_)) (ht : at_ ≤ t) (h' : Exp n ls de t (off1 ls m k at_) ops m') : Exp n ls de t m (y0e.mk k false at_ :: ops) m'

section
variable {n : Nat} {ls : List y0g} {de : Int → Int} {t : Int}
theorem Exp.det {m m1 m2 : Pm} {o1 o2 : List y0e} (h1 : Exp n ls de t m o1 m1) (h2 : Exp n ls de t m o2 m2) : o1 = o2 ∧ m1 = m2 := by
 induction h1 generalizing o2 m2 with
 | nil h =>
  cases h2 with
  | nil _ => exact ⟨rfl, rfl⟩
  | cons h' ht _ => have := h _ _ h'; omega
 | cons h ht _ ih =>
  cases h2 with
  | nil h' => have := h' _ _ h; omega
  | cons h' ht' h3 =>
   rw [h] at h'; injection h' with h'; injection h' with e1 e2; subst e1; subst e2
   obtain ⟨a, b⟩ := ih h3
   exact ⟨by rw [a], b⟩
def nact (n : Nat) (m : Pm) : Nat := (below n).countP (fun k => m.act k)
theorem countP_lt {α : Type} {p q : α → Bool} {x : α} : ∀ {l : List α}, (∀ y ∈ l, q y = true → p y = true) → x ∈ l → p x = true → q x = false → l.countP q < l.countP p
 | [], _, hx, _, _ => by cases hx
 | a :: l, h, hx, hp, hq => by
  rw [List.countP_cons, List.countP_cons]
  have hle : l.countP q ≤ l.countP p := List.countP_mono_left fun y hy hqy => h y (List.mem_cons_of_mem _ hy) hqy
  rcases List.mem_cons.1 hx with e | e
  ·subst e; rw [hp, hq]; simp; omega
  ·have := countP_lt (l := l) (fun y hy => h y (List.mem_cons_of_mem _ hy)) e hp hq
   by_cases ha : q a = true
   ·have := h a (by simp) ha
    rw [ha, this]; simp; omega
   ·rw [if_neg ha]
    by_cases hb : p a = true
    ·rw [if_pos hb]; omega
    ·rw [if_neg hb]; omega
theorem nact_off {m : Pm} {k at_ : Int} (h0 : 0 ≤ k) (h1 : k < n) (hk : m.act k = true) : nact n (off1 ls m k at_) < nact n m := by
 unfold nact
 refine countP_lt (x := k) (fun y _ hy => ?_) (mem_below.2 ⟨h0, h1⟩) hk ?_
 ·unfold off1 fset at hy
  simp only at hy
  split at hy
  ·cases hy
  ·exact hy
 ·unfold off1 fset; simp
theorem nact_le (n : Nat) (m : Pm) : nact n m ≤ n := by
 unfold nact
 exact Nat.le_trans List.countP_le_length (by rw [below_length]; exact Nat.le_refl _)
theorem Exp.total : ∀ (q : Nat) (m : Pm), nact n m ≤ q → ∃ ops m', Exp n ls de t m ops m' ∧ ops.length ≤ nact n m := by
 intro q
 induction q with
 | zero =>
  intro m hq
  refine ⟨[], m, .nil fun k at_ h => ?_, by simp⟩
  obtain ⟨⟨a, b⟩, c, _, _⟩ := nxTo_some h
  have := nact_off (ls := ls) (at_ := 0) a b (idle_iff.1 c).1
  omega
 | succ q ih =>
  intro m hq
  cases hn : nxTo ls de m n with
  | none => exact ⟨[], m, .nil fun k at_ h => (by rw [hn] at h; cases h), by simp⟩
  | some z =>
   obtain ⟨k, at_⟩ := z
   by_cases ht : at_ ≤ t
   ·obtain ⟨⟨a, b⟩, c, _, _⟩ := nxTo_some hn
    have hlt := nact_off (ls := ls) (at_ := at_) a b (idle_iff.1 c).1
    obtain ⟨ops, m', h1, h2⟩ := ih (off1 ls m k at_) (by omega)
    exact ⟨_, m', .cons hn ht h1, by simp only [List.length_cons]; omega⟩
   ·refine ⟨[], m, .nil fun k' at' h => ?_, by simp⟩
    rw [hn] at h; injection h with h; injection h with _ h; omega
theorem Exp.exists_ (m : Pm) : ∃ ops m', Exp n ls de t m ops m' ∧ ops.length ≤ n := by
 obtain ⟨ops, m', h1, h2⟩ := Exp.total (n := n) (ls := ls) (de := de) (t := t) (nact n m) m (Nat.le_refl _)
 exact ⟨ops, m', h1, Nat.le_trans h2 (nact_le n m)⟩
theorem Exp.ind {P : Pm → Prop} (hs : ∀ m k at_, P m → nxTo ls de m n = some (k, at_) → at_ ≤ t → P (off1 ls m k at_)) {m m' : Pm} {ops : List y0e} (h : Exp n ls de t m ops m') : P m → P m' := by
 induction h with
 | nil h => exact fun hp => hp
 | cons h ht _ ih => exact fun hp => ih (hs _ _ _ hp h ht)
theorem Exp.stop_ {m m' : Pm} {ops : List y0e} (h : Exp n ls de t m ops m') : stop n ls de t m' := by
 induction h with
 | nil h => exact h
 | cons _ _ _ ih => exact ih
theorem stop_iff {m : Pm} : stop n ls de t m ↔ ∀ k : Int, 0 ≤ k → k < n → idle ls m k = true → t < m.idl k + de k := by
 constructor
 ·intro h k k0 k1 hk
  cases hn : nxTo ls de m n with
  | none => rw [nxTo_none hn k k0 k1] at hk; cases hk
  | some z =>
   have h1 := h z.1 z.2 hn
   obtain ⟨_, _, _, h2⟩ := nxTo_some (k := z.1) (t := z.2) hn
   have := h2 k k0 k1 hk
   omega
 ·intro h k at_ hn
  obtain ⟨⟨a, b⟩, c, d, _⟩ := nxTo_some hn
  rw [d]; exact h k a b c
theorem Exp.same {m m' : Pm} {ops : List y0e} (h : Exp n ls de t m ops m') : m'.now = m.now ∧ m'.cnt = m.cnt := by
 induction h with
 | nil h => exact ⟨rfl, rfl⟩
 | cons _ _ _ ih => exact ih
def y4k (m : Pm) (t : Int) : Pm := { m with now := t }
theorem nxTo_now {m : Pm} {q : Int} : ∀ (i : Nat), nxTo ls de (y4k m q) i = nxTo ls de m i
 | 0 => rfl
 | i + 1 => by
  rw [nxTo, nxTo, nxTo_now i]; rfl
theorem Exp.y4k {m m' : Pm} {ops : List y0e} (h : Exp n ls de t m ops m') (q : Int) : Exp n ls de t (Sim.y4k m q) ops (Sim.y4k m' q) := by
 induction h with
 | nil h => exact .nil fun k at_ hk => h k at_ (by rw [← hk, nxTo_now])
 | cons h ht _ ih => exact .cons (by rw [nxTo_now]; exact h) ht ih
end
end Go.Proofs.Ytcfcffbjdjacfaa.Sim

namespace Go.Proofs.Ytcfcffbjdjacfaa.Sim
open Go
set_option linter.unusedVariables false
set_option maxRecDepth 100000

def RepV {α : Type} (n : Nat) (l : List α) (c : Int → α) : Prop := l.length = n ∧ ∀ i : Int, 0 ≤ i → i < n → idx l i = some (c i)
theorem RepV.set {α : Type} {n : Nat} {l : List α} {c : Int → α} (h : RepV n l c) {k : Int} (h0 : 0 ≤ k) (v : α) : RepV n (upd l k v) (fset c k v) := by
 refine ⟨by rw [y1w]; exact h.1, fun i i0 i1 => ?_⟩
 rw [idx_upd_some h0 (h.2 i i0 i1)]
 unfold fset
 by_cases e : k = i
 ·subst e; simp
 ·simp [e, Ne.symm e]
theorem RepV.rep {α : Type} (n : Nat) (x : α) : RepV n (List.replicate n x) (fun _ => x) := ⟨by simp, fun i h0 h1 => idx_replicate h0 h1⟩
theorem RepV.congr {α : Type} {n : Nat} {l : List α} {c d : Int → α} (h : RepV n l c) (e : ∀ i : Int, 0 ≤ i → i < n → c i = d i) : RepV n l d := ⟨h.1, fun i i0 i1 => by rw [h.2 i i0 i1, e i i0 i1]⟩

def supOf (ls : List y0g) (k : Int) : List Int := (ls.filter (fun l => l.Consumer == k)).map (·.Supplier)
theorem mem_supOf {ls : List y0g} {k s : Int} : s ∈ supOf ls k ↔ ∃ l ∈ ls, l.Consumer = k ∧ l.Supplier = s := by
 unfold supOf
 simp only [List.mem_map, List.mem_filter, beq_iff_eq]
 exact ⟨fun ⟨l, ⟨a, b⟩, c⟩ => ⟨l, a, b, c⟩, fun ⟨l, a, b, c⟩ => ⟨l, ⟨a, b⟩, c⟩⟩
theorem mem_consOf' {ls : List y0g} {k c : Int} : c ∈ y4f ls k ↔ ∃ l ∈ ls, l.Supplier = k ∧ l.Consumer = c := by
 unfold y4f
 simp only [List.mem_map, List.mem_filter, beq_iff_eq]
 exact ⟨fun ⟨l, ⟨a, b⟩, c⟩ => ⟨l, a, b, c⟩, fun ⟨l, a, b, c⟩ => ⟨l, ⟨a, b⟩, c⟩⟩
theorem supOf_le (ls : List y0g) (k : Int) : (supOf ls k).length ≤ ls.length := by unfold supOf; rw [List.length_map]; exact List.length_filter_le _ _

abbrev dev (ls : List y0g) (de : Int → Int) (m : Pm) (i : Int) : y0k := y0k.mk (de i) (supOf ls i) (y4f ls i) (m.act i) (m.cnt i) (m.idl i)
structure RM (n : Nat) (ls : List y0g) (de : Int → Int) (p : y01) (m : Pm) : Prop where
 dv : RepV n p.devices (dev ls de m)
 lk : p.links = ls
 od : p.order = ord n ls
 nw : p.now = m.now
structure Tb (de : Int → Int) (m : Pm) : Prop where
 d : ∀ k, 0 ≤ de k ∧ de k ≤ 1048576
 i : ∀ k, 0 ≤ m.idl k ∧ m.idl k ≤ 1152921504606846976
theorem Tb.off {de : Int → Int} {m : Pm} {ls : List y0g} {n : Nat} {t : Int} (ht : t ≤ 1152921504606846976) (B : Tb de m) {k at_ : Int} (h : nxTo ls de m n = some (k, at_)) (h1 : at_ ≤ t) : Tb de (off1 ls m k at_) := by
 obtain ⟨_, _, e, _⟩ := nxTo_some h
 have hd := B.d k
 have hi := B.i k
 refine ⟨B.d, fun s => ?_⟩
 unfold off1
 simp only
 split
 ·omega
 ·exact B.i s

section
variable {n : Nat} {ls : List y0g} {de : Int → Int} {p : y01} {m : Pm}

theorem indexFunc_ok (g : y50 n ls) (R : RM n ls de p m) {xs : List Int} (hl : xs.length ≤ 100000) (hx : ∀ x ∈ xs, 0 ≤ x ∧ x < n) : ∃ r, y1a.f xs p = some r ∧ (0 ≤ r ↔ ∃ x ∈ xs, m.act x = true) := by
 unfold y1a.f
 have key : ((∃ x ∈ xs, m.act x = true) ∧ ∃ i : Nat, y1a.l0 xs p FUEL 0 = some (.out (i : Int))) ∨ ((¬ ∃ x ∈ xs, m.act x = true) ∧ y1a.l0 xs p FUEL 0 = some (.nxt ())) := by
  refine y4o (L := fun k (_ : Unit) i => y1a.l0 xs p k i) xs.length (fun i _ => ∀ x ∈ xs.take i, m.act x = false)
   (fun o => ((∃ x ∈ xs, m.act x = true) ∧ ∃ i : Nat, o = some (.out (i : Int))) ∨ ((¬ ∃ x ∈ xs, m.act x = true) ∧ o = some (.nxt ()))) ?_ ?_ FUEL 0 () (Nat.zero_le _) (y2x (by omega)) (by simp)
  ·intro k _ i hi hI
   have hm := List.getElem_mem hi
   have hr := hx _ hm
   rw [y1a.l0, if_pos (by simp; omega), y3u hi, Option.bind_some]
   unfold y39.f
   rw [R.dv.2 _ hr.1 hr.2, Option.bind_some, Option.bind_some]
   cases ha : m.act xs[i]
   ·rw [if_neg (by simp [dev, ha]), y3d (by omega)]
    refine .inl ⟨(), fun x hx' => ?_, rfl⟩
    rcases (y2r hi).1 hx' with h | h
    ·exact hI x h
    ·rw [h]; exact ha
   ·rw [if_pos (by simp [dev, ha])]
    exact .inr (.inl ⟨⟨_, hm, ha⟩, i, rfl⟩)
  ·intro k _ hI
   rw [y1a.l0, if_neg (by simp)]
   rw [List.take_length] at hI
   exact .inr ⟨fun ⟨x, hx, ha⟩ => (by rw [hI x hx] at ha; cases ha), rfl⟩
 rcases key with ⟨h, i, e⟩ | ⟨h, e⟩
 ·exact ⟨i, by rw [e]; rfl, ⟨fun _ => h, fun _ => by omega⟩⟩
 ·exact ⟨-1, by rw [e]; rfl, ⟨fun h' => by omega, fun h' => absurd h' h⟩⟩

theorem isIdle_ok (g : y50 n ls) (R : RM n ls de p m) {k : Int} (h0 : 0 ≤ k) (h1 : k < n) : y2h.f p k = some (idle ls m k) := by
 have hc : ∀ x ∈ y4f ls k, 0 ≤ x ∧ x < n := fun x hx => by
  obtain ⟨l, hl, _, rfl⟩ := mem_consOf'.1 hx
  exact g.c0 l hl
 have hll := g.len
 have hcl := consOf_le ls k
 obtain ⟨r, e, hr⟩ := indexFunc_ok g R (by omega) hc
 unfold y2h.f y2i.f
 rw [R.dv.2 k h0 h1, Option.bind_some]
 simp only [dev]
 rw [e, Option.bind_some, Option.bind_some]
 by_cases ha : m.act k = true
 rotate_left
 ·rw [if_neg (by simp [ha]), Option.bind_some]
  congr 1
  symm
  rw [Bool.eq_false_iff]
  exact fun h => ha (idle_iff.1 h).1
 ·by_cases hq : m.cnt k = 0
  ·rw [if_pos (by simp [ha, hq]), Option.bind_some]
   congr 1
   rw [Bool.eq_iff_iff, idle_iff]
   simp only [Bool.not_eq_true', decide_eq_false_iff_not, hr, mem_consOf']
   constructor
   ·intro h
    refine ⟨ha, hq, fun l hl hs => ?_⟩
    refine Bool.eq_false_iff.2 fun hb => h ⟨l.Consumer, ⟨l, hl, hs, rfl⟩, hb⟩
   ·rintro ⟨_, _, h⟩ ⟨x, ⟨l, hl, hs, rfl⟩, hb⟩
    rw [h l hl hs] at hb; cases hb
  ·rw [if_neg (by simp [hq]), Option.bind_some]
   congr 1
   symm
   rw [Bool.eq_false_iff]
   exact fun h => hq (idle_iff.1 h).2.1

def enc (o : Option (Int × Int)) : Int × Int := match o with
 | none => (-1, 0)
 | some z => z
theorem next_ok (g : y50 n ls) (R : RM n ls de p m) (B : Tb de m) : y1q.f p = some (enc (nxTo ls de m n)) := by
 have hn := g.n128
 unfold y1q.f
 have key : y1q.l0 p FUEL (-1) 0 0 = some (enc (nxTo ls de m n)) := by
  refine y4o (L := fun k (s : Int × Int) i => y1q.l0 p k s.1 s.2 i) n (fun i s => s = enc (nxTo ls de m i)) (fun o => o = some (enc (nxTo ls de m n))) ?_ ?_ FUEL 0 (-1, 0) (Nat.zero_le _) (y2x (by omega)) rfl
  ·rintro k s i hi rfl
   have hd := B.d i
   have hi' := B.i i
   rw [y1q.l0, R.dv.1, if_pos (by simp; omega), R.dv.2 (i : Int) (by omega) (by omega), Option.bind_some, isIdle_ok g R (by omega) (by omega), Option.bind_some, y3d (by omega)]
   have hw : wu (m.idl i + de i) = m.idl i + de i := wu_id (by omega) (by omega)
   simp only [dev, hw]
   have hc : (idle ls m (i : Int) && ((decide ((enc (nxTo ls de m i)).1 < 0)) || (decide (m.idl i + de i < (enc (nxTo ls de m i)).2)))) = true ↔ (idle ls m (i : Int) = true ∧ (∀ z, nxTo ls de m i = some z → m.idl i + de i < z.2)) := by
    simp only [Bool.and_eq_true, Bool.or_eq_true, decide_eq_true_eq]
    refine and_congr Iff.rfl ?_
    cases hz : nxTo ls de m i with
    | none => simp [enc]
    | some z =>
     obtain ⟨⟨h0, _⟩, _⟩ := nxTo_some (k := z.1) (t := z.2) hz
     simp only [enc]
     constructor
     ·rintro (h | h) z' hz'
      ·omega
      ·injection hz' with hz'; subst hz'; exact h
     ·intro h; exact .inr (h z rfl)
   refine .inl ⟨enc (nxTo ls de m (i + 1)), rfl, ?_⟩
   rw [nxTo]
   by_cases h : idle ls m (i : Int) = true ∧ (∀ z, nxTo ls de m i = some z → m.idl i + de i < z.2)
   ·rw [if_pos (hc.2 h), if_pos h, Option.bind_some]; rfl
   ·rw [if_neg (fun h' => h (hc.1 h')), if_neg h, Option.bind_some]
  ·rintro k s rfl
   rw [y1q.l0, R.dv.1, if_neg (by simp)]
 rw [key]; rfl

theorem expire_l1 (g : y50 n ls) {k at_ : Int} {ops : List y0e} {r : Int × Int} (hr : r.2 = at_) {x : y0k} (hx : x.suppliers = supOf ls k) {m : Pm} {p : y01} (R : RM n ls de p { m with act := fset m.act k false }) :
  ∃ p', y0s.l1 r ops x FUEL p 0 = some (.nxt (p', ops)) ∧ RM n ls de p' (off1 ls m k at_) := by
 have hll := g.len
 have hsl := supOf_le ls k
 have hsr : ∀ s ∈ supOf ls k, 0 ≤ s ∧ s < n := fun s hs => by
  obtain ⟨l, hl, _, rfl⟩ := mem_supOf.1 hs
  exact g.s0 l hl
 let m0 : Pm := { m with act := fset m.act k false }
 let mi : Nat → Pm := fun j => { m0 with idl := fun s => if decide (s ∈ (supOf ls k).take j) && idle ls m0 s then at_ else m.idl s }
 have hid : ∀ j, idle ls (mi j) = idle ls m0 := fun j => rfl
 have key : ∃ p', y0s.l1 r ops x FUEL p 0 = some (.nxt (p', ops)) ∧ RM n ls de p' (mi (supOf ls k).length) := by
  refine y4o (L := fun q (s : y01) i => y0s.l1 r ops x q s i) (supOf ls k).length (fun j s => RM n ls de s (mi j)) (fun o => ∃ p', o = some (.nxt (p', ops)) ∧ RM n ls de p' (mi (supOf ls k).length)) ?_ ?_ FUEL 0 p (Nat.zero_le _) (y2x (by omega)) ?_
  ·intro q s j hj hI
   have hm := List.getElem_mem hj
   obtain ⟨s0, s1⟩ := hsr _ hm
   rw [y0s.l1, hx, if_pos (by simp; omega), y3u hj, Option.bind_some, isIdle_ok g hI s0 s1, Option.bind_some, y3d (by omega), hid]
   have hstep : ∀ s', (decide (s' ∈ (supOf ls k).take (j + 1)) && idle ls m0 s') = ((decide (s' ∈ (supOf ls k).take j) && idle ls m0 s') || (decide (s' = (supOf ls k)[j]) && idle ls m0 s')) := fun s' => by
    rw [Bool.eq_iff_iff]
    simp only [Bool.and_eq_true, Bool.or_eq_true, decide_eq_true_eq, y2r hj]
    constructor
    ·rintro ⟨h | h, h'⟩
     ·exact .inl ⟨h, h'⟩
     ·exact .inr ⟨h, h'⟩
    ·rintro (⟨h, h'⟩ | ⟨h, h'⟩)
     ·exact ⟨.inl h, h'⟩
     ·exact ⟨.inr h, h'⟩
   cases hi : idle ls m0 (supOf ls k)[j]
   ·rw [if_neg (by simp), Option.bind_some]
    refine .inl ⟨s, ⟨hI.dv.congr fun i i0 i1 => ?_, hI.lk, hI.od, hI.nw⟩, rfl⟩
    unfold dev
    congr 1
    show (if (decide (i ∈ (supOf ls k).take j) && idle ls m0 i) = true then at_ else m.idl i) = (if (decide (i ∈ (supOf ls k).take (j + 1)) && idle ls m0 i) = true then at_ else m.idl i)
    rw [hstep i]
    by_cases e : i = (supOf ls k)[j]
    ·subst e; rw [hi]; simp
    ·simp [e]
   ·rw [if_pos rfl, hI.dv.2 _ s0 s1, Option.bind_some, Option.bind_some, hr]
    refine .inl ⟨y01.mk (upd s.devices (supOf ls k)[j] ({ dev ls de (mi j) (supOf ls k)[j] with idle := at_ } : y0k)) s.links s.order s.now, ⟨(hI.dv.set s0 _).congr fun i i0 i1 => ?_, hI.lk, hI.od, hI.nw⟩, rfl⟩
    have hgoal : (mi (j + 1)).idl i = if (decide (i ∈ (supOf ls k).take j) && idle ls m0 i || decide (i = (supOf ls k)[j]) && idle ls m0 i) = true then at_ else m.idl i := by
     show (if (decide (i ∈ (supOf ls k).take (j + 1)) && idle ls m0 i) = true then at_ else m.idl i) = _
     rw [hstep i]
    unfold fset
    by_cases e : i = (supOf ls k)[j]
    ·rw [if_pos e]
     unfold dev
     rw [hgoal, e, hi]
     simp
     exact ⟨rfl, rfl⟩
    ·rw [if_neg e]
     unfold dev
     rw [hgoal]
     simp only [e, decide_false, Bool.false_and, Bool.or_false]
     rfl
  ·intro q s hI
   rw [y0s.l1, hx, if_neg (by simp)]
   exact ⟨s, rfl, hI⟩
  ·refine ⟨R.dv.congr fun i _ _ => ?_, R.lk, R.od, R.nw⟩
   unfold dev
   congr 1
 obtain ⟨p', e, h⟩ := key
 refine ⟨p', e, h.dv.congr fun i _ _ => ?_, h.lk, h.od, h.nw⟩
 unfold dev
 congr 1
 show (if (decide (i ∈ (supOf ls k).take (supOf ls k).length) && idle ls m0 i) = true then at_ else m.idl i) = (if (ls.any (fun l => decide (l.Consumer = k) && decide (l.Supplier = i)) && idle ls m0 i) = true then at_ else m.idl i)
 rw [List.take_length]
 have : decide (i ∈ supOf ls k) = ls.any (fun l => decide (l.Consumer = k) && decide (l.Supplier = i)) := by
  rw [Bool.eq_iff_iff, decide_eq_true_eq, mem_supOf, List.any_eq_true]
  simp
 rw [this]

theorem expire_l0 (g : y50 n ls) {t : Int} (ht : t ≤ 1152921504606846976) {m m' : Pm} {ops : List y0e} (h : Exp n ls de t m ops m') : ∀ (p : y01) (o0 : List y0e) (fuel : Nat), RM n ls de p m → Tb de m → ops.length < fuel → o0.length + ops.length ≤ 100000 →
  ∃ p', y0s.l0 t fuel p o0 = some (p', o0 ++ ops) ∧ RM n ls de p' m' ∧ Tb de m' := by
 induction h with
 | @nil m h =>
  intro p o0 fuel R B hf hl
  match fuel, hf with
  | fuel + 1, _ =>
   have hc : (decide ((enc (nxTo ls de m n)).1 < 0) || decide (t < (enc (nxTo ls de m n)).2)) = true := by
    rw [Bool.or_eq_true, decide_eq_true_eq, decide_eq_true_eq]
    cases hz : nxTo ls de m n with
    | none => exact .inl (by decide)
    | some z => exact .inr (h z.1 z.2 hz)
   rw [y0s.l0, next_ok g R B, Option.bind_some, if_pos hc, Option.bind_some, Fl.go]
   exact ⟨p, by simp, R, B⟩
 | @cons m m' k at_ ops h hat h' ih =>
  intro p o0 fuel R B hf hl
  match fuel, hf with
  | fuel + 1, hf =>
   obtain ⟨⟨k0, k1⟩, hk, _, _⟩ := nxTo_some h
   simp only [List.length_cons] at hf hl
   have hc : ¬ (decide ((enc (some (k, at_))).1 < 0) || decide (t < (enc (some (k, at_))).2)) = true := by
    rw [Bool.or_eq_true, decide_eq_true_eq, decide_eq_true_eq]
    show ¬ (k < 0 ∨ t < at_)
    omega
   rw [y0s.l0, next_ok g R B, Option.bind_some, h, if_neg hc]
   simp only [enc]
   have hdv := (R.dv.set k0 ({ dev ls de m k with active := false } : y0k))
   rw [R.dv.2 k k0 k1, Option.bind_some, app_ok (by simp; omega), Option.bind_some, hdv.2 k k0 k1, Option.bind_some, fset_self]
   have R1 : RM n ls de (y01.mk (upd p.devices k ({ dev ls de m k with active := false } : y0k)) p.links p.order p.now) { m with act := fset m.act k false } := by
    refine ⟨hdv.congr fun i i0 i1 => ?_, R.lk, R.od, R.nw⟩
    unfold fset
    by_cases e : i = k
    ·rw [if_pos e]; subst e; simp [dev]
    ·rw [if_neg e]; simp [dev, e]
   obtain ⟨p1, e1, R2⟩ := expire_l1 (n := n) (de := de) g (k := k) (at_ := at_) (ops := o0 ++ [y0e.mk k false at_]) (r := (k, at_)) rfl (x := ({ dev ls de m k with active := false } : y0k)) rfl R1
   rw [e1, Option.bind_some, Fl.go]
   obtain ⟨p2, e2, R3, B3⟩ := ih p1 (o0 ++ [y0e.mk k false at_]) fuel R2 (B.off ht h hat) (by omega) (by simp; omega)
   exact ⟨p2, by rw [e2]; simp, R3, B3⟩

theorem expire_ok (g : y50 n ls) {t : Int} (ht : t ≤ 1152921504606846976) {m m' : Pm} {ops : List y0e} (h : Exp n ls de t m ops m') (hl : ops.length ≤ 1000) {p : y01} (R : RM n ls de p m) (B : Tb de m) :
  ∃ p', y0s.f p t = some (p', ops) ∧ RM n ls de p' m' ∧ Tb de m' := by
 unfold y0s.f
 obtain ⟨p', e, h1, h2⟩ := expire_l0 g ht h p [] FUEL R B (by unfold FUEL; omega) (by simp; omega)
 exact ⟨p', by rw [e]; simp, h1, h2⟩
end
end Go.Proofs.Ytcfcffbjdjacfaa.Sim

namespace Go.Proofs.Ytcfcffbjdjacfaa.Sim
open Go
set_option linter.unusedVariables false

def Rch (down : Bool) (ls : List y0g) (of : List Int) (x : Int) : Prop := ∃ a ∈ of, x = a ∨ (if down = true then Path ls a x else Path ls x a)

def revL (ls : List y0g) : List y0g := ls.map (fun l => y0g.mk l.Supplier l.Consumer)
theorem mem_revL {ls : List y0g} {a b : Int} : y0g.mk a b ∈ revL ls ↔ y0g.mk b a ∈ ls := by
 unfold revL
 rw [List.mem_map]
 constructor
 ·rintro ⟨l, h, e⟩; injection e with e1 e2; subst e1; subst e2; exact h
 ·intro h; exact ⟨_, h, rfl⟩
theorem path_revL {ls : List y0g} {a b : Int} (h : Path (revL ls) a b) : Path ls b a := by
 induction h with
 | one h => exact .one (mem_revL.1 h)
 | more h _ ih => exact ih.trans (.one (mem_revL.1 h))
theorem path_revL' {ls : List y0g} {a b : Int} (h : Path ls a b) : Path (revL ls) b a := by
 induction h with
 | one h => exact .one (mem_revL.2 h)
 | more h _ ih => exact ih.trans (.one (mem_revL.2 h))
theorem nodup_map_inj {α β : Type} {f : α → β} (hf : ∀ a b, f a = f b → a = b) {l : List α} (h : l.Nodup) : (l.map f).Nodup := by
 rw [List.nodup_iff_pairwise_ne, List.pairwise_map]
 exact List.Pairwise.imp (fun {a b} hab e => hab (hf a b e)) h
theorem good_revL {n : Nat} {ls : List y0g} (g : y50 n ls) : y50 n (revL ls) := by
 refine ⟨g.n128, by unfold revL; rw [List.length_map]; exact g.len, fun l hl => ?_, fun l hl => ?_, ?_⟩
 ·have : y0g.mk l.Supplier l.Consumer ∈ ls := mem_revL.1 hl; exact g.s0 _ this
 ·have : y0g.mk l.Supplier l.Consumer ∈ ls := mem_revL.1 hl; exact g.c0 _ this
 ·exact nodup_map_inj (fun a b e => by cases a; cases b; injection e with e1 e2; simp only at e1 e2; subst e1; subst e2; rfl) g.nodup
theorem rch_rev {ls : List y0g} {of : List Int} {x : Int} : Rch false (revL ls) of x ↔ Rch true ls of x := by
 unfold Rch
 simp only [Bool.false_eq_true, if_false, if_true]
 constructor
 ·rintro ⟨a, h, e | e⟩
  ·exact ⟨a, h, .inl e⟩
  ·exact ⟨a, h, .inr (path_revL e)⟩
 ·rintro ⟨a, h, e | e⟩
  ·exact ⟨a, h, .inl e⟩
  ·exact ⟨a, h, .inr (path_revL' e)⟩

theorem reversed_ok (ls : List y0g) (h : ls.length ≤ 4294967295) : y2k.f ls = some (revL ls) := by
 unfold y2k.f
 have key : y2k.l0 ls FUEL [] 0 = some (revL ls) := by
  refine y4o (L := fun k (s : List y0g) i => y2k.l0 ls k s i) ls.length (fun i s => s = revL (ls.take i)) (fun o => o = some (revL ls)) ?_ ?_ FUEL 0 [] (Nat.zero_le _) (y2x (by omega)) rfl
  ·rintro k s i hi rfl
   rw [y2k.l0, if_pos (by simp; omega), y3u hi]
   simp only [Option.bind_some]
   rw [app_ok (by simp [revL]; omega)]
   refine .inl ⟨_, rfl, ?_⟩
   have e : revL (ls.take (i + 1)) = revL (ls.take i) ++ [y0g.mk ls[i].Supplier ls[i].Consumer] := by
    rw [List.take_succ_eq_append_getElem hi]; unfold revL; rw [List.map_append]; rfl
   rw [y3d (by omega), e]; rfl
  ·rintro k s rfl
   rw [y2k.l0, if_neg (by simp), List.take_length]
 rw [key]; rfl

structure Fl1 (n : Nat) (r : List Bool) (S : Int → Prop) : Prop where
 len : r.length = n
 say : ∀ v : Int, 0 ≤ v → v < n → ∃ b, idx r v = some b ∧ (b = true ↔ S v)

theorem Fl1.true_ {n : Nat} {r : List Bool} {S : Int → Prop} (h : Fl1 n r S) {v : Int} (h0 : 0 ≤ v) (h1 : v < n) (hs : S v) : idx r v = some true := by
 obtain ⟨b, e, hb⟩ := h.say v h0 h1
 rw [e, hb.2 hs]
theorem Fl1.false_ {n : Nat} {r : List Bool} {S : Int → Prop} (h : Fl1 n r S) {v : Int} (h0 : 0 ≤ v) (h1 : v < n) (hs : ¬ S v) : idx r v = some false := by
 obtain ⟨b, e, hb⟩ := h.say v h0 h1
 cases b
 ·exact e
 ·exact absurd (hb.1 rfl) hs
theorem Fl1.set {n : Nat} {r : List Bool} {S : Int → Prop} (h : Fl1 n r S) {x : Int} (x0 : 0 ≤ x) : Fl1 n (upd r x true) (fun v => v = x ∨ S v) := by
 refine ⟨by rw [y1w]; exact h.len, fun v v0 v1 => ?_⟩
 rw [idx_upd (xs := r) x0 v0 (by rw [h.len]; exact v1)]
 by_cases e : x = v
 ·exact ⟨true, by rw [if_pos e], fun _ => .inl e.symm, fun _ => rfl⟩
 ·obtain ⟨b, hb, hs⟩ := h.say v v0 v1
  refine ⟨b, by rw [if_neg e]; exact hb, fun h => .inr (hs.1 h), fun h => ?_⟩
  rcases h with h | h
  ·exact absurd h.symm e
  ·exact hs.2 h
theorem Fl1.congr {n : Nat} {r : List Bool} {S S' : Int → Prop} (h : Fl1 n r S) (e : ∀ v : Int, 0 ≤ v → v < n → (S v ↔ S' v)) : Fl1 n r S' :=
 ⟨h.len, fun v v0 v1 => by obtain ⟨b, hb, hs⟩ := h.say v v0 v1; exact ⟨b, hb, hs.trans (e v v0 v1)⟩⟩
theorem Fl1.empty (n : Nat) : Fl1 n (List.replicate n false) (fun _ => False) := ⟨by simp, fun v v0 v1 => ⟨false, idx_replicate v0 v1, by simp⟩⟩

theorem count_upd {r : List Bool} {x : Int} (h : idx r x = some false) : (upd r x true).count true = r.count true + 1 := by
 have h0 := y26 h
 have h1 := y27 h
 have hl : x.toNat < r.length := by omega
 rw [idx_nat h0, List.getElem?_eq_getElem hl] at h
 injection h with h
 unfold upd
 rw [List.count_set hl, h]
 simp
theorem upd_same {r : List Bool} {x : Int} (h : idx r x = some true) : upd r x true = r := by
 have h0 := y26 h
 have h1 := y27 h
 have hl : x.toNat < r.length := by omega
 rw [idx_nat h0, List.getElem?_eq_getElem hl] at h
 injection h with h
 unfold upd
 apply List.ext_getElem
 ·simp
 ·intro i a b
  rw [List.getElem_set]
  split
  ·rename_i e; subst e; exact h.symm
  ·rfl

noncomputable def upto (n : Nat) (S : Int → Prop) : List Int := (below n).filter (fun v => @decide (S v) (Classical.propDecidable _))
theorem mem_upto {n : Nat} {S : Int → Prop} {v : Int} : v ∈ upto n S ↔ (0 ≤ v ∧ v < n) ∧ S v := by
 unfold upto; rw [List.mem_filter, mem_below, @decide_eq_true_eq _ (Classical.propDecidable _)]
theorem upto_len (n : Nat) (S : Int → Prop) : (upto n S).length ≤ n := by
 unfold upto; have := List.length_filter_le (fun v => @decide (S v) (Classical.propDecidable _)) (below n); rwa [below_length] at this
theorem upto_succ (n : Nat) (S : Int → Prop) : (S n → upto (n + 1) S = upto n S ++ [(n : Int)]) ∧ (¬ S n → upto (n + 1) S = upto n S) := by
 unfold upto
 rw [below_succ, List.filter_append]
 constructor
 ·intro h; rw [List.filter_cons_of_pos (by rw [@decide_eq_true_eq _ (Classical.propDecidable _)]; exact h)]; rfl
 ·intro h; rw [List.filter_cons_of_neg (by rw [@decide_eq_true_eq _ (Classical.propDecidable _)]; exact h)]; simp
theorem upto_congr {n : Nat} {S S' : Int → Prop} (h : ∀ v : Int, 0 ≤ v → v < n → (S v ↔ S' v)) : upto n S = upto n S' := by
 unfold upto
 apply List.filter_congr
 intro v hv
 obtain ⟨h0, h1⟩ := mem_below.1 hv
 rw [@decide_eq_decide _ _ (Classical.propDecidable _) (Classical.propDecidable _)]
 exact h v h0 h1

theorem clos_l3 {n : Nat} (hn : n ≤ 128) {r : List Bool} {S : Int → Prop} (h : Fl1 n r S) : y19.l3 r FUEL [] 0 = some (upto n S) := by
 refine y4o (L := fun k (s : List Int) i => y19.l3 r k s i) n (fun i s => s = upto i S) (fun o => o = some (upto n S)) ?_ ?_ FUEL 0 [] (Nat.zero_le _) (y2x (by omega)) (by simp [upto, below])
 ·rintro k s i hi rfl
  have hlen := upto_len i S
  have hr := h.len
  rw [y19.l3, if_pos (by simp only [decide_eq_true_eq]; omega)]
  refine .inl ⟨upto (i + 1) S, rfl, ?_⟩
  rw [y3d (by omega)]
  by_cases hs : S (i : Int)
  ·rw [h.true_ (by omega) (by omega) hs, (upto_succ i S).1 hs]
   simp only [Option.bind_some, if_true]
   rw [app_ok (by simp; omega)]; rfl
  ·rw [h.false_ (by omega) (by omega) hs, (upto_succ i S).2 hs]
   simp
 ·rintro k s rfl
  rw [y19.l3, if_neg (by rw [h.len]; simp)]

def badV (n : Int) (v : Int) : Bool := (decide (v < 0)) || (decide (n ≤ v))
theorem badV_iff {n : Nat} {v : Int} : badV (n : Int) v = false ↔ 0 ≤ v ∧ v < n := by unfold badV; simp
theorem any_take_false {α : Type} {xs : List α} {P : α → Bool} {i : Nat} (hi : i < xs.length) : ((xs.take (i + 1)).any P = false) ↔ (xs.take i).any P = false ∧ P xs[i] = false := by
 rw [List.take_succ_eq_append_getElem hi, List.any_append, Bool.or_eq_false_iff]; simp


theorem clos_l0 {n : Nat} (hn : n ≤ 128) (of : List Int) (hof : of.length ≤ maxLen) :
  (of.any (badV n) = true ∧ y19.l0 (n : Int) of FUEL (List.replicate n false) [] 0 = some (.out ([], 1))) ∨
  (of.any (badV n) = false ∧ ∃ r o, y19.l0 (n : Int) of FUEL (List.replicate n false) [] 0 = some (.nxt (r, o)) ∧ Fl1 n r (fun v => v ∈ of) ∧ o.Nodup ∧ ∀ v, v ∈ o ↔ v ∈ of) := by
 rw [maxLen_eq] at hof
 refine y4o (L := fun k (s : List Bool × List Int) i => y19.l0 (n : Int) of k s.1 s.2 i) of.length (fun i s => (of.take i).any (badV n) = false ∧ Fl1 n s.1 (fun v => v ∈ of.take i) ∧ s.2.Nodup ∧ ∀ v, v ∈ s.2 ↔ v ∈ of.take i)
  (fun x => (of.any (badV n) = true ∧ x = some (.out ([], 1))) ∨ (of.any (badV n) = false ∧ ∃ r o, x = some (.nxt (r, o)) ∧ Fl1 n r (fun v => v ∈ of) ∧ o.Nodup ∧ ∀ v, v ∈ o ↔ v ∈ of)) ?_ ?_ FUEL 0 (_, _) (Nat.zero_le _) (y2x (by omega)) ⟨by simp, (Fl1.empty n).congr (by simp), by simp, by simp⟩
 ·rintro k ⟨r, o⟩ i hi ⟨h1, h2, h3, h4⟩
  simp only at h2 h3 h4 ⊢
  rw [y19.l0, if_pos (by simp; omega), y3u hi]
  simp only [Option.bind_some]
  by_cases hb : badV n of[i] = true
  ·rw [if_pos (show ((decide (of[i] < 0)) || (decide ((n : Int) ≤ of[i]))) = true from hb)]
   exact .inr (.inl ⟨List.any_eq_true.2 ⟨_, List.getElem_mem hi, hb⟩, rfl⟩)
  ·rw [if_neg (show ¬ ((decide (of[i] < 0)) || (decide ((n : Int) ≤ of[i]))) = true from hb)]
   rw [Bool.not_eq_true] at hb
   obtain ⟨v0, v1⟩ := badV_iff.1 hb
   have h1' := (any_take_false hi).2 ⟨h1, hb⟩
   by_cases hm : of[i] ∈ of.take i
   ·rw [h2.true_ v0 v1 hm]
    refine .inl ⟨(r, o), ⟨h1', h2.congr (fun v _ _ => ?_), h3, fun v => ?_⟩, by rw [y3d (by omega)]; rfl⟩
    all_goals
     rw [y2r hi]
    ·exact ⟨.inl, fun h => h.elim id (fun e => e ▸ hm)⟩
    ·rw [h4]; exact ⟨.inl, fun h => h.elim id (fun e => e ▸ hm)⟩
   ·rw [h2.false_ v0 v1 hm]
    have hol : o.length ≤ n := by
     have := nodup_le h3 (s := below n) (fun x hx => by
      rw [List.any_eq_false] at h1
      have := h1 x ((h4 x).1 hx)
      rw [Bool.not_eq_true] at this
      exact mem_below.2 (badV_iff.1 this))
     rwa [below_length] at this
    simp only [Option.bind_some, Bool.not_false, if_true]
    rw [app_ok (by simp; omega)]
    refine .inl ⟨(upd r of[i] true, o ++ [of[i]]), ⟨h1', (h2.set v0).congr (fun v _ _ => ?_), ?_, fun v => ?_⟩, by rw [y3d (by omega)]; rfl⟩
    ·rw [y2r hi]; exact or_comm
    ·rw [List.nodup_append]
     refine ⟨h3, by simp, fun a ha b hb => ?_⟩
     simp only [List.mem_singleton] at hb
     subst hb
     exact fun e => hm ((h4 _).1 (e ▸ ha))
    ·rw [y2r hi, List.mem_append, List.mem_singleton, h4]
 ·rintro k ⟨r, o⟩ ⟨h1, h2, h3, h4⟩
  simp only at h2 h3 h4 ⊢
  rw [y19.l0, if_neg (by simp)]
  rw [List.take_length] at h1 h2 h4
  exact .inr ⟨h1, r, o, rfl, h2, h3, h4⟩

structure Way (n : Nat) (ls : List y0g) (of : List Int) (r : List Bool) (o : List Int) (S : Int → Prop) : Prop where
 fl : Fl1 n r S
 start : ∀ v ∈ of, S v
 sound : ∀ v, S v → (0 ≤ v ∧ v < n) ∧ Rch false ls of v
 nodup : o.Nodup
 open_ : ∀ v ∈ o, S v
 closed : ∀ v, S v → v ∉ o → ∀ c, y0g.mk c v ∈ ls → S c

theorem clos_l2 {n : Nat} {ls : List y0g} (g : y50 n ls) {of : List Int} {r : List Bool} {o : List Int} {S : Int → Prop} {x : Int} (hw : Way n ls of r (o ++ [x]) S) :
  ∃ r' o' S', y19.l2 (y4f ls x) FUEL r o 0 = some (r', o') ∧ Way n ls of r' o' S' ∧ 2 * (n - r'.count true) + o'.length < 2 * (n - r.count true) + (o ++ [x]).length := by
 have hn := g.n128
 have hl := g.len
 have hcl := consOf_le ls x
 have hx := hw.open_ x (by simp)
 have hxo : x ∉ o := by
  have := hw.nodup
  rw [List.nodup_append] at this
  exact fun h => this.2.2 x h x (by simp) rfl
 have hmem : ∀ c ∈ y4f ls x, 0 ≤ c ∧ c < n := fun c hc => g.c0 _ (mem_consOf.1 hc)
 have hrx := (hw.sound x hx).2
 refine y4o (L := fun k (s : List Bool × List Int) i => y19.l2 (y4f ls x) k s.1 s.2 i) (y4f ls x).length
  (fun i s => ∃ S', Fl1 n s.1 S' ∧ (∀ v, S v → S' v) ∧ (∀ v, S' v → (0 ≤ v ∧ v < n) ∧ Rch false ls of v) ∧ s.2.Nodup ∧ (∀ v ∈ s.2, S' v) ∧ x ∉ s.2 ∧ (∀ v, S' v → v ∉ s.2 → v ≠ x → ∀ c, y0g.mk c v ∈ ls → S' c) ∧ (∀ c ∈ (y4f ls x).take i, S' c) ∧ 2 * (n - s.1.count true) + s.2.length ≤ 2 * (n - r.count true) + o.length)
  (fun q => ∃ r' o' S', q = some (r', o') ∧ Way n ls of r' o' S' ∧ 2 * (n - r'.count true) + o'.length < 2 * (n - r.count true) + (o ++ [x]).length) ?_ ?_ FUEL 0 (r, o) (Nat.zero_le _) (y2x (by omega))
  ⟨S, hw.fl, fun _ h => h, hw.sound, by have := hw.nodup; rw [List.nodup_append] at this; exact this.1, fun v hv => hw.open_ v (by simp [hv]), hxo, fun v h1 h2 h3 => hw.closed v h1 (by simp [h2, h3]), by simp, Nat.le_refl _⟩
 ·rintro k ⟨r1, o1⟩ i hi ⟨S1, i1, i2, i3, i4, i5, i6, i7, i8, i9⟩
  simp only at i1 i4 i5 i6 i7 i9 ⊢
  have hc := hmem _ (List.getElem_mem hi)
  have hlink := mem_consOf.1 (List.getElem_mem hi)
  generalize hcc : (y4f ls x)[i] = c at *
  rw [y19.l2, if_pos (by simp; omega), y3u hi, hcc]
  simp only [Option.bind_some]
  by_cases hs : S1 c
  ·rw [i1.true_ hc.1 hc.2 hs]
   refine .inl ⟨(r1, o1), ⟨S1, i1, i2, i3, i4, i5, i6, i7, fun d hd => ?_, i9⟩, by rw [y3d (by omega)]; rfl⟩
   rcases (y2r hi).1 hd with h | h
   ·exact i8 d h
   ·rw [hcc] at h; subst h; exact hs
  ·rw [i1.false_ hc.1 hc.2 hs]
   simp only [Option.bind_some, Bool.not_false, if_true]
   have hol : o1.length ≤ n := by
    have := nodup_le i4 (s := below n) (fun y hy => mem_below.2 (i3 y (i5 y hy)).1)
    rwa [below_length] at this
   have hco : c ∉ o1 := fun h => hs (i5 c h)
   have hcx : c ≠ x := fun e => hs (i2 c (e ▸ hx))
   rw [app_ok (by simp; omega)]
   have hcount := count_upd (i1.false_ hc.1 hc.2 hs)
   have hcle : (upd r1 c true).count true ≤ n := by
    have := List.count_le_length (a := true) (l := upd r1 c true)
    rwa [y1w, i1.len] at this
   refine .inl ⟨(upd r1 c true, o1 ++ [c]), ⟨fun v => v = c ∨ S1 v, i1.set hc.1, fun v h => .inr (i2 v h), ?_, ?_, ?_, ?_, ?_, ?_, ?_⟩, by rw [y3d (by omega)]; rfl⟩
   ·rintro v (rfl | h)
    ·refine ⟨hc, ?_⟩
     obtain ⟨a, ha, e⟩ := hrx
     refine ⟨a, ha, .inr ?_⟩
     simp only [Bool.false_eq_true, if_false] at e ⊢
     rcases e with e | e
     ·subst e; exact .one hlink
     ·exact .more hlink e
    ·exact i3 v h
   ·rw [List.nodup_append]
    refine ⟨i4, by simp, fun a ha b hb => ?_⟩
    simp only [List.mem_singleton] at hb
    subst hb
    exact fun e => hco (e ▸ ha)
   ·intro v hv
    rcases List.mem_append.1 hv with h | h
    ·exact .inr (i5 v h)
    ·exact .inl (List.mem_singleton.1 h)
   ·simp only [List.mem_append, List.mem_singleton, not_or]; exact ⟨i6, fun e => hcx e.symm⟩
   ·rintro v (rfl | h) h2 h3 d hd
    ·exact absurd (by simp) h2
    ·simp only [List.mem_append, List.mem_singleton, not_or] at h2
     exact .inr (i7 v h h2.1 h3 d hd)
   ·intro d hd
    rcases (y2r hi).1 hd with h | h
    ·exact .inr (i8 d h)
    ·rw [hcc] at h; exact .inl h
   ·rw [hcount] at hcle ⊢
    rw [List.length_append, List.length_singleton]; omega
 ·rintro k ⟨r1, o1⟩ ⟨S1, i1, i2, i3, i4, i5, i6, i7, i8, i9⟩
  simp only at i1 i4 i5 i6 i7 i9 ⊢
  rw [y19.l2, if_neg (by simp)]
  rw [List.take_length] at i8
  refine ⟨r1, o1, S1, rfl, ⟨i1, fun v hv => i2 v (hw.start v hv), i3, i4, i5, fun v h1 h2 c hc => ?_⟩, by rw [List.length_append, List.length_singleton]; omega⟩
  by_cases e : v = x
  ·subst e; exact i8 c (mem_consOf.2 hc)
  ·exact i7 v h1 h2 e c hc

theorem rch_closed {ls : List y0g} {of : List Int} {S : Int → Prop} (h0 : ∀ v ∈ of, S v) (h1 : ∀ v, S v → ∀ c, y0g.mk c v ∈ ls → S c) : ∀ v, Rch false ls of v → S v := by
 rintro v ⟨a, ha, e⟩
 simp only [Bool.false_eq_true, if_false] at e
 rcases e with rfl | e
 ·exact h0 _ ha
 ·induction e with
  | one h => exact h1 _ (h0 _ ha) _ h
  | more h _ ih => exact h1 _ (ih ha) _ h

theorem clos_l1 {n : Nat} {ls : List y0g} (g : y50 n ls) {adj : List (List Int)} (ha : ∀ v, 0 ≤ v → v < (n : Int) → idx adj v = some (y4f ls v)) {of : List Int} {r0 : List Bool} {o0 : List Int} {S0 : Int → Prop} (h0 : Way n ls of r0 o0 S0) :
  ∃ r, y19.l1 adj FUEL r0 o0 = some r ∧ Fl1 n r (Rch false ls of) := by
 have hn := g.n128
 have hol : ∀ {r o S}, Way n ls of r o S → o.length ≤ n := fun {r o S} hw => by
  have := nodup_le hw.nodup (s := below n) (fun y hy => mem_below.2 (hw.sound y (hw.open_ y hy)).1)
  rwa [below_length] at this
 have h00 := hol h0
 refine loop_m (L := fun k (s : List Bool × List Int) => y19.l1 adj k s.1 s.2) (fun s => ∃ S, Way n ls of s.1 s.2 S) (fun s => 2 * (n - s.1.count true) + s.2.length) (fun q => ∃ r, q = some r ∧ Fl1 n r (Rch false ls of)) ?_ FUEL (r0, o0) ⟨S0, h0⟩ (y2x (by show 2 * (n - r0.count true) + o0.length ≤ _; omega))
 rintro k ⟨r, o⟩ ⟨S, hw⟩
 simp only at hw ⊢
 have hlen := hol hw
 rw [y19.l1]
 by_cases hz : 0 < o.length
 ·rw [if_pos (by simp only [decide_eq_true_eq]; omega)]
  have e : wi ((o.length : Int) - 1) = ((o.length - 1 : Nat) : Int) := by rw [wi_id (by omega) (by omega)]; omega
  have hdec : o = o.take (o.length - 1) ++ [o[o.length - 1]] := by
   have := List.take_append_drop (o.length - 1) o
   rw [List.drop_eq_getElem_cons (by omega), List.drop_of_length_le (by omega)] at this
   exact this.symm
  rw [e, y3u (by omega), slc_front (by omega)]
  simp only [Option.bind_some]
  have hx := (hw.sound _ (hw.open_ o[o.length - 1] (List.getElem_mem _))).1
  rw [ha _ hx.1 hx.2]
  simp only [Option.bind_some]
  have hw' := hw
  rw [hdec] at hw'
  obtain ⟨r', o', S', q1, q2, q3⟩ := clos_l2 g hw'
  rw [q1]
  rw [← hdec] at q3
  exact .inl ⟨(r', o'), ⟨S', q2⟩, q3, rfl⟩
 ·rw [if_neg (by simp only [decide_eq_true_eq]; omega)]
  have ho : o = [] := List.eq_nil_of_length_eq_zero (by omega)
  subst ho
  exact .inr ⟨r, rfl, hw.fl.congr (fun v _ _ => ⟨fun h => (hw.sound v h).2, rch_closed hw.start (fun v h c hc => hw.closed v h (by simp) c hc) v⟩)⟩

theorem closure_good {n : Nat} {ls : List y0g} (g : y50 n ls) {adj : List (List Int)} (ha : ∀ v, 0 ≤ v → v < (n : Int) → idx adj v = some (y4f ls v)) (of : List Int) (hof : of.length ≤ maxLen) :
  y19.f (n : Int) adj of = some (if of.any (badV n) = true then ([], 1) else (upto n (Rch false ls of), 0)) := by
 have hn := g.n128
 unfold y19.f
 rw [mk_ok (by omega)]
 simp only [Option.bind_some]
 rcases clos_l0 hn of hof with ⟨h1, h2⟩ | ⟨h1, r, o, h2, h3, h4, h5⟩
 ·rw [h2, if_pos h1]; rfl
 ·rw [h2, h1]
  simp only [Option.bind_some, Fl.go]
  have hin : ∀ v ∈ of, 0 ≤ v ∧ v < (n : Int) := fun v hv => by
   rw [List.any_eq_false] at h1
   have := h1 v hv
   rw [Bool.not_eq_true] at this
   exact badV_iff.1 this
  obtain ⟨r', q1, q2⟩ := clos_l1 g ha (of := of) (r0 := r) (o0 := o) (S0 := fun v => v ∈ of) ⟨h3, fun v h => h, fun v h => ⟨hin v h, ⟨v, h, .inl rfl⟩⟩, h4, fun v h => (h5 v).1 h, fun v h1 h2 => absurd ((h5 v).2 h1) h2⟩
  rw [q1]
  simp only [Option.bind_some]
  rw [clos_l3 hn q2]
  rfl

noncomputable def clres (down : Bool) (p : Int) (ls : List y0g) (of : List Int) : List Int × Int := if vcode p ls = 0 then (if of.any (badV p) = true then ([], 1) else (upto p.toNat (Rch down ls of), 0)) else ([], vcode p ls)
theorem clres_good {down : Bool} {n : Nat} {ls : List y0g} (g : y50 n ls) (of : List Int) : clres down (n : Int) ls of = if of.any (badV n) = true then ([], 1) else (upto n (Rch down ls of), 0) := by
 unfold clres; rw [if_pos (good_vcode g)]; rfl
theorem clres_bad {down : Bool} {p : Int} {ls : List y0g} (h : ¬ vcode p ls = 0) (of : List Int) : clres down p ls of = ([], vcode p ls) := by
 unfold clres; rw [if_neg h]
theorem suppliers_ok (p : Int) (ls : List y0g) (of : List Int) (h : ls.length ≤ maxLen) (hof : of.length ≤ maxLen) : y3y.f p ls of = some (clres true p ls of) := by
 unfold y3y.f
 rw [validate_ok p ls h, Option.bind_some]
 by_cases hv : vcode p ls = 0
 ·obtain ⟨n, rfl, g⟩ := vcode_good hv
  have hl := g.len
  rw [if_neg (by simp [hv]), clres_good g, reversed_ok ls (by omega), Option.bind_some]
  obtain ⟨adj, cnt, ha, _, _, hac⟩ := adjacent_ok (good_revL g)
  rw [ha, Option.bind_some]
  rw [closure_good (good_revL g) (fun v v0 v1 => (hac v v0 v1).1) of hof, upto_congr (fun v _ _ => rch_rev)]
  rfl
 ·rw [if_pos (by simpa using hv), clres_bad hv]

end Go.Proofs.Ytcfcffbjdjacfaa.Sim

namespace Go.Proofs.Ytcfcffbjdjacfaa.Sim
open Go
set_option linter.unusedVariables false
set_option maxRecDepth 100000

def maxT : Int := 1152921504606846976
noncomputable def req (n : Nat) (ls : List y0g) (d : Int) : List Int := upto n (Rch true ls [d])
noncomputable def wake (n : Nat) (ls : List y0g) (m : Pm) (d t : Int) : List y0e := ((ord n ls).filter (fun k => decide (k ∈ req n ls d) && !m.act k)).map (fun k => y0e.mk k true t)
noncomputable def getM (n : Nat) (ls : List y0g) (m : Pm) (d t : Int) : Pm := ⟨fun k => m.act k || (decide (k ∈ req n ls d) && decide (k ∈ ord n ls)), fset m.cnt d (m.cnt d + 1), m.idl, t⟩
def putC (m : Pm) (d t : Int) : Pm := ⟨m.act, fset m.cnt d (m.cnt d - 1), m.idl, t⟩
def putM (ls : List y0g) (m : Pm) (d t : Int) : Pm := if idle ls (putC m d t) d = true then { putC m d t with idl := fset m.idl d t } else putC m d t

inductive Res (n : Nat) (ls : List y0g) (de : Int → Int) (kind d t : Int) (m : Pm) : Pm → List y0e → Int → Prop where
 | badG (h2 : kind ≠ 2) (h3 : kind ≠ 3) (h : ¬ ((0 ≤ d ∧ d < n) ∧ m.now ≤ t ∧ t ≤ maxT)) : Res n ls de kind d t m m [] 1
 | get {m1 : Pm} {o1 : List y0e} (h2 : kind ≠ 2) (h3 : kind ≠ 3) (hd : 0 ≤ d ∧ d < n) (ht : m.now ≤ t ∧ t ≤ maxT) (h : Exp n ls de t m o1 m1) : Res n ls de kind d t m (getM n ls m1 d t) (o1 ++ wake n ls m1 d t) 0
 | badP (h2 : kind = 2) (h : ¬ ((0 ≤ d ∧ d < n) ∧ m.now ≤ t ∧ t ≤ maxT)) : Res n ls de kind d t m m [] 1
 | stateP (h2 : kind = 2) (hd : 0 ≤ d ∧ d < n) (ht : m.now ≤ t ∧ t ≤ maxT) (h : m.cnt d = 0) : Res n ls de kind d t m m [] 9
 | put {m1 m2 : Pm} {o1 o2 : List y0e} (h2 : kind = 2) (hd : 0 ≤ d ∧ d < n) (ht : m.now ≤ t ∧ t ≤ maxT) (h : m.cnt d ≠ 0) (he : Exp n ls de t m o1 m1) (he2 : Exp n ls de t (putM ls m1 d t) o2 m2) : Res n ls de kind d t m m2 (o1 ++ o2) 0
 | badA (h3 : kind = 3) (h : ¬ (m.now ≤ t ∧ t ≤ maxT)) : Res n ls de kind d t m m [] 1
 | adv {m1 : Pm} {o1 : List y0e} (h3 : kind = 3) (ht : m.now ≤ t ∧ t ≤ maxT) (h : Exp n ls de t m o1 m1) : Res n ls de kind d t m (y4k m1 t) o1 0

theorem Res.det {n : Nat} {ls : List y0g} {de : Int → Int} {kind d t : Int} {m m1 m2 : Pm} {o1 o2 : List y0e} {e1 e2 : Int} (h1 : Res n ls de kind d t m m1 o1 e1) (h2 : Res n ls de kind d t m m2 o2 e2) : m1 = m2 ∧ o1 = o2 ∧ e1 = e2 := by
 cases h1 with
 | badG a b c =>
  cases h2 with
  | badG => exact ⟨rfl, rfl, rfl⟩
  | get _ _ hd ht _ => exact absurd ⟨hd, ht⟩ c
  | badP h _ => exact absurd h a
  | stateP h _ _ _ => exact absurd h a
  | put h _ _ _ _ _ => exact absurd h a
  | badA h _ => exact absurd h b
  | adv h _ _ => exact absurd h b
 | get a b hd ht he =>
  cases h2 with
  | badG _ _ c => exact absurd ⟨hd, ht⟩ c
  | get _ _ _ _ he' => obtain ⟨x, y⟩ := he.det he'; subst x; subst y; exact ⟨rfl, rfl, rfl⟩
  | badP h _ => exact absurd h a
  | stateP h _ _ _ => exact absurd h a
  | put h _ _ _ _ _ => exact absurd h a
  | badA h _ => exact absurd h b
  | adv h _ _ => exact absurd h b
 | badP a c =>
  cases h2 with
  | badG h _ _ => exact absurd a h
  | get h _ _ _ _ => exact absurd a h
  | badP _ _ => exact ⟨rfl, rfl, rfl⟩
  | stateP _ hd ht _ => exact absurd ⟨hd, ht⟩ c
  | put _ hd ht _ _ _ => exact absurd ⟨hd, ht⟩ c
  | badA h _ => omega
  | adv h _ _ => omega
 | stateP a hd ht hc =>
  cases h2 with
  | badG h _ _ => exact absurd a h
  | get h _ _ _ _ => exact absurd a h
  | badP _ c => exact absurd ⟨hd, ht⟩ c
  | stateP _ _ _ _ => exact ⟨rfl, rfl, rfl⟩
  | put _ _ _ h _ _ => exact absurd hc h
  | badA h _ => omega
  | adv h _ _ => omega
 | put a hd ht hc he he2 =>
  cases h2 with
  | badG h _ _ => exact absurd a h
  | get h _ _ _ _ => exact absurd a h
  | badP _ c => exact absurd ⟨hd, ht⟩ c
  | stateP _ _ _ h => exact absurd h hc
  | put _ _ _ _ he' he2' =>
   obtain ⟨x, y⟩ := he.det he'; subst x; subst y
   obtain ⟨x, y⟩ := he2.det he2'; subst x; subst y
   exact ⟨rfl, rfl, rfl⟩
  | badA h _ => omega
  | adv h _ _ => omega
 | badA a c =>
  cases h2 with
  | badG _ h _ => exact absurd a h
  | get _ h _ _ _ => exact absurd a h
  | badP h _ => omega
  | stateP h _ _ _ => omega
  | put h _ _ _ _ _ => omega
  | badA _ _ => exact ⟨rfl, rfl, rfl⟩
  | adv _ h _ => exact absurd h c
 | adv a ht he =>
  cases h2 with
  | badG _ h _ => exact absurd a h
  | get _ h _ _ _ => exact absurd a h
  | badP h _ => omega
  | stateP h _ _ _ => omega
  | put h _ _ _ _ _ => omega
  | badA _ h => exact absurd ht h
  | adv _ _ he' => obtain ⟨x, y⟩ := he.det he'; subst x; subst y; exact ⟨rfl, rfl, rfl⟩

theorem containsI_ok (xs : List Int) (v : Int) (hl : xs.length ≤ 1000000) : y3a.f xs v = some (decide (v ∈ xs)) := by
 unfold y3a.f y28.f
 have key : (v ∈ xs ∧ ∃ i : Nat, y28.l0 xs v FUEL 0 = some (.out (i : Int))) ∨ (v ∉ xs ∧ y28.l0 xs v FUEL 0 = some (.nxt ())) := by
  refine y4o (L := fun k (_ : Unit) i => y28.l0 xs v k i) xs.length (fun i _ => v ∉ xs.take i) (fun o => (v ∈ xs ∧ ∃ i : Nat, o = some (.out (i : Int))) ∨ (v ∉ xs ∧ o = some (.nxt ()))) ?_ ?_ FUEL 0 () (Nat.zero_le _) (y2x (by omega)) (by simp)
  ·intro k _ i hi hI
   rw [y28.l0, if_pos (by simp; omega), y3u hi, Option.bind_some]
   by_cases c : v = xs[i]
   ·rw [if_pos (by simpa using c)]
    exact .inr (.inl ⟨c ▸ List.getElem_mem hi, i, rfl⟩)
   ·rw [if_neg (by simpa using c), y3d (by omega)]
    refine .inl ⟨(), fun h => ?_, rfl⟩
    rcases (y2r hi).1 h with h | h
    ·exact hI h
    ·exact c h
  ·intro k _ hI
   rw [y28.l0, if_neg (by simp)]
   rw [List.take_length] at hI
   exact .inr ⟨hI, rfl⟩
 rcases key with ⟨h, i, e⟩ | ⟨h, e⟩
 ·rw [e]; simp [h, Fl.go]
 ·rw [e]; simp [h, Fl.go]

section
variable {n : Nat} {ls : List y0g} {de : Int → Int}

theorem has_ok {p : y01} {m : Pm} (R : RM n ls de p m) (d : Int) : y2j.f p d = some (decide (0 ≤ d ∧ d < n)) := by
 unfold y2j.f
 rw [R.dv.1]
 congr 1
 rw [Bool.eq_iff_iff]; simp
theorem valid_ok {p : y01} {m : Pm} (R : RM n ls de p m) (t : Int) : y2d.f p t = some (decide (m.now ≤ t ∧ t ≤ maxT)) := by
 unfold y2d.f
 rw [R.nw]
 congr 1
 rw [Bool.eq_iff_iff, decide_eq_true_eq, Bool.and_eq_true, decide_eq_true_eq, decide_eq_true_eq]; exact Iff.rfl
theorem RM.y4k {p : y01} {m : Pm} (R : RM n ls de p m) (t : Int) : RM n ls de (y01.mk p.devices p.links p.order t) (Sim.y4k m t) := ⟨R.dv, R.lk, R.od, rfl⟩
theorem Tb.y4k {m : Pm} (B : Tb de m) (t : Int) : Tb de (Sim.y4k m t) := ⟨B.d, B.i⟩

theorem advance_ok (g : y50 n ls) {p : y01} {m : Pm} (R : RM n ls de p m) (B : Tb de m) (t d : Int) : ∃ p' m' ops e, y2n.f p t = some (p', ops, e) ∧ Res n ls de 3 d t m m' ops e ∧ RM n ls de p' m' ∧ Tb de m' := by
 unfold y2n.f
 rw [valid_ok R, Option.bind_some]
 by_cases h : m.now ≤ t ∧ t ≤ maxT
 ·rw [if_neg (by simp [h])]
  obtain ⟨ops, m1, he, hl⟩ := Exp.exists_ (n := n) (ls := ls) (de := de) (t := t) m
  have hn := g.n128
  obtain ⟨p', e1, R1, B1⟩ := expire_ok g h.2 (he.y4k t) (by omega) (R.y4k t) (B.y4k t)
  rw [e1]
  exact ⟨p', _, ops, 0, rfl, .adv rfl h he, R1, B1⟩
 ·rw [if_pos (by rw [Bool.not_eq_true', decide_eq_false_iff_not]; exact h)]
  exact ⟨p, m, [], 1, rfl, .badA rfl h, R, B⟩

theorem Tb.put {m : Pm} (B : Tb de m) {d t : Int} (ht : 0 ≤ t ∧ t ≤ maxT) : Tb de (putM ls m d t) := by
 have h2 := ht.2
 unfold maxT at h2
 unfold putM
 split
 ·refine ⟨B.d, fun s => ?_⟩
  simp only [fset]
  split
  ·exact ⟨ht.1, h2⟩
  ·exact B.i s
 ·exact ⟨B.d, B.i⟩

theorem put_ok (g : y50 n ls) {p : y01} {m : Pm} (R : RM n ls de p m) (B : Tb de m) {d t : Int} (hc : ∀ k, 0 ≤ m.cnt k ∧ m.cnt k ≤ 1000000) (h0 : 0 ≤ m.now) : ∃ p' m' ops e, y31.f p d t = some (p', ops, e) ∧ Res n ls de 2 d t m m' ops e ∧ RM n ls de p' m' ∧ Tb de m' := by
 have hn := g.n128
 unfold y31.f
 rw [has_ok R, Option.bind_some]
 have hor : (if (!decide (0 ≤ d ∧ d < (n : Int))) = true then some true else (y2d.f p t).bind fun r14 => some (!r14)) = some (!decide ((0 ≤ d ∧ d < (n : Int)) ∧ m.now ≤ t ∧ t ≤ maxT)) := by
  rw [valid_ok R, Option.bind_some]
  by_cases h1 : 0 ≤ d ∧ d < (n : Int)
  ·rw [if_neg (by simp [h1])]; congr 2; simp [h1]
  ·rw [if_pos (by rw [Bool.not_eq_true', decide_eq_false_iff_not]; exact h1)]; congr 1; simp [h1]
 rw [hor, Option.bind_some]
 by_cases h : (0 ≤ d ∧ d < (n : Int)) ∧ m.now ≤ t ∧ t ≤ maxT
 ·rw [if_neg (by simp [h])]
  obtain ⟨⟨d0, d1⟩, ht⟩ := h
  rw [R.dv.2 d d0 d1, Option.bind_some]
  by_cases hz : m.cnt d = 0
  ·rw [if_pos (by simpa using hz)]
   exact ⟨p, m, [], 9, rfl, .stateP rfl ⟨d0, d1⟩ ht hz, R, B⟩
  ·rw [if_neg (by simpa using hz)]
   obtain ⟨o1, m1, he, hl⟩ := Exp.exists_ (n := n) (ls := ls) (de := de) (t := t) m
   obtain ⟨p1, e1, R1, B1⟩ := expire_ok g ht.2 (he.y4k t) (by omega) (R.y4k t) (B.y4k t)
   have hcnt : m1.cnt = m.cnt := he.same.2
   rw [e1, Option.bind_some, R1.dv.2 d d0 d1, Option.bind_some]
   have hcd := hc d
   have hw : wi (m1.cnt d - 1) = m1.cnt d - 1 := wi_id (by rw [hcnt]; omega) (by rw [hcnt]; omega)
   have R2 : RM n ls de (y01.mk (upd p1.devices d ({ dev ls de (Sim.y4k m1 t) d with count := wi ((dev ls de (Sim.y4k m1 t) d).count - 1) } : y0k)) p1.links p1.order p1.now) (putC m1 d t) := by
    refine ⟨(R1.dv.set d0 _).congr fun i i0 i1 => ?_, R1.lk, R1.od, R1.nw⟩
    unfold fset
    by_cases e : i = d
    ·rw [if_pos e, e]
     simp [dev, putC, fset, y4k, hw]
    ·rw [if_neg e]
     simp [dev, putC, fset, y4k, e]
   simp only
   rw [isIdle_ok g R2 d0 d1, Option.bind_some]
   have hfin : ∀ p2, RM n ls de p2 (putM ls m1 d t) → ∃ p' m' ops e, ((y0s.f p2 t).bind fun r145 => (app o1 r145.2).bind fun y153 => some (r145.1, y153, (0 : Int))) = some (p', ops, e) ∧ Res n ls de 2 d t m m' ops e ∧ RM n ls de p' m' ∧ Tb de m' := fun p2 R3 => by
    have B2 : Tb de (putM ls m1 d t) := Tb.put (⟨B1.d, B1.i⟩ : Tb de m1) ⟨by omega, ht.2⟩
    obtain ⟨o2, m2, he2, hl2⟩ := Exp.exists_ (n := n) (ls := ls) (de := de) (t := t) (putM ls m1 d t)
    obtain ⟨p3, e3, R4, B4⟩ := expire_ok g ht.2 he2 (by omega) R3 B2
    rw [e3, Option.bind_some, app_ok (by simp only; omega), Option.bind_some]
    exact ⟨p3, m2, o1 ++ o2, 0, rfl, .put rfl ⟨d0, d1⟩ ht hz he he2, R4, B4⟩
   cases hi : idle ls (putC m1 d t) d
   ·rw [if_neg (by simp), Option.bind_some]
    refine hfin _ ?_
    unfold putM
    rw [if_neg (by simp [hi])]
    exact R2
   ·rw [if_pos rfl, R2.dv.2 d d0 d1, Option.bind_some, Option.bind_some]
    refine hfin _ ?_
    unfold putM
    rw [if_pos hi]
    refine ⟨(R2.dv.set d0 _).congr fun i i0 i1 => ?_, R2.lk, R2.od, R2.nw⟩
    unfold fset
    by_cases e : i = d
    ·rw [if_pos e, e]
     simp [dev, fset]
    ·rw [if_neg e]
     simp [dev, fset, e, putC]
 ·rw [if_pos (by rw [Bool.not_eq_true', decide_eq_false_iff_not]; exact h)]
  exact ⟨p, m, [], 1, rfl, .badP rfl h, R, B⟩

theorem get_ok (g : y50 n ls) {p : y01} {m : Pm} (R : RM n ls de p m) (B : Tb de m) {kind d t : Int} (h2 : kind ≠ 2) (h3 : kind ≠ 3) (hc : ∀ k, 0 ≤ m.cnt k ∧ m.cnt k ≤ 1000000) : ∃ p' m' ops e, y1u.f p d t = some (p', ops, e) ∧ Res n ls de kind d t m m' ops e ∧ RM n ls de p' m' ∧ Tb de m' := by
 have hn := g.n128
 unfold y1u.f
 rw [has_ok R, Option.bind_some]
 have hor : (if (!decide (0 ≤ d ∧ d < (n : Int))) = true then some true else (y2d.f p t).bind fun r14 => some (!r14)) = some (!decide ((0 ≤ d ∧ d < (n : Int)) ∧ m.now ≤ t ∧ t ≤ maxT)) := by
  rw [valid_ok R, Option.bind_some]
  by_cases h1 : 0 ≤ d ∧ d < (n : Int)
  ·rw [if_neg (by simp [h1])]; congr 2; simp [h1]
  ·rw [if_pos (by rw [Bool.not_eq_true', decide_eq_false_iff_not]; exact h1)]; congr 1; simp [h1]
 rw [hor, Option.bind_some]
 by_cases h : (0 ≤ d ∧ d < (n : Int)) ∧ m.now ≤ t ∧ t ≤ maxT
 ·rw [if_neg (by simp [h])]
  obtain ⟨⟨d0, d1⟩, ht⟩ := h
  obtain ⟨o1, m1, he, hl⟩ := Exp.exists_ (n := n) (ls := ls) (de := de) (t := t) m
  obtain ⟨p1, e1, R1, B1⟩ := expire_ok g ht.2 (he.y4k t) (by omega) (R.y4k t) (B.y4k t)
  have hcnt : m1.cnt = m.cnt := he.same.2
  have hcd := hc d
  have hw : wi (m1.cnt d + 1) = m1.cnt d + 1 := wi_id (by rw [hcnt]; omega) (by rw [hcnt]; omega)
  have hll : ls.length ≤ maxLen := by have := g.len; rw [maxLen_eq]; omega
  have hs : clres true (n : Int) ls [d] = (req n ls d, 0) := by
   rw [clres_good g, if_neg]
   ·rfl
   ·simp [badV]; omega
  rw [e1, Option.bind_some, R1.dv.2 d d0 d1, Option.bind_some, R1.lk]
  have R2 : RM n ls de (y01.mk (upd p1.devices d ({ dev ls de (Sim.y4k m1 t) d with count := wi ((dev ls de (Sim.y4k m1 t) d).count + 1) } : y0k)) ls p1.order p1.now) ⟨m1.act, fset m1.cnt d (m1.cnt d + 1), m1.idl, t⟩ := by
   refine ⟨(R1.dv.set d0 _).congr fun i i0 i1 => ?_, rfl, R1.od, R1.nw⟩
   unfold fset
   by_cases e : i = d
   ·rw [if_pos e, e]
    simp [dev, fset, y4k, hw]
   ·rw [if_neg e]
    simp [dev, fset, y4k, e]
  have hlen2 : ((upd p1.devices d ({ dev ls de (Sim.y4k m1 t) d with count := wi ((dev ls de (Sim.y4k m1 t) d).count + 1) } : y0k)).length : Int) = n := by rw [y1w, R1.dv.1]
  simp only
  simp only at hlen2
  rw [hlen2, suppliers_ok _ _ _ hll (by simp [maxLen]), hs, Option.bind_some]
  have hod : p1.order = ord n ls := R1.od
  have hr := (ord_run n ls).1
  have hol := ord_le n ls
  -- the pass along the order
  let mi : Nat → Pm := fun j => ⟨fun k => m1.act k || (decide (k ∈ req n ls d) && decide (k ∈ (ord n ls).take j)), fset m1.cnt d (m1.cnt d + 1), m1.idl, t⟩
  let oi : Nat → List y0e := fun j => o1 ++ (((ord n ls).take j).filter (fun k => decide (k ∈ req n ls d) && !m1.act k)).map (fun k => y0e.mk k true t)
  have hoil : ∀ j, j ≤ (ord n ls).length → (oi j).length ≤ 256 := fun j hj => by
   have h1 := List.length_filter_le (fun k => decide (k ∈ req n ls d) && !m1.act k) ((ord n ls).take j)
   simp only [oi, List.length_append, List.length_map]
   simp only [List.length_take] at h1
   omega
  have key : ∃ p2, y1u.l0 t (p1, o1) (req n ls d, 0) FUEL (y01.mk (upd p1.devices d ({ dev ls de (Sim.y4k m1 t) d with count := wi ((dev ls de (Sim.y4k m1 t) d).count + 1) } : y0k)) ls p1.order p1.now) o1 0 = some (oi (ord n ls).length, p2) ∧ RM n ls de p2 (mi (ord n ls).length) := by
   refine y4o (L := fun q (s : y01 × List y0e) i => y1u.l0 t (p1, o1) (req n ls d, 0) q s.1 s.2 i) (ord n ls).length (fun j s => RM n ls de s.1 (mi j) ∧ s.2 = oi j)
    (fun o => ∃ p2, o = some (oi (ord n ls).length, p2) ∧ RM n ls de p2 (mi (ord n ls).length)) ?_ ?_ FUEL 0 (_, o1) (Nat.zero_le _) (y2x (by omega)) ⟨⟨R2.dv.congr fun i _ _ => by simp [mi], R2.lk, R2.od, R2.nw⟩, by simp [oi]⟩
   ·rintro q ⟨p2, os⟩ j hj ⟨hI, rfl⟩
    simp only at hI ⊢
    have hm := List.getElem_mem hj
    obtain ⟨k0, k1⟩ := hr.facts.2.1 _ hm
    have hlen := hoil j (by omega)
    have hrl : (req n ls d).length ≤ 1000000 := by have := upto_len n (Rch true ls [d]); unfold req; omega
    have hfresh : (ord n ls)[j] ∉ (ord n ls).take j := by
     have := hr.facts.1
     intro hmem
     obtain ⟨i, hi, e⟩ := List.getElem_of_mem hmem
     simp only [List.length_take] at hi
     rw [List.getElem_take] at e
     exact absurd e (by have := List.pairwise_iff_getElem.1 this i j (by omega) hj (by omega); exact this)
    have hact : (mi j).act (ord n ls)[j] = m1.act (ord n ls)[j] := by simp [mi, hfresh]
    have hin : ∀ k, (k ∈ (ord n ls).take (j + 1)) ↔ k ∈ (ord n ls).take j ∨ k = (ord n ls)[j] := fun k => y2r hj
    have hoi : oi (j + 1) = oi j ++ (if (decide ((ord n ls)[j] ∈ req n ls d) && !m1.act (ord n ls)[j]) = true then [y0e.mk (ord n ls)[j] true t] else []) := by
     simp only [oi]
     rw [List.take_succ_eq_append_getElem hj, List.filter_append, List.map_append, ← List.append_assoc]
     congr 1
     rw [List.filter_cons]
     split <;> simp
    rw [y1u.l0, hod, if_pos (by simp; omega), hI.od, y3u hj, Option.bind_some, containsI_ok _ _ hrl, Option.bind_some, y3d (by omega)]
    by_cases hreq : (ord n ls)[j] ∈ req n ls d
    ·rw [if_pos (by simpa using hreq), hI.dv.2 _ k0 k1, Option.bind_some, Option.bind_some]
     simp only [hact]
     cases ha : m1.act (ord n ls)[j]
     ·rw [if_pos (by simp), Option.bind_some, app_ok (by simp; omega), Option.bind_some, Option.bind_some]
      refine .inl ⟨(y01.mk (upd p2.devices (ord n ls)[j] ({ dev ls de (mi j) (ord n ls)[j] with active := true } : y0k)) p2.links p2.order p2.now, oi (j + 1)), ⟨⟨(hI.dv.set k0 _).congr fun i i0 i1 => ?_, hI.lk, hI.od, hI.nw⟩, rfl⟩, ?_⟩
      ·unfold fset
       by_cases e : i = (ord n ls)[j]
       ·rw [if_pos e, e]
        simp [mi, hreq, hin]
       ·rw [if_neg e]
        simp [mi, hin, e]
      ·rw [hoi, if_pos (by simp [hreq, ha])]
       simp only [hact, ha]
       simp [hod, hI.od]
     ·rw [if_neg (by simp), Option.bind_some]
      refine .inl ⟨(p2, oi (j + 1)), ⟨⟨hI.dv.congr fun i i0 i1 => ?_, hI.lk, hI.od, hI.nw⟩, rfl⟩, ?_⟩
      ·by_cases e : i = (ord n ls)[j]
       ·rw [e]; simp [mi, ha]
       ·simp [mi, hin, e]
      ·rw [hoi, if_neg (by simp [ha])]; simp
    ·rw [if_neg (by simpa using hreq), Option.bind_some, if_neg (by simp), Option.bind_some]
     refine .inl ⟨(p2, oi (j + 1)), ⟨⟨hI.dv.congr fun i i0 i1 => ?_, hI.lk, hI.od, hI.nw⟩, rfl⟩, ?_⟩
     ·by_cases e : i = (ord n ls)[j]
      ·rw [e]; simp [mi, hreq]
      ·simp [mi, hin, e]
     ·rw [hoi, if_neg (by simp [hreq])]; simp
   ·rintro q ⟨p2, os⟩ ⟨hI, rfl⟩
    simp only at hI ⊢
    rw [y1u.l0, hod, if_neg (by simp)]
    exact ⟨p2, rfl, hI⟩
  obtain ⟨p2, e2, R3⟩ := key
  rw [e2, Option.bind_some]
  refine ⟨p2, getM n ls m1 d t, o1 ++ wake n ls m1 d t, 0, ?_, .get h2 h3 ⟨d0, d1⟩ ht he, ?_, ⟨B1.d, B1.i⟩⟩
  ·simp only [oi, List.take_length]; rfl
  ·refine ⟨R3.dv.congr fun i _ _ => ?_, R3.lk, R3.od, R3.nw⟩
   simp only [mi, getM, List.take_length]
 ·rw [if_pos (by rw [Bool.not_eq_true', decide_eq_false_iff_not]; exact h)]
  exact ⟨p, m, [], 1, rfl, .badG h2 h3 h, R, B⟩

theorem do_ok (g : y50 n ls) {p : y01} {m : Pm} (R : RM n ls de p m) (B : Tb de m) {c : y3t} {now d t kind : Int} (hat : y3z.f c n now = some (d, t)) (hk : y4r.f c.Kind 4 = some kind) (hc : ∀ k, 0 ≤ m.cnt k ∧ m.cnt k ≤ 1000000) (h0 : 0 ≤ m.now) :
  ∃ p' m' ops e, law28_do.f p c n now = some (p', ops, e) ∧ Res n ls de kind d t m m' ops e ∧ RM n ls de p' m' ∧ Tb de m' := by
 unfold law28_do.f
 rw [hat, Option.bind_some, hk, Option.bind_some]
 by_cases h2 : kind = 2
 ·subst h2
  obtain ⟨p', m', ops, e, e1, r⟩ := put_ok g R B (d := d) (t := t) hc h0
  rw [if_pos (by simp), e1]
  exact ⟨p', m', ops, e, rfl, r⟩
 ·rw [if_neg (by simpa using h2)]
  by_cases h3 : kind = 3
  ·subst h3
   obtain ⟨p', m', ops, e, e1, r⟩ := advance_ok g R B t d
   rw [if_pos (by simp), e1]
   exact ⟨p', m', ops, e, rfl, r⟩
  ·rw [if_neg (by simpa using h3)]
   obtain ⟨p', m', ops, e, e1, r⟩ := get_ok g R B (d := d) (t := t) h2 h3 hc
   rw [e1]
   exact ⟨p', m', ops, e, rfl, r⟩

theorem active_ok {p : y01} {m : Pm} (R : RM n ls de p m) (d : Int) : y38.f p d = some (decide (0 ≤ d ∧ d < n) && m.act d) := by
 unfold y38.f
 rw [has_ok R, Option.bind_some]
 by_cases h : 0 ≤ d ∧ d < (n : Int)
 ·rw [if_pos (by simpa using h), R.dv.2 d h.1 h.2]; simp [h]
 ·rw [if_neg (by simpa using h)]; simp [h]
theorem usage_ok {p : y01} {m : Pm} (R : RM n ls de p m) (d : Int) : y3b.f p d = some (if 0 ≤ d ∧ d < (n : Int) then m.cnt d else 0) := by
 unfold y3b.f
 rw [has_ok R, Option.bind_some]
 by_cases h : 0 ≤ d ∧ d < (n : Int)
 ·rw [if_neg (by simp [h]), R.dv.2 d h.1 h.2, if_pos h]; rfl
 ·rw [if_pos (by rw [Bool.not_eq_true', decide_eq_false_iff_not]; exact h), if_neg h]
theorem nextExpiry_ok (g : y50 n ls) {p : y01} {m : Pm} (R : RM n ls de p m) (B : Tb de m) : y2g.f p = some ((enc (nxTo ls de m n)).2, (nxTo ls de m n).isSome) := by
 unfold y2g.f
 rw [next_ok g R B, Option.bind_some]
 congr 2
 cases hz : nxTo ls de m n with
 | none => simp [enc]
 | some z => have := (nxTo_some (k := z.1) (t := z.2) hz).1.1; simp [enc, this]
end
end Go.Proofs.Ytcfcffbjdjacfaa.Sim

namespace Go.Proofs.Ytcfcffbjdjacfaa.Sim
open Go
set_option linter.unusedVariables false
set_option maxRecDepth 100000

structure WA (n : Nat) (ls : List y0g) (m : Pm) : Prop where
 a : ∀ l ∈ ls, m.act l.Consumer = true → m.act l.Supplier = true
 r : ∀ k, m.act k = true → 0 ≤ k ∧ k < n
 c0 : ∀ k, 0 ≤ m.cnt k
 c1 : ∀ k, 0 < m.cnt k → m.act k = true
def WI (ls : List y0g) (t : Int) (m : Pm) : Prop := ∀ k, idle ls m k = true → m.idl k ≤ t
structure W (n : Nat) (ls : List y0g) (de : Int → Int) (m : Pm) : Prop where
 w : WA n ls m
 n0 : 0 ≤ m.now
 n1 : m.now ≤ maxT
 i : WI ls m.now m
 x : ∀ k, idle ls m k = true → m.now < m.idl k + de k

section
variable {n : Nat} {ls : List y0g} {de : Int → Int} {t : Int}

theorem off1_act (m : Pm) (k at_ s : Int) : (off1 ls m k at_).act s = true ↔ s ≠ k ∧ m.act s = true := by
 unfold off1 fset
 simp only
 by_cases e : s = k
 ·rw [if_pos e]; simp [e]
 ·rw [if_neg e]; simp [e]
theorem off1_idl (m : Pm) (k at_ s : Int) : (off1 ls m k at_).idl s = if ((∃ l ∈ ls, l.Consumer = k ∧ l.Supplier = s) ∧ idle ls (off1 ls m k at_) s = true) then at_ else m.idl s := by
 have : ((∃ l ∈ ls, l.Consumer = k ∧ l.Supplier = s) ∧ idle ls (off1 ls m k at_) s = true) ↔ (ls.any (fun l => decide (l.Consumer = k) && decide (l.Supplier = s)) && idle ls { m with act := fset m.act k false } s) = true := by
  rw [Bool.and_eq_true, List.any_eq_true]
  simp only [Bool.and_eq_true, decide_eq_true_eq]
  rfl
 by_cases h : (ls.any (fun l => decide (l.Consumer = k) && decide (l.Supplier = s)) && idle ls { m with act := fset m.act k false } s) = true
 ·rw [if_pos (this.2 h)]
  show (if _ then at_ else m.idl s) = at_
  rw [if_pos h]
 ·rw [if_neg (fun h' => h (this.1 h'))]
  show (if _ then at_ else m.idl s) = m.idl s
  rw [if_neg h]
theorem off1_idle {m : Pm} {k at_ s : Int} (h : idle ls (off1 ls m k at_) s = true) : ((∃ l ∈ ls, l.Consumer = k ∧ l.Supplier = s) ∧ (off1 ls m k at_).idl s = at_) ∨ (idle ls m s = true ∧ (off1 ls m k at_).idl s = m.idl s) := by
 rw [off1_idl]
 by_cases c : ∃ l ∈ ls, l.Consumer = k ∧ l.Supplier = s
 ·exact .inl ⟨c, by rw [if_pos ⟨c, h⟩]⟩
 ·refine .inr ⟨?_, by rw [if_neg (fun h' => c h'.1)]⟩
  obtain ⟨h1, h2, h3⟩ := idle_iff.1 h
  refine idle_iff.2 ⟨((off1_act _ _ _ _).1 h1).2, h2, fun l hl hs => ?_⟩
  refine Bool.eq_false_iff.2 fun hb => ?_
  have := h3 l hl hs
  have hne : l.Consumer ≠ k := fun e => c ⟨l, hl, e, hs⟩
  rw [(off1_act _ _ _ _).2 ⟨hne, hb⟩] at this; cases this

theorem WA.off {m : Pm} (w : WA n ls m) {k at_ : Int} (hk : idle ls m k = true) : WA n ls (off1 ls m k at_) := by
 obtain ⟨h1, h2, h3⟩ := idle_iff.1 hk
 refine ⟨fun l hl hc => ?_, fun s hs => w.r s ((off1_act _ _ _ _).1 hs).2, w.c0, fun s hs => ?_⟩
 ·obtain ⟨c1, c2⟩ := (off1_act _ _ _ _).1 hc
  refine (off1_act _ _ _ _).2 ⟨fun e => ?_, w.a l hl c2⟩
  rw [h3 l hl e] at c2; cases c2
 ·have hs' : 0 < m.cnt s := hs
  refine (off1_act _ _ _ _).2 ⟨fun e => ?_, w.c1 s hs'⟩
  rw [e, h2] at hs'; omega
theorem WI.off {m : Pm} (w : WI ls t m) {k at_ : Int} (ht : at_ ≤ t) : WI ls t (off1 ls m k at_) := fun s hs => by
 rcases off1_idle hs with ⟨_, e⟩ | ⟨h, e⟩
 ·rw [e]; exact ht
 ·rw [e]; exact w s h
theorem Exp.W {m m' : Pm} {ops : List y0e} (h : Exp n ls de t m ops m') (w : WA n ls m) (i : WI ls t m) : WA n ls m' ∧ WI ls t m' :=
 h.ind (P := fun m => WA n ls m ∧ WI ls t m) (fun m k at_ ⟨a, b⟩ h ht => ⟨a.off (nxTo_some h).2.1, b.off ht⟩) ⟨w, i⟩
theorem Exp.x {m m' : Pm} {ops : List y0e} (h : Exp n ls de t m ops m') (w : WA n ls m') : ∀ k, idle ls m' k = true → t < m'.idl k + de k := fun k hk => by
 have := w.r k (idle_iff.1 hk).1
 exact stop_iff.1 h.stop_ k this.1 this.2 hk

theorem mem_req (g : y50 n ls) {d k : Int} : k ∈ req n ls d ↔ (0 ≤ k ∧ k < n) ∧ (k = d ∨ Path ls d k) := by
 unfold req
 rw [mem_upto]
 refine and_congr Iff.rfl ?_
 unfold Rch
 simp
theorem path_last {ls : List y0g} {a b : Int} (h : Path ls a b) : ∃ c, (c = a ∨ Path ls a c) ∧ y0g.mk c b ∈ ls := by
 induction h with
 | one h => exact ⟨_, .inl rfl, h⟩
 | more h _ ih =>
  obtain ⟨c, h1, h2⟩ := ih
  rcases h1 with e | h1
  ·subst e; exact ⟨_, .inr (.one h), h2⟩
  ·exact ⟨c, .inr (.more h h1), h2⟩
theorem path_snoc {ls : List y0g} {a b c : Int} (h : Path ls a b) (h' : y0g.mk b c ∈ ls) : Path ls a c := h.trans (.one h')

theorem getM_act (g : y50 n ls) (hfull : ¬ (ord n ls).length < n) (m : Pm) (d t k : Int) : (getM n ls m d t).act k = true ↔ m.act k = true ∨ ((0 ≤ k ∧ k < n) ∧ (k = d ∨ Path ls d k)) := by
 unfold getM
 simp only [Bool.or_eq_true, Bool.and_eq_true, decide_eq_true_eq, mem_req g]
 constructor
 ·rintro (h | ⟨h, _⟩)
  ·exact .inl h
  ·exact .inr h
 ·rintro (h | h)
  ·exact .inl h
  ·exact .inr ⟨h, ord_full hfull h.1.1 h.1.2⟩
theorem getM_idle (g : y50 n ls) (hfull : ¬ (ord n ls).length < n) {m : Pm} (w : WA n ls m) {d t k : Int} (h : idle ls (getM n ls m d t) k = true) : idle ls m k = true := by
 obtain ⟨h1, h2, h3⟩ := idle_iff.1 h
 have hkd : k ≠ d := fun e => by
  subst e
  have h2' : fset m.cnt k (m.cnt k + 1) k = 0 := h2
  rw [fset_self] at h2'
  have := w.c0 k; omega
 have hc : m.cnt k = 0 := by
  have h2' : fset m.cnt d (m.cnt d + 1) k = 0 := h2
  rwa [fset_ne _ _ hkd] at h2'
 have hcon : ∀ l ∈ ls, l.Supplier = k → (getM n ls m d t).act l.Consumer = false := h3
 rcases (getM_act g hfull m d t k).1 h1 with ha | ⟨_, e | hp⟩
 ·refine idle_iff.2 ⟨ha, hc, fun l hl hs => Bool.eq_false_iff.2 fun hb => ?_⟩
  have := hcon l hl hs
  rw [(getM_act g hfull m d t l.Consumer).2 (.inl hb)] at this; cases this
 ·exact absurd e hkd
 ·obtain ⟨c, h4, h5⟩ := path_last hp
  have := hcon _ h5 rfl
  have hcr := g.c0 _ h5
  simp only at this hcr
  rw [(getM_act g hfull m d t c).2 (.inr ⟨hcr, h4⟩)] at this; cases this

theorem putM_act (m : Pm) (d t : Int) : (putM ls m d t).act = m.act ∧ (putM ls m d t).cnt = fset m.cnt d (m.cnt d - 1) ∧ (putM ls m d t).now = t := by
 unfold putM
 split <;> exact ⟨rfl, rfl, rfl⟩
theorem putM_idle (m : Pm) (d t k : Int) : idle ls (putM ls m d t) k = idle ls (putC m d t) k := by
 unfold putM
 split <;> rfl

theorem Res.W {kind d : Int} {m m' : Pm} {ops : List y0e} {e : Int} (g : y50 n ls) (hfull : ¬ (ord n ls).length < n) (w : W n ls de m) (h : Res n ls de kind d t m m' ops e) : Sim.W n ls de m' := by
 have h0 := w.n0
 cases h with
 | badG => exact w
 | badP => exact w
 | stateP => exact w
 | badA => exact w
 | @get m1 o1 h2 h3 hd ht he =>
  obtain ⟨w1, i1⟩ := he.W w.w (fun k hk => by have := w.i k hk; omega)
  have x1 := he.x w1
  refine ⟨⟨fun l hl hc => ?_, fun k hk => ?_, fun k => ?_, fun k hk => ?_⟩, by show (0 : Int) ≤ t; omega, ht.2, fun k hk => ?_, fun k hk => ?_⟩
  ·rcases (getM_act g hfull m1 d t _).1 hc with h | ⟨_, h⟩
   ·exact (getM_act g hfull m1 d t _).2 (.inl (w1.a l hl h))
   ·refine (getM_act g hfull m1 d t _).2 (.inr ⟨g.s0 l hl, .inr ?_⟩)
    rcases h with e | h
    ·rw [← e]; exact .one hl
    ·exact path_snoc h hl
  ·rcases (getM_act g hfull m1 d t _).1 hk with h | ⟨h, _⟩
   ·exact w1.r k h
   ·exact h
  ·show 0 ≤ fset m1.cnt d (m1.cnt d + 1) k
   have h1 := w1.c0 d
   have h2 := w1.c0 k
   unfold fset; split <;> omega
  ·have hk' : 0 < fset m1.cnt d (m1.cnt d + 1) k := hk
   by_cases e : k = d
   ·exact (getM_act g hfull m1 d t _).2 (.inr ⟨by rw [e]; exact hd, .inl e⟩)
   ·rw [fset_ne _ _ e] at hk'
    exact (getM_act g hfull m1 d t _).2 (.inl (w1.c1 k hk'))
  ·exact i1 k (getM_idle g hfull w1 hk)
  ·exact x1 k (getM_idle g hfull w1 hk)
 | @put m1 m2 o1 o2 h2 hd ht hc he he2 =>
  obtain ⟨w1, i1⟩ := he.W w.w (fun k hk => by have := w.i k hk; omega)
  obtain ⟨p1, p2, p3⟩ := putM_act (ls := ls) m1 d t
  have hcd : m1.cnt d ≠ 0 := by rw [he.same.2]; exact hc
  have hc0 := w1.c0 d
  have w2 : WA n ls (putM ls m1 d t) := by
   refine ⟨by rw [p1]; exact w1.a, by rw [p1]; exact w1.r, fun k => ?_, fun k hk => ?_⟩
   ·rw [p2]
    have := w1.c0 k
    unfold fset; split <;> omega
   ·rw [p2] at hk
    rw [p1]
    unfold fset at hk
    split at hk
    ·rename_i e; rw [e]; exact w1.c1 d (by omega)
    ·exact w1.c1 k hk
  have i2 : WI ls t (putM ls m1 d t) := fun k hk => by
   rw [putM_idle] at hk
   unfold putM
   by_cases hi : idle ls (putC m1 d t) d = true
   ·rw [if_pos hi]
    show fset m1.idl d t k ≤ t
    unfold fset
    split
    ·omega
    ·rename_i e
     refine i1 k ?_
     obtain ⟨q1, q2, q3⟩ := idle_iff.1 hk
     have q2' : fset m1.cnt d (m1.cnt d - 1) k = 0 := q2
     rw [fset_ne _ _ e] at q2'
     exact idle_iff.2 ⟨q1, q2', q3⟩
   ·rw [if_neg hi]
    show m1.idl k ≤ t
    have e : k ≠ d := fun e => hi (e ▸ hk)
    refine i1 k ?_
    obtain ⟨q1, q2, q3⟩ := idle_iff.1 hk
    have q2' : fset m1.cnt d (m1.cnt d - 1) k = 0 := q2
    rw [fset_ne _ _ e] at q2'
    exact idle_iff.2 ⟨q1, q2', q3⟩
  obtain ⟨w3, i3⟩ := he2.W w2 i2
  have hnow : m'.now = t := by rw [he2.same.1, p3]
  refine ⟨w3, by omega, by have := ht.2; omega, by rw [hnow]; exact i3, by rw [hnow]; exact he2.x w3⟩
 | @adv m1 o1 h3 ht he =>
  obtain ⟨w1, i1⟩ := he.W w.w (fun k hk => by have := w.i k hk; omega)
  exact ⟨⟨w1.a, w1.r, w1.c0, w1.c1⟩, by show (0 : Int) ≤ t; omega, ht.2, i1, he.x w1⟩

theorem Res.cnt {kind d : Int} {m m' : Pm} {ops : List y0e} {e : Int} (h : Res n ls de kind d t m m' ops e) : (e ≠ 0 → m' = m ∧ ops = []) ∧ (e = 0 → m'.now = t ∧ m'.cnt = if kind = 2 then fset m.cnt d (m.cnt d - 1) else if kind = 3 then m.cnt else fset m.cnt d (m.cnt d + 1)) := by
 cases h with
 | badG => exact ⟨fun _ => ⟨rfl, rfl⟩, fun h => by omega⟩
 | badP => exact ⟨fun _ => ⟨rfl, rfl⟩, fun h => by omega⟩
 | stateP => exact ⟨fun _ => ⟨rfl, rfl⟩, fun h => by omega⟩
 | badA => exact ⟨fun _ => ⟨rfl, rfl⟩, fun h => by omega⟩
 | @get m1 o1 h2 h3 hd ht he =>
  refine ⟨fun h => absurd rfl h, fun _ => ⟨rfl, ?_⟩⟩
  rw [if_neg h2, if_neg h3]
  show fset m1.cnt d (m1.cnt d + 1) = _
  rw [he.same.2]
 | @put m1 m2 o1 o2 h2 hd ht hc he he2 =>
  refine ⟨fun h => absurd rfl h, fun _ => ?_⟩
  obtain ⟨_, p2, p3⟩ := putM_act (ls := ls) m1 d t
  rw [if_pos h2, he2.same.1, he2.same.2, p2, p3, he.same.2]
  exact ⟨rfl, rfl⟩
 | @adv m1 o1 h3 ht he =>
  refine ⟨fun h => absurd rfl h, fun _ => ⟨rfl, ?_⟩⟩
  rw [if_neg (by omega), if_pos h3]
  exact he.same.2
end
end Go.Proofs.Ytcfcffbjdjacfaa.Sim

namespace Go.Proofs.Ytcfcffbjdjacfaa.Sim
open Go
set_option linter.unusedVariables false
set_option maxRecDepth 100000

def supl (d : y08) : List Int := if d.Parent < 0 then d.Suppliers else d.Parent :: d.Suppliers
structure GD (ds : List y08) : Prop where
  n8 : ds.length ≤ 8
  par : ∀ d ∈ ds, -1 ≤ d.Parent ∧ d.Parent < ds.length
  sup : ∀ d ∈ ds, ∀ s ∈ supl d, 0 ≤ s ∧ s < ds.length
  nd : ∀ d ∈ ds, (supl d).Nodup
  de : ∀ d ∈ ds, 0 ≤ d.Delay ∧ d.Delay ≤ 11
  sl : ∀ d ∈ ds, d.Suppliers.length ≤ 20
  rk : ∃ r : Int → Int, ∀ i (hi : i < ds.length), ∀ s ∈ supl ds[i], r s < r (i : Int)

structure D1 (i : Int) (d : y08) : Prop where
  p : -1 ≤ d.Parent ∧ d.Parent < i
  s : ∀ s ∈ d.Suppliers, 0 ≤ s ∧ s < i
  n : d.Parent ∉ d.Suppliers ∧ d.Suppliers.Nodup
  dl : 0 ≤ d.Delay ∧ d.Delay ≤ 11
  l : d.Suppliers.length ≤ 20
structure D2 (n i : Int) (d : y08) : Prop where
  p : d.Parent = -1 ∨ i < d.Parent ∧ d.Parent < n
  s : ∀ s ∈ d.Suppliers, i < s ∧ s < n
  n : d.Parent ∉ d.Suppliers ∧ d.Suppliers.Nodup
  dl : 0 ≤ d.Delay ∧ d.Delay ≤ 11
  l : d.Suppliers.length ≤ 20

theorem some_l2 (d : y08) (hl : d.Suppliers.length ≤ 20) (r : Int) : y1t.l2 d r FUEL (r != d.Parent) 0 = some (decide (r ≠ d.Parent ∧ r ∉ d.Suppliers)) := by
  refine y4o (L := fun k (s : Bool) i => y1t.l2 d r k s i) d.Suppliers.length (fun i s => s = decide (r ≠ d.Parent ∧ r ∉ d.Suppliers.take i)) (fun o => o = some (decide (r ≠ d.Parent ∧ r ∉ d.Suppliers))) ?_ ?_ FUEL 0 _ (Nat.zero_le _) (y2x (by omega)) (by rw [Bool.eq_iff_iff]; simp)
  · rintro k s i hi rfl
    rw [y1t.l2, if_pos (by simp; omega), y3d (by omega)]
    refine .inl ⟨_, rfl, ?_⟩
    by_cases c : r ≠ d.Parent ∧ r ∉ d.Suppliers.take i
    · rw [if_pos (by simpa using c), y3u hi, Option.bind_some, Option.bind_some]
      congr 1
      rw [Bool.eq_iff_iff]
      simp only [bne_iff_ne, decide_eq_true_eq, y2r hi, not_or]
      exact ⟨fun h => ⟨c.1, c.2, Ne.symm h⟩, fun h => Ne.symm h.2.2⟩
    · rw [if_neg (by simpa using c), Option.bind_some]
      congr 1
      symm
      rw [decide_eq_false_iff_not]
      exact fun h => c ⟨h.1, fun hm => h.2 ((y2r hi).2 (.inl hm))⟩
  · rintro k s rfl
    rw [y1t.l2, if_neg (by simp), List.take_length]

theorem some_l1 {i : Nat} (hi : i ≤ 8) (x : y08) (hx : x.Suppliers.length ≤ 20) {d0 : y08} (h0 : D1 i d0) (he : d0.Suppliers = []) : ∃ d, y1t.l1 i x FUEL d0 0 = some d ∧ D1 i d := by
  by_cases hz : i = 0
  · refine ⟨d0, ?_, h0⟩
    have : FUEL = 18446744073709551615 + 1 := rfl
    rw [this, y1t.l1, if_neg (by simp [hz])]
  · refine y4o (L := fun k (s : y08) j => y1t.l1 i x k s j) x.Suppliers.length (fun j d => D1 i d ∧ d.Suppliers.length ≤ j) (fun o => ∃ d, o = some d ∧ D1 i d) ?_ ?_ FUEL 0 d0 (Nat.zero_le _) (y2x (by omega)) ⟨h0, by simp [he]⟩
    · rintro k d j hj ⟨hd, hl⟩
      obtain ⟨r, e, r0, r1⟩ := mod_ok (x := x.Suppliers[j]) (n := (i : Int)) (by omega) (by omega)
      rw [y1t.l1, if_pos (by simp; omega), y3u hj, Option.bind_some, e, Option.bind_some, some_l2 d hd.l, Option.bind_some, y3d (by omega)]
      by_cases c : r ≠ d.Parent ∧ r ∉ d.Suppliers
      · rw [if_pos (by simpa using c), app_ok (by simp; omega), Option.bind_some, Option.bind_some]
        refine .inl ⟨y08.mk d.Parent (d.Suppliers ++ [r]) d.Delay, ⟨⟨hd.p, fun s hs => ?_, ⟨?_, ?_⟩, hd.dl, by simp; omega⟩, by simp; omega⟩, rfl⟩
        · rcases List.mem_append.1 hs with h | h
          · exact hd.s s h
          · simp only [List.mem_singleton] at h; rw [h]; exact ⟨r0, r1⟩
        · intro h
          rcases List.mem_append.1 h with h | h
          · exact hd.n.1 h
          · simp only [List.mem_singleton] at h; exact c.1 h.symm
        · show (d.Suppliers ++ [r]).Nodup
          rw [List.nodup_append]
          refine ⟨hd.n.2, by simp, fun a ha b hb => ?_⟩
          simp only [List.mem_singleton] at hb
          rw [hb]; exact fun e => c.2 (e ▸ ha)
      · rw [if_neg (by simpa using c), Option.bind_some]
        exact .inl ⟨d, ⟨hd, by omega⟩, rfl⟩
    · rintro k d ⟨hd, _⟩
      rw [y1t.l1, if_neg (by simp)]
      exact ⟨d, rfl, hd⟩

theorem some_l0 {raw : List y08} (hl : raw.length ≤ 20) (hs : ∀ d ∈ raw, d.Suppliers.length ≤ 20) (hd : ∀ d ∈ raw, 0 ≤ d.Delay) : ∃ ds, y1t.l0 raw FUEL [] 0 = some ds ∧ ds.length = min raw.length 8 ∧ ∀ j (hj : j < ds.length), D1 j ds[j] := by
  have hmin : (min (raw.length : Int) 8) = ((min raw.length 8 : Nat) : Int) := by omega
  refine y4o (L := fun k (s : List y08) i => y1t.l0 raw k s i) (min raw.length 8) (fun i s => s.length = i ∧ ∀ j (hj : j < s.length), D1 j s[j]) (fun o => ∃ ds, o = some ds ∧ ds.length = min raw.length 8 ∧ ∀ j (hj : j < ds.length), D1 j ds[j]) ?_ ?_ FUEL 0 [] (Nat.zero_le _) (y2x (by omega)) ⟨rfl, fun j hj => by simp at hj⟩
  · rintro k s i hi ⟨h1, h2⟩
    have hi' : i < raw.length := by omega
    have hm := List.getElem_mem hi'
    have hdl := hd _ hm
    obtain ⟨r, e, r0, r1⟩ := mod_ok (x := raw[i].Parent) (n := ((i + 1 : Nat) : Int)) (by omega) (by omega)
    have hw : wi (r - 1) = r - 1 := wi_id (by omega) (by omega)
    rw [y1t.l0, hmin, if_pos (by simp; omega), y3u hi', Option.bind_some, y3d (by omega), e, Option.bind_some, hw]
    obtain ⟨d, e2, hD⟩ := some_l1 (i := i) (by omega) raw[i] (hs _ hm) (d0 := y08.mk (r - 1) ([] : List Int) (Int.tmod raw[i].Delay 12)) ⟨by simp only; omega, by simp, by simp, by simp only; rw [Int.tmod_eq_emod_of_nonneg hdl]; omega, by simp⟩ rfl
    rw [e2, Option.bind_some, app_ok (by simp; omega), Option.bind_some, Option.bind_some]
    refine .inl ⟨s ++ [d], ⟨by simp [h1], fun j hj => ?_⟩, rfl⟩
    by_cases c : j < s.length
    · rw [List.getElem_append_left c]; exact h2 j c
    · have : j = s.length := by simp only [List.length_append, List.length_singleton] at hj; omega
      subst this
      rw [List.getElem_append_right (Nat.le_refl _)]
      simpa [h1] using hD
  · rintro k s ⟨h1, h2⟩
    rw [y1t.l0, hmin, if_neg (by simp)]
    exact ⟨s, rfl, h1, h2⟩

theorem some_l4 {raw : List y08} {n : Nat} (hmin : (min (raw.length : Int) 8) = (n : Int)) (hn : n ≤ 8) {x : y08} {i : Nat} (hx : D1 i x) (hi : i < n) (p dl : Int) : y1t.l4 raw x FUEL (y08.mk p ([] : List Int) dl) 0 = some (y08.mk p (x.Suppliers.map (fun s => (n : Int) - 1 - s)) dl) := by
  have hl := hx.l
  refine y4o (L := fun k (s : y08) j => y1t.l4 raw x k s j) x.Suppliers.length (fun j s => s = y08.mk p ((x.Suppliers.take j).map (fun s => (n : Int) - 1 - s)) dl) (fun o => o = some (y08.mk p (x.Suppliers.map (fun s => (n : Int) - 1 - s)) dl)) ?_ ?_ FUEL 0 _ (Nat.zero_le _) (y2x (by omega)) (by simp)
  · rintro k s j hj rfl
    have hr := hx.s _ (List.getElem_mem hj)
    rw [y1t.l4, if_pos (by simp; omega), y3u hj, Option.bind_some, hmin, wi_id (x := (n : Int) - 1) (by omega) (by omega), wi_id (by omega) (by omega), app_ok (by simp; omega), Option.bind_some, y3d (by omega)]
    refine .inl ⟨_, ?_, rfl⟩
    rw [List.take_succ_eq_append_getElem hj, List.map_append, List.map_cons, List.map_nil]
  · rintro k s rfl
    rw [y1t.l4, if_neg (by simp), List.take_length]

theorem nodup_map_inj' {α β : Type} {f : α → β} (hf : ∀ a b, f a = f b → a = b) {l : List α} (h : l.Nodup) : (l.map f).Nodup := by
  unfold List.Nodup at h ⊢
  rw [List.pairwise_map]
  exact h.imp fun {a b} hab e => hab (hf a b e)

theorem some_l3 {raw : List y08} {n : Nat} (hmin : (min (raw.length : Int) 8) = (n : Int)) (hn : n ≤ 8) {ds : List y08} (hl : ds.length = n) (hD : ∀ j (hj : j < ds.length), D1 j ds[j]) :
    ∃ bs, y1t.l3 raw ds FUEL (List.replicate n (y08.mk 0 ([] : List Int) 0)) 0 = some bs ∧ bs.length = n ∧ ∀ j (hj : j < bs.length), D2 n j bs[j] := by
  refine y4o (L := fun k (s : List y08) i => y1t.l3 raw ds k s i) n (fun i s => s.length = n ∧ ∀ j (hj : j < s.length), n - i ≤ j → D2 n j s[j]) (fun o => ∃ bs, o = some bs ∧ bs.length = n ∧ ∀ j (hj : j < bs.length), D2 n j bs[j]) ?_ ?_ FUEL 0 _ (Nat.zero_le _) (y2x (by omega)) ⟨by simp, fun j hj h => by simp at hj; omega⟩
  · rintro k s i hi ⟨h1, h2⟩
    have hi' : i < ds.length := by omega
    have hx := hD i hi'
    have hp := hx.p
    rw [y1t.l3, hmin, if_pos (by simp; omega), y3u hi', Option.bind_some, wi_id (x := (n : Int) - 1) (by omega) (by omega), y3d (by omega)]
    have hq : wi ((n : Int) - 1 - (i : Int)) = ((n - 1 - i : Nat) : Int) := by rw [wi_id (by omega) (by omega)]; omega
    have hfin : ∀ p, (p = -1 ∨ (n : Int) - 1 - i < p ∧ p < n) → (p ∉ ds[i].Suppliers.map (fun s => (n : Int) - 1 - s)) → ∃ s', (s'.length = n ∧ ∀ j (hj : j < s'.length), n - (i + 1) ≤ j → D2 n j s'[j]) ∧
        ((y1t.l4 raw ds[i] FUEL (y08.mk p ([] : List Int) ds[i].Delay) 0).bind fun v389 => (idx s ((n - 1 - i : Nat) : Int)).bind fun x473 => some (upd s ((n - 1 - i : Nat) : Int) v389)) = some s' := fun p hp1 hp2 => by
      rw [some_l4 hmin hn hx hi p ds[i].Delay, Option.bind_some, y3u (by omega : n - 1 - i < s.length), Option.bind_some]
      refine ⟨_, ⟨by rw [y1w]; exact h1, fun j hj hij => ?_⟩, rfl⟩
      rw [y1w] at hj
      unfold upd
      simp only [Int.toNat_natCast]
      rw [List.getElem_set]
      split
      · rename_i e
        refine ⟨by simp only; omega, fun s' hs' => ?_, ⟨hp2, nodup_map_inj' (fun a b h => by omega) hx.n.2⟩, hx.dl, by simp; exact hx.l⟩
        obtain ⟨q, hq', rfl⟩ := List.mem_map.1 hs'
        have := hx.s q hq'
        omega
      · exact h2 j hj (by omega)
    by_cases c : 0 ≤ ds[i].Parent
    · rw [if_pos (by simpa using c), Option.bind_some]
      simp only
      rw [wi_id (x := (n : Int) - 1 - ds[i].Parent) (by omega) (by omega), hq]
      obtain ⟨s', a, b⟩ := hfin ((n : Int) - 1 - ds[i].Parent) (by omega) (fun hm => by
        obtain ⟨q, hq', e⟩ := List.mem_map.1 hm
        exact hx.n.1 (by rw [show ds[i].Parent = q by omega]; exact hq'))
      rw [b]
      exact .inl ⟨s', a, rfl⟩
    · rw [if_neg (by simpa using c), Option.bind_some]
      simp only
      rw [hq]
      obtain ⟨s', a, b⟩ := hfin (-1) (.inl rfl) (fun hm => by
        obtain ⟨q, hq', e⟩ := List.mem_map.1 hm
        have := hx.s q hq'
        omega)
      rw [b]
      exact .inl ⟨s', a, rfl⟩
  · rintro k s ⟨h1, h2⟩
    rw [y1t.l3, hmin, if_neg (by simp)]
    exact ⟨s, rfl, h1, fun j hj => h2 j hj (by omega)⟩

theorem some_ok {raw : List y08} (hl : raw.length ≤ 20) (hs : ∀ d ∈ raw, d.Suppliers.length ≤ 20) (hd : ∀ d ∈ raw, 0 ≤ d.Delay) : ∃ ds, y1t.f raw = some ds ∧ GD ds := by
  obtain ⟨ds, e, h1, h2⟩ := some_l0 hl hs hd
  have hmin : (min (raw.length : Int) 8) = ((min raw.length 8 : Nat) : Int) := by omega
  unfold y1t.f
  rw [e, Option.bind_some]
  by_cases c : (Int.tmod (min (raw.length : Int) 8) 2 == 0) = true
  · rw [if_pos c]
    refine ⟨ds, rfl, by omega, ?_, ?_, ?_, ?_, ?_, fun i => i, ?_⟩
    all_goals first
      | (intro d hd'
         obtain ⟨j, hj, rfl⟩ := List.getElem_of_mem hd'
         have D := h2 j hj
         have hp := D.p)
      | skip
    · omega
    · intro s hs'
      unfold supl at hs'
      split at hs'
      · have := D.s s hs'; omega
      · rcases List.mem_cons.1 hs' with h | h
        · omega
        · have := D.s s h; omega
    · unfold supl
      split
      · exact D.n.2
      · rw [List.nodup_cons]; exact D.n
    · exact D.dl
    · exact D.l
    · intro i hi s hs'
      show s < (i : Int)
      have D := h2 i hi
      have hp := D.p
      unfold supl at hs'
      split at hs'
      · exact (D.s s hs').2
      · rcases List.mem_cons.1 hs' with h | h
        · omega
        · exact (D.s s h).2
  · rw [if_neg c, hmin, mk_ok (by omega), Option.bind_some]
    obtain ⟨bs, e2, b1, b2⟩ := some_l3 (raw := raw) (n := min raw.length 8) hmin (by omega) h1 h2
    rw [e2]
    refine ⟨bs, rfl, by omega, ?_, ?_, ?_, ?_, ?_, fun i => -i, ?_⟩
    all_goals first
      | (intro d hd'
         obtain ⟨j, hj, rfl⟩ := List.getElem_of_mem hd'
         have D := b2 j hj
         have hp := D.p)
      | skip
    · omega
    · intro s hs'
      unfold supl at hs'
      split at hs'
      · have := D.s s hs'; omega
      · rcases List.mem_cons.1 hs' with h | h
        · omega
        · have := D.s s h; omega
    · unfold supl
      split
      · exact D.n.2
      · rw [List.nodup_cons]; exact D.n
    · exact D.dl
    · exact D.l
    · intro i hi s hs'
      show -s < -(i : Int)
      have D := b2 i hi
      have hp := D.p
      unfold supl at hs'
      split at hs'
      · have := (D.s s hs').1; omega
      · rcases List.mem_cons.1 hs' with h | h
        · omega
        · have := (D.s s h).1; omega

theorem large_ok (raw : List y08) (l : List y3t) (h : raw.length ≤ maxLen) : y3o.f raw l = some (decide (20 < raw.length ∨ 40 < l.length) || raw.any (fun d => decide (20 < d.Suppliers.length))) := by
  unfold y3o.f
  by_cases h1 : 20 < raw.length ∨ 40 < l.length
  · rw [if_pos (by simp; omega)]; simp [h1]
  · rw [if_neg (by simp; omega)]
    have key : y3o.l0 raw FUEL 0 = some (if raw.any (fun d => decide (20 < d.Suppliers.length)) = true then .out true else .nxt ()) :=
      search_ok (L := y3o.l0 raw) raw (fun d => decide (20 < d.Suppliers.length)) true h (fun k i => by
        rw [y3o.l0]
        congr 1
        congr 1
        funext x
        have : (decide (20 < (x.Suppliers.length : Int))) = decide (20 < x.Suppliers.length) := by rw [Bool.eq_iff_iff]; simp; omega
        rw [this])
    rw [key]
    cases raw.any (fun d => decide (20 < d.Suppliers.length)) <;> simp [h1, Fl.go]


def lkTo (ds : List y08) : Nat → List y0g
  | 0 => []
  | i + 1 => lkTo ds i ++ ((ds[i]?.map supl).getD []).map (fun s => y0g.mk (i : Int) s)
theorem lkTo_succ {ds : List y08} {i : Nat} (hi : i < ds.length) : lkTo ds (i + 1) = lkTo ds i ++ (supl ds[i]).map (fun s => y0g.mk (i : Int) s) := by
  rw [lkTo, List.getElem?_eq_getElem hi]; rfl
theorem mem_lkTo {ds : List y08} : ∀ {i : Nat}, i ≤ ds.length → ∀ {l : y0g}, l ∈ lkTo ds i ↔ ∃ j, ∃ hj : j < ds.length, j < i ∧ l.Consumer = j ∧ l.Supplier ∈ supl ds[j]
  | 0, _, l => by simp [lkTo]
  | i + 1, hi, l => by
    rw [lkTo_succ (by omega), List.mem_append, mem_lkTo (by omega), List.mem_map]
    constructor
    · rintro (⟨j, hj, h1, h2⟩ | ⟨s, h1, rfl⟩)
      · exact ⟨j, hj, by omega, h2⟩
      · exact ⟨i, by omega, by omega, rfl, h1⟩
    · rintro ⟨j, hj, h1, h2, h3⟩
      by_cases e : j = i
      · subst e
        exact .inr ⟨l.Supplier, h3, by cases l; simp only at h2; rw [h2]⟩
      · exact .inl ⟨j, hj, by omega, h2, h3⟩
theorem supl_len (d : y08) : (supl d).length ≤ d.Suppliers.length + 1 := by unfold supl; split <;> simp
theorem supOf_append (a b : List y0g) (k : Int) : supOf (a ++ b) k = supOf a k ++ supOf b k := by simp [supOf]
theorem supOf_lkTo {ds : List y08} : ∀ {i : Nat}, i ≤ ds.length → ∀ {k : Nat} (hk : k < ds.length), supOf (lkTo ds i) (k : Int) = if k < i then supl ds[k] else []
  | 0, _, k, hk => by simp [lkTo, supOf]
  | i + 1, hi, k, hk => by
    rw [lkTo_succ (by omega), supOf_append, supOf_lkTo (by omega) hk]
    have hb : supOf ((supl ds[i]).map (fun s => y0g.mk (i : Int) s)) (k : Int) = if k = i then supl ds[i] else [] := by
      unfold supOf
      by_cases e : k = i
      · rw [if_pos e, List.filter_eq_self.2 (fun l hl => by obtain ⟨s, _, rfl⟩ := List.mem_map.1 hl; simp [e])]
        simp [Function.comp_def]
      · rw [if_neg e, List.filter_eq_nil_iff.2 (fun l hl => by obtain ⟨s, _, rfl⟩ := List.mem_map.1 hl; simp; omega)]; rfl
    rw [hb]
    by_cases e : k = i
    · subst e; simp
    · rw [if_neg e]
      by_cases c : k < i
      · rw [if_pos c, if_pos (by omega)]; simp
      · rw [if_neg c, if_neg (by omega)]; rfl

def lks (ds : List y08) : List y0g := lkTo ds ds.length
def dly (ds : List y08) (k : Int) : Int := ((idx ds k).map (·.Delay)).getD 0
theorem GD.lkLen {ds : List y08} (G : GD ds) : ∀ {i : Nat}, i ≤ ds.length → (lkTo ds i).length ≤ i * 21
  | 0, _ => by simp [lkTo]
  | i + 1, hi => by
    have h1 := GD.lkLen G (i := i) (by omega)
    have h2 := supl_len (ds[i]'(by omega))
    have h3 := G.sl _ (List.getElem_mem (by omega : i < ds.length))
    rw [lkTo_succ (by omega), List.length_append, List.length_map]
    omega
theorem GD.good {ds : List y08} (G : GD ds) : y50 ds.length (lks ds) := by
  have h8 := G.n8
  have hl := G.lkLen (Nat.le_refl ds.length)
  refine ⟨by omega, by unfold lks; omega, fun l h => ?_, fun l h => ?_, ?_⟩
  · obtain ⟨j, hj, _, e, _⟩ := (mem_lkTo (Nat.le_refl _)).1 h
    omega
  · obtain ⟨j, hj, _, _, e⟩ := (mem_lkTo (Nat.le_refl _)).1 h
    exact G.sup _ (List.getElem_mem hj) _ e
  · have key : ∀ i, i ≤ ds.length → (lkTo ds i).Nodup := by
      intro i
      induction i with
      | zero => intro _; simp [lkTo]
      | succ i ih =>
        intro hi
        rw [lkTo_succ (by omega), List.nodup_append]
        refine ⟨ih (by omega), nodup_map_inj' (fun a b h => by injection h) (G.nd _ (List.getElem_mem (by omega))), fun a ha b hb e => ?_⟩
        obtain ⟨j, hj, h1, h2, _⟩ := (mem_lkTo (by omega)).1 ha
        obtain ⟨s, _, rfl⟩ := List.mem_map.1 hb
        rw [e] at h2
        simp only at h2; omega
    exact key _ (Nat.le_refl _)
theorem GD.full {ds : List y08} (G : GD ds) : ¬ (ord ds.length (lks ds)).length < ds.length := fun hlt => by
  obtain ⟨r, hr⟩ := G.rk
  obtain ⟨i, _, _, hp⟩ := ord_cyclic G.good hlt
  have hlk : ∀ a b, y0g.mk a b ∈ lks ds → r b < r a := fun a b h => by
    obtain ⟨j, hj, _, e, hs⟩ := (mem_lkTo (Nat.le_refl _)).1 h
    simp only at e hs
    rw [e]; exact hr j hj b hs
  have : ∀ {a b : Int}, Path (lks ds) a b → r b < r a := fun h => by
    induction h with
    | one h => exact hlk _ _ h
    | more h _ ih => have := hlk _ _ h; omega
  have := this hp
  omega
theorem GD.dly {ds : List y08} (G : GD ds) (k : Int) : 0 ≤ dly ds k ∧ dly ds k ≤ 11 := by
  unfold Sim.dly
  cases h : idx ds k with
  | none => simp
  | some d =>
    obtain ⟨x, hx, hm⟩ := idx_of (y26 h) (y27 h)
    rw [h] at hx; injection hx with hx; subst hx
    exact G.de d hm

def m00 : Pm := ⟨fun _ => false, fun _ => 0, fun _ => 0, 0⟩

theorem suppliersF_ok (d : y08) (hl : d.Suppliers.length ≤ 1000000) : y3p.f d = some (supl d) := by
  unfold y3p.f y3x.f supl
  by_cases c : d.Parent < 0
  · rw [if_pos (by simpa using c), if_pos c, app_ok (by simp; omega)]; rfl
  · rw [if_neg (by simpa using c), if_neg c, app_ok (by simp; omega)]; rfl

def devTo (ds : List y08) (i : Int) (ls : List y0g) (k : Int) : y0k :=
  y0k.mk (if k < i then dly ds k else 0) (if k < i then ((idx ds k).map supl).getD [] else []) (y4f ls k) false 0 0

theorem new_l1 {ds : List y08} (G : GD ds) {i : Nat} (hi : i < ds.length) {x : y0k} (hx : x.suppliers = supl ds[i]) {dl : List y0k} (h0 : RepV ds.length dl (devTo ds ((i + 1 : Nat) : Int) (lkTo ds i))) :
    ∃ dl', y2b.l1 ds (i : Int) x FUEL (y01.mk dl (lkTo ds i) ([] : List Int) 0) 0 = some (.nxt (y01.mk dl' (lkTo ds (i + 1)) ([] : List Int) 0)) ∧ RepV ds.length dl' (devTo ds ((i + 1 : Nat) : Int) (lkTo ds (i + 1))) := by
  have h8 := G.n8
  have hm := List.getElem_mem hi
  have hsl := supl_len ds[i]
  have hsl2 := G.sl _ hm
  have hlk := G.lkLen (i := i) (by omega)
  rw [lkTo_succ hi]
  refine y4o (L := fun k (s : y01) j => y2b.l1 ds (i : Int) x k s j) (supl ds[i]).length (fun j s => ∃ dl, s = y01.mk dl (lkTo ds i ++ ((supl ds[i]).take j).map (fun s => y0g.mk (i : Int) s)) ([] : List Int) 0 ∧ RepV ds.length dl (devTo ds ((i + 1 : Nat) : Int) (lkTo ds i ++ ((supl ds[i]).take j).map (fun s => y0g.mk (i : Int) s))))
    (fun o => ∃ dl', o = some (.nxt (y01.mk dl' (lkTo ds i ++ (supl ds[i]).map (fun s => y0g.mk (i : Int) s)) ([] : List Int) 0)) ∧ RepV ds.length dl' (devTo ds ((i + 1 : Nat) : Int) (lkTo ds i ++ (supl ds[i]).map (fun s => y0g.mk (i : Int) s)))) ?_ ?_ FUEL 0 _ (Nat.zero_le _) (y2x (by omega)) ⟨dl, by simp, by simpa using h0⟩
  · rintro k s j hj ⟨dl, rfl, hR⟩
    have hs := G.sup _ hm _ (List.getElem_mem hj)
    have hlen : ((lkTo ds i ++ ((supl ds[i]).take j).map (fun s => y0g.mk (i : Int) s)).length) ≤ 500 := by
      simp only [List.length_append, List.length_map, List.length_take]; omega
    have hcl := consOf_le (lkTo ds i ++ ((supl ds[i]).take j).map (fun s => y0g.mk (i : Int) s)) (supl ds[i])[j]
    rw [y2b.l1, hx, if_pos (by simp; omega), y3u hj, Option.bind_some, if_neg (by simp; omega)]
    simp only
    rw [app_ok (by simp only [List.length_singleton]; omega), Option.bind_some, hR.2 _ hs.1 hs.2, Option.bind_some]
    simp only [devTo]
    rw [app_ok (by simp only [List.length_singleton]; omega), Option.bind_some, y3d (by omega)]
    have e : (lkTo ds i ++ ((supl ds[i]).take j).map (fun s => y0g.mk (i : Int) s)) ++ [y0g.mk (i : Int) (supl ds[i])[j]] = lkTo ds i ++ ((supl ds[i]).take (j + 1)).map (fun s => y0g.mk (i : Int) s) := by
      rw [List.take_succ_eq_append_getElem hj, List.map_append, List.append_assoc]; rfl
    rw [e]
    refine .inl ⟨_, ⟨_, rfl, (hR.set hs.1 _).congr fun q q0 q1 => ?_⟩, rfl⟩
    unfold fset
    have hcs := consOf_snoc (lkTo ds i ++ ((supl ds[i]).take j).map (fun s => y0g.mk (i : Int) s)) (y0g.mk (i : Int) (supl ds[i])[j]) q
    rw [e] at hcs
    by_cases c : q = (supl ds[i])[j]
    · rw [if_pos c]
      rw [if_pos (by simp [c])] at hcs
      simp only [devTo, hcs]
      subst c
      rfl
    · rw [if_neg c]
      rw [if_neg (by simp; exact fun h => c h.symm)] at hcs
      simp only [devTo, hcs]
  · rintro k s ⟨dl, rfl, hR⟩
    rw [y2b.l1, hx, if_neg (by simp)]
    rw [List.take_length] at hR
    exact ⟨dl, by rw [List.take_length], hR⟩

theorem new_ok {ds : List y08} (G : GD ds) : ∃ p, y2b.f ds = some (some p, 0) ∧ RM ds.length (lks ds) (dly ds) p m00 ∧ Tb (dly ds) m00 ∧ W ds.length (lks ds) (dly ds) m00 := by
  have h8 := G.n8
  unfold y2b.f
  rw [if_neg (by simp; omega), mk_ok (by omega), Option.bind_some]
  have key : ∃ dl, y2b.l0 ds FUEL (y01.mk (List.replicate ds.length (y0k.mk 0 ([] : List Int) ([] : List Int) false 0 0)) ([] : List y0g) ([] : List Int) 0) 0 = some (.nxt (y01.mk dl (lks ds) ([] : List Int) 0)) ∧ RepV ds.length dl (devTo ds (ds.length : Int) (lks ds)) := by
    refine y4o (L := fun k (s : y01) i => y2b.l0 ds k s i) ds.length (fun i s => ∃ dl, s = y01.mk dl (lkTo ds i) ([] : List Int) 0 ∧ RepV ds.length dl (devTo ds (i : Int) (lkTo ds i)))
      (fun o => ∃ dl, o = some (.nxt (y01.mk dl (lks ds) ([] : List Int) 0)) ∧ RepV ds.length dl (devTo ds (ds.length : Int) (lks ds))) ?_ ?_ FUEL 0 _ (Nat.zero_le _) (y2x (by omega)) ⟨_, rfl, (RepV.rep ds.length _).congr fun q q0 q1 => ?_⟩
    · rintro k s i hi ⟨dl, rfl, hR⟩
      have hm := List.getElem_mem hi
      have hp := G.par _ hm
      have hd := G.de _ hm
      have hsl := G.sl _ hm
      have i0 : (0 : Int) ≤ (i : Int) := by omega
      have i1 : (i : Int) < (ds.length : Int) := by omega
      have hR1 := hR.set i0 ({ devTo ds (i : Int) (lkTo ds i) (i : Int) with delay := ds[i].Delay } : y0k)
      have hR2 := hR1.set i0 ({ ({ devTo ds (i : Int) (lkTo ds i) (i : Int) with delay := ds[i].Delay } : y0k) with suppliers := supl ds[i] } : y0k)
      rw [y2b.l0, if_pos (by simp; omega), y3u hi, Option.bind_some, if_neg (by simp; omega), suppliersF_ok _ (by omega), Option.bind_some]
      simp only
      rw [hR.2 _ i0 i1, Option.bind_some, hR1.2 _ i0 i1, Option.bind_some, fset_self, hR2.2 _ i0 i1, Option.bind_some, fset_self]
      have hR3 : RepV ds.length (upd (upd dl (i : Int) ({ devTo ds (i : Int) (lkTo ds i) (i : Int) with delay := ds[i].Delay } : y0k)) (i : Int) ({ ({ devTo ds (i : Int) (lkTo ds i) (i : Int) with delay := ds[i].Delay } : y0k) with suppliers := supl ds[i] } : y0k)) (devTo ds ((i + 1 : Nat) : Int) (lkTo ds i)) := hR2.congr fun q q0 q1 => by
        unfold fset
        by_cases e : q = (i : Int)
        · rw [if_pos e]
          subst e
          simp only [devTo, dly, y3u hi, if_pos (show (i : Int) < ((i + 1 : Nat) : Int) by omega)]
          rfl
        · rw [if_neg e, if_neg e]
          simp only [devTo]
          by_cases c : q < (i : Int)
          · simp only [if_pos c, if_pos (show q < ((i + 1 : Nat) : Int) by omega)]
          · simp only [if_neg c, if_neg (show ¬ q < ((i + 1 : Nat) : Int) by omega)]
      obtain ⟨dl', e, hR4⟩ := new_l1 G hi (x := ({ ({ devTo ds (i : Int) (lkTo ds i) (i : Int) with delay := ds[i].Delay } : y0k) with suppliers := supl ds[i] } : y0k)) rfl hR3
      rw [e, Option.bind_some, Fl.go, y3d (by omega)]
      exact .inl ⟨_, ⟨dl', rfl, hR4⟩, rfl⟩
    · rintro k s ⟨dl, rfl, hR⟩
      rw [y2b.l0, if_neg (by simp)]
      exact ⟨dl, rfl, hR⟩
    · simp only [devTo]
      rw [if_neg (by simp; omega), if_neg (by simp; omega)]
      rfl
  obtain ⟨dl, e, hR⟩ := key
  have hll : (lks ds).length ≤ maxLen := by have := G.good.len; rw [maxLen_eq]; omega
  have hcc : ccode (ds.length : Int) (lks ds) = 0 := by rw [ccode_good G.good, if_neg G.full]
  have ho : ores (ds.length : Int) (lks ds) = (ord ds.length (lks ds), 0) := by unfold ores; rw [if_pos hcc]; rfl
  rw [e, Option.bind_some, Fl.go]
  simp only
  rw [order_ok _ _ hll, ho, Option.bind_some, if_neg (by simp)]
  refine ⟨_, rfl, ⟨hR.congr fun q q0 q1 => ?_, rfl, rfl, rfl⟩, ⟨fun k => by have := G.dly k; omega, fun k => by simp [m00]⟩, ?_⟩
  · obtain ⟨a, rfl⟩ := Int.eq_ofNat_of_zero_le q0
    have ha : a < ds.length := by omega
    simp only [devTo, dev, m00]
    rw [if_pos q1, if_pos q1, y3u ha]
    unfold lks
    rw [supOf_lkTo (Nat.le_refl _) ha, if_pos ha]
    rfl
  · refine ⟨⟨fun l _ h => by simp [m00] at h, fun k h => by simp [m00] at h, fun k => by simp [m00], fun k h => by simp [m00] at h⟩, Int.le_refl _, by simp [m00, maxT], fun k h => ?_, fun k h => ?_⟩
    · have := (idle_iff.1 h).1; simp [m00] at this
    · have := (idle_iff.1 h).1; simp [m00] at this
end Go.Proofs.Ytcfcffbjdjacfaa.Sim

namespace Go.Proofs.Ytcfcffbjdjacfaa.Sim
open Go
set_option linter.unusedVariables false
set_option maxRecDepth 100000

theorem awake28_ok : law28_awake.f = some true := by kernel_rfl
theorem u64_range {x : Int} (h : (Lit.int .u64 x).wf = true) : 0 ≤ x ∧ x < 18446744073709551616 := by
 simp [Lit.wf, IntKind.min, IntKind.max, IntKind.signed, IntKind.bits] at h; omega

theorem kind_ok (x : Int) : ∃ k, y4r.f x 4 = some k ∧ 0 ≤ k ∧ k ≤ 3 := by
 obtain ⟨k, e, k0, k1⟩ := mod_ok (x := x) (n := 4) (by omega) (by omega)
 exact ⟨k, e, k0, by omega⟩

structure Q (n : Nat) (ls : List y0g) (de : Int → Int) (B : Int) (p : y01) (m : Pm) : Prop where
 r : RM n ls de p m
 t : Tb de m
 w : W n ls de m
 c : ∀ k, m.cnt k ≤ B
theorem Res.bound {n : Nat} {ls : List y0g} {de : Int → Int} {B kind d t : Int} {m m' : Pm} {ops : List y0e} {e : Int} (h : Res n ls de kind d t m m' ops e) (hc : ∀ k, m.cnt k ≤ B) : ∀ k, m'.cnt k ≤ B + 1 := fun k => by
 have h1 := hc k
 have h2 := hc d
 obtain ⟨a, b⟩ := h.cnt
 by_cases he : e = 0
 ·rw [(b he).2]
  split
  ·unfold fset; split <;> omega
  ·split
   ·omega
   ·unfold fset; split <;> omega
 ·rw [(a he).1]; omega
theorem call_ok {n : Nat} {ls : List y0g} {de : Int → Int} {B : Int} (g : y50 n ls) (hfull : ¬ (ord n ls).length < n) (hB : B ≤ 1000) {p : y01} {m : Pm} (h : Q n ls de B p m) {c : y3t} {d t kind : Int} (hat : y3z.f c n m.now = some (d, t)) (hk : y4r.f c.Kind 4 = some kind) :
  ∃ p' m' ops e, law28_do.f p c n m.now = some (p', ops, e) ∧ Res n ls de kind d t m m' ops e ∧ Q n ls de (B + 1) p' m' := by
 obtain ⟨p', m', ops, e, e1, r, R, T⟩ := do_ok g h.r h.t hat hk (fun k => ⟨h.w.w.c0 k, by have := h.c k; omega⟩) h.w.n0
 exact ⟨p', m', ops, e, e1, r, R, T, r.W g hfull h.w, r.bound h.c⟩

theorem Q.mono {n : Nat} {ls : List y0g} {de : Int → Int} {B B' : Int} {p : y01} {m : Pm} (h : Q n ls de B p m) (hB : B ≤ B') : Q n ls de B' p m := ⟨h.r, h.t, h.w, fun k => by have := h.c k; omega⟩
theorem new_q {ds : List y08} (G : GD ds) : ∃ p, y2b.f ds = some (some p, 0) ∧ Q ds.length (lks ds) (dly ds) 0 p m00 := by
 obtain ⟨p, e, a, b, c⟩ := new_ok G
 exact ⟨p, e, a, b, c, fun k => by simp [m00]⟩

theorem open_law (p0 : List y08) (p1 : List y3t) (h1 : p0.length ≤ maxLen ∧ ∀ p0' ∈ p0, Wf_api_IdleDevice p0') : (y3o.f p0 p1 = some true) ∨ (y3o.f p0 p1 = some false ∧ p1.length ≤ 40 ∧ ∃ ds, y1t.f p0 = some ds ∧ GD ds) := by
 rw [large_ok p0 p1 h1.1]
 by_cases a : 20 < p0.length ∨ 40 < p1.length
 ·exact .inl (by simp [a])
 ·by_cases b : p0.any (fun d => decide (20 < d.Suppliers.length)) = true
  ·exact .inl (by rw [b]; simp)
  ·refine .inr ⟨by rw [Bool.not_eq_true] at b; rw [b]; simp [a], by omega, ?_⟩
   rw [Bool.not_eq_true, List.any_eq_false] at b
   exact some_ok (by omega) (fun d hd => by have := b d hd; simpa using this) (fun d hd => (u64_range (h1.2 d hd).2.2).1)
end Go.Proofs.Ytcfcffbjdjacfaa.Sim

namespace Go.Proofs.Ytcfcffbjdjacfaa.Sim
open Go
set_option linter.unusedVariables false
set_option linter.unusedSimpArgs false

/-! ### law28_play: function 21 -/
end Go.Proofs.Ytcfcffbjdjacfaa.Sim

namespace Go.Proofs.Ytcfcffbjdjacfaa.Sim
open Go
set_option linter.unusedVariables false
set_option maxRecDepth 100000

theorem equalOps_refl (a : List y0e) (hl : a.length ≤ 4294967296) : y1n.f a a = some true := by
 unfold y1n.f
 rw [if_neg (by simp)]
 have key : y1n.l0 a a FUEL 0 = some (.nxt ()) := by
  refine y4o (L := fun k (_ : Unit) i => y1n.l0 a a k i) a.length (fun _ _ => True) (fun o => o = some (.nxt ())) ?_ ?_ FUEL 0 () (Nat.zero_le _) (y2x (by omega)) trivial
  ·intro k _ i hi _
   rw [y1n.l0, if_pos (by simp; omega), y3u hi, Option.bind_some, Option.bind_some, if_neg (by simp), y3d (by omega)]
   exact .inl ⟨(), trivial, rfl⟩
  ·intro k _ _
   rw [y1n.l0, if_neg (by simp)]
 rw [key]; rfl

theorem Exp.len {n : Nat} {ls : List y0g} {de : Int → Int} {t : Int} {m m' : Pm} {ops : List y0e} (h : Exp n ls de t m ops m') : ops.length ≤ n := by
 obtain ⟨o, m2, h1, h2⟩ := Exp.exists_ (n := n) (ls := ls) (de := de) (t := t) m
 rw [(h.det h1).1]; exact h2
end Go.Proofs.Ytcfcffbjdjacfaa.Sim

namespace Go.Proofs.Ytcfcffbjdjacfaa.Sim
open Go
set_option linter.unusedVariables false
set_option maxRecDepth 100000

end Go.Proofs.Ytcfcffbjdjacfaa.Sim

namespace Go.Proofs.Ytcfcffbjdjacfaa.Sim
open Go
set_option linter.unusedVariables false
set_option maxRecDepth 100000

theorem invalid_ok (n : Int) (ls : List y0g) (h : ls.length ≤ maxLen) : y3k.f n ls = some ((((decide (n < 0)) || (decide (128 < n))) || (decide (1024 < (ls.length : Int)))) || ls.any (badL n)) := by
 unfold y3k.f
 by_cases h0 : (((decide (n < 0)) || (decide (128 < n))) || (decide (1024 < (ls.length : Int)))) = true
 ·rw [if_pos h0, h0]; rfl
 ·rw [if_neg h0]
  rw [search_ok (L := y3k.l0 n ls) ls (badL n) true h (fun k i => by rw [y3k.l0]; rfl)]
  rw [Bool.not_eq_true] at h0
  rw [h0, Bool.false_or]
  cases ls.any (badL n) <;> rfl

theorem basic_ok (n : Int) (ls : List y0g) (h : ls.length ≤ maxLen) : y2p.f n ls = some (vcode n ls) := by
 unfold y2p.f vcode
 rw [invalid_ok n ls h]
 simp only [Option.bind_some]
 by_cases h0 : (((decide (n < 0)) || (decide (128 < n))) || (decide (1024 < (ls.length : Int)))) = true
 ·rw [if_pos (by rw [h0]; rfl), if_pos h0]
 ·rw [if_neg h0]
  have hlen : ls.length ≤ 1024 := by simp at h0; omega
  rw [Bool.not_eq_true] at h0
  rw [h0, Bool.false_or]
  by_cases hb : ls.any (badL n) = true
  ·rw [if_pos hb, if_pos hb]
  ·rw [if_neg hb, if_neg hb]
   have key : y2p.l0 ls FUEL 0 = some (if ls.Nodup then .nxt () else .out 7) := by
    refine y4o (L := fun k (s : Unit) i => y2p.l0 ls k i) ls.length (fun i s => (ls.take i).Nodup) (fun o => o = some (if ls.Nodup then .nxt () else .out 7)) ?_ ?_ FUEL 0 () (Nat.zero_le _) (y2x (by omega)) (by simp)
    ·intro k s i hi hI
     rw [y2p.l0, if_pos (by simp; omega)]
     have inner : y2p.l1 ls (i : Int) FUEL 0 = some (if ls[i] ∈ ls.take i then .out (.out 7) else .nxt ()) := by
      refine y4o (L := fun k (s : Unit) j => y2p.l1 ls (i : Int) k j) i (fun j s => ls[i] ∉ ls.take j) (fun o => o = some (if ls[i] ∈ ls.take i then .out (.out 7) else .nxt ())) ?_ ?_ FUEL 0 () (Nat.zero_le _) (y2x (by omega)) (by simp)
      ·intro k s j hj hJ
       rw [y2p.l1, if_pos (by simp; omega), y3u hi, y3u (by omega)]
       simp only [Option.bind_some]
       by_cases e : ls[i] = ls[j]
       ·rw [if_pos (by simpa using e)]
        refine .inr ?_
        rw [if_pos]
        rw [e]
        exact List.mem_take_iff_getElem.2 ⟨j, by omega, rfl⟩
       ·rw [if_neg (by simpa using e)]
        refine .inl ⟨(), ?_, by rw [y3d (by omega)]⟩
        rw [y2r (by omega)]
        exact fun h => h.elim hJ e
      ·intro k s hJ
       rw [y2p.l1, if_neg (by simp), if_neg hJ]
     rw [inner]
     simp only [Option.bind_some]
     by_cases hm : ls[i] ∈ ls.take i
     ·rw [if_pos hm]
      refine .inr ?_
      rw [if_neg (fun hn => (nodup_step hi hI).1 (nodup_take (i + 1) hn) hm)]; rfl
     ·rw [if_neg hm]
      exact .inl ⟨(), (nodup_step hi hI).2 hm, by rw [y3d (by omega)]; rfl⟩
    ·intro k s hI
     rw [y2p.l0, if_neg (by simp)]
     rw [List.take_length] at hI
     rw [if_pos hI]
   rw [key]
   by_cases hn : ls.Nodup
   ·rw [if_pos hn, if_pos hn]; rfl
   ·rw [if_neg hn, if_neg hn]; rfl


def Says (n : Nat) (gone : List Bool) (out : List Int) : Prop := gone.length = n ∧ ∀ v : Int, 0 ≤ v → v < n → idx gone v = some (decide (v ∈ out))

theorem Says.nil (n : Nat) : Says n (List.replicate n false) [] := ⟨by simp, fun v h0 h1 => by rw [idx_replicate h0 h1]; simp⟩
theorem Says.snoc {n : Nat} {gone : List Bool} {out : List Int} (h : Says n gone out) {v : Int} (h0 : 0 ≤ v) : Says n (upd gone v true) (out ++ [v]) := by
 refine ⟨by rw [y1w]; exact h.1, fun u u0 u1 => ?_⟩
 rw [idx_upd (xs := gone) h0 u0 (by rw [h.1]; exact u1), h.2 u u0 u1]
 by_cases e : v = u
 ·subst e; simp
 ·have e' : ¬ u = v := fun h => e h.symm
  rw [if_neg e]; simp [e']

theorem remove_l2 {n : Nat} {ls : List y0g} (g : y50 n ls) {gone : List Bool} {out : List Int} (hs : Says n gone out) (v : Int) (b : Bool) (hb : b = decide (v ∉ out)) :
  y2c.l2 ls gone v FUEL b 0 = some (free ls out v) := by
 have hl := g.len
 refine y4o (L := fun k (s : Bool) i => y2c.l2 ls gone v k s i) ls.length (fun i s => s = free (ls.take i) out v) (fun o => o = some (free ls out v)) ?_ ?_ FUEL 0 b (Nat.zero_le _) (y2x (by omega)) (by subst hb; simp [free])
 ·rintro k s i hi rfl
  rw [y2c.l2]
  have hm := List.getElem_mem hi
  have hsx := g.s0 _ hm
  by_cases hf : free (ls.take i) out v = true
  ·rw [if_pos (by simp [hf]; omega), y3u hi]
   simp only [Option.bind_some]
   obtain ⟨f1, f2⟩ := free_iff.1 hf
   refine .inl ⟨_, rfl, ?_⟩
   rw [y3d (by omega)]
   by_cases e : ls[i].Consumer = v
   ·rw [if_pos (by simp [e]), hs.2 _ hsx.1 hsx.2]
    simp only [Option.bind_some]
    by_cases hin : ls[i].Supplier ∈ out
    ·have : free (ls.take (i + 1)) out v = true := free_iff.2 ⟨f1, fun l hl' hc => by
      rcases (y2r hi).1 hl' with h | h
      ·exact f2 l h hc
      ·subst h; exact hin⟩
     rw [this]; simp [hin, hf]
    ·have : free (ls.take (i + 1)) out v = false := by
      rw [Bool.eq_false_iff]
      intro h
      exact hin ((free_iff.1 h).2 _ ((y2r hi).2 (.inr rfl)) e)
     rw [this]; simp [hin]
   ·rw [if_neg (by simp [e])]
    have : free (ls.take (i + 1)) out v = true := free_iff.2 ⟨f1, fun l hl' hc => by
      rcases (y2r hi).1 hl' with h | h
      ·exact f2 l h hc
      ·subst h; exact absurd hc e⟩
    rw [this]; simp [hf]
  ·rw [Bool.not_eq_true] at hf
   rw [if_neg (by simp [hf])]
   refine .inr ?_
   rw [hf]
   have : free ls out v = false := by
    rw [Bool.eq_false_iff]
    intro h
    obtain ⟨h1, h2⟩ := free_iff.1 h
    rw [free_iff.2 ⟨h1, fun l hl' => h2 l (List.mem_of_mem_take hl')⟩] at hf
    cases hf
   rw [this]
 ·rintro k s rfl
  rw [y2c.l2, if_neg (by simp), List.take_length]

def Down (n : Nat) (ls : List y0g) (out : List Int) (j : Nat) (next : Int) : Prop :=
 (next = -1 ∧ ∀ v : Int, j ≤ v → v < n → free ls out v = false) ∨ (j ≤ next ∧ next < n ∧ free ls out next = true ∧ ∀ v : Int, j ≤ v → v < next → free ls out v = false)
theorem Down.step {n : Nat} {ls : List y0g} {out : List Int} {j : Nat} {next : Int} (h : Down n ls out (j + 1) next) (hj : j < n) : Down n ls out j (if free ls out (j : Int) = true then (j : Int) else next) := by
 by_cases hf : free ls out (j : Int) = true
 ·rw [if_pos hf]; exact .inr ⟨Int.le_refl _, by omega, hf, fun v h1 h2 => by omega⟩
 ·rw [if_neg hf]
  rw [Bool.not_eq_true] at hf
  have at_ : ∀ v : Int, (j : Int) ≤ v → v = j ∨ ((j + 1 : Nat) : Int) ≤ v := fun v h => by omega
  rcases h with ⟨h1, h2⟩ | ⟨h1, h2, h3, h4⟩
  ·exact .inl ⟨h1, fun v h3 h4 => by rcases at_ v h3 with rfl | h; exact hf; exact h2 v h h4⟩
  ·exact .inr ⟨by omega, h2, h3, fun v h5 h6 => by rcases at_ v h5 with rfl | h; exact hf; exact h4 v h h6⟩
theorem Down.zero {n : Nat} {ls : List y0g} {out : List Int} {next : Int} (h : Down n ls out 0 next) : (next = -1 ∧ least n ls out = none) ∨ (0 ≤ next ∧ least n ls out = some next) := by
 rcases h with ⟨h1, h2⟩ | ⟨h1, h2, h3, h4⟩
 ·exact .inl ⟨h1, least_none.2 (fun u h0 hn => h2 u (by omega) hn)⟩
 ·exact .inr ⟨by omega, least_of (by omega) h2 h3 (fun u h0 hu => h4 u (by omega) hu)⟩

theorem remove_l1 {n : Nat} {ls : List y0g} (g : y50 n ls) {gone : List Bool} {out : List Int} (hs : Says n gone out) : ∃ next, y2c.l1 ls gone FUEL (-1) (wi ((n : Int) - 1)) = some next ∧ Down n ls out 0 next := by
 have hn := g.n128
 rw [wi_id (by omega) (by omega)]
 refine loop_m (L := fun k (s : Int × Nat) => y2c.l1 ls gone k s.1 ((s.2 : Int) - 1)) (fun s => s.2 ≤ n ∧ Down n ls out s.2 s.1) (fun s => s.2) (fun o => ∃ next, o = some next ∧ Down n ls out 0 next) ?_ FUEL (-1, n) ⟨Nat.le_refl _, .inl ⟨rfl, fun v h1 h2 => by omega⟩⟩ (y2x (by show n ≤ _; omega))
 rintro k ⟨next, j⟩ ⟨hj, hd⟩
 simp only at hj hd ⊢
 rw [y2c.l1]
 cases j with
 | zero => rw [if_neg (by simp)]; exact .inr ⟨next, rfl, hd⟩
 | succ j =>
  have e : (((j + 1 : Nat) : Int) - 1) = (j : Int) := by omega
  rw [e, if_pos (by simp), hs.2 _ (by omega) (by omega)]
  simp only [Option.bind_some]
  rw [remove_l2 g hs (j : Int) _ (by simp)]
  simp only [Option.bind_some]
  refine .inl ⟨(if free ls out (j : Int) = true then (j : Int) else next, j), ⟨by omega, hd.step (by omega)⟩, by show j < j + 1; omega, ?_⟩
  have e2 : wi ((j : Int) - 1) = (j : Int) - 1 := wi_id (by omega) (by omega)
  rw [e2]
  split <;> rfl

theorem remove_ok {n : Nat} {ls : List y0g} (g : y50 n ls) : ∃ gone, y2c.f (n : Int) ls = some (ord n ls, gone) ∧ Says n gone (ord n ls) := by
 have hn := g.n128
 unfold y2c.f
 rw [mk_ok (by omega)]
 simp only [Option.bind_some]
 refine loop_m (L := fun k (s : List Int × List Bool) => y2c.l0 (n : Int) ls k s.1 s.2) (fun s => Run n ls s.1 ∧ Says n s.2 s.1) (fun s => n - s.1.length) (fun o => ∃ gone, o = some (ord n ls, gone) ∧ Says n gone (ord n ls)) ?_ FUEL ([], _) ⟨.nil, Says.nil n⟩ (y2x (by show n - 0 ≤ _; omega))
 rintro k ⟨out, gone⟩ ⟨hr, hs⟩
 simp only at hr hs ⊢
 have hlen := hr.length_le
 rw [y2c.l0]
 obtain ⟨next, h1, h2⟩ := remove_l1 g hs
 rw [h1]
 simp only [Option.bind_some]
 rcases h2.zero with ⟨rfl, h3⟩ | ⟨h3, h4⟩
 ·rw [if_pos (by decide)]
  have := hr.ord h3
  subst this
  exact .inr ⟨gone, rfl, hs⟩
 ·obtain ⟨q0, q1, _, _⟩ := least_some h4
  rw [if_neg (by simp; omega), hs.2 _ q0 q1]
  simp only [Option.bind_some]
  rw [app_ok (by simp; omega)]
  have hr' := hr.snoc h4
  have := hr'.length_le
  simp only [List.length_append, List.length_singleton] at this
  exact .inl ⟨(out ++ [next], upd gone next true), ⟨hr', hs.snoc h3⟩, by simp; omega, rfl⟩


structure Mat (n : Nat) (m : List (List Bool)) (R : Int → Int → Bool) : Prop where
 len : m.length = n
 row : ∀ a : Int, 0 ≤ a → a < n → ∃ r, idx m a = some r ∧ r.length = n ∧ ∀ b : Int, 0 ≤ b → b < n → idx r b = some (R a b)

theorem Mat.congr {n : Nat} {m : List (List Bool)} {R R' : Int → Int → Bool} (h : Mat n m R) (he : ∀ a b : Int, 0 ≤ a → a < n → 0 ≤ b → b < n → R a b = R' a b) : Mat n m R' :=
 ⟨h.len, fun a a0 a1 => by
  obtain ⟨r, h1, h2, h3⟩ := h.row a a0 a1
  exact ⟨r, h1, h2, fun b b0 b1 => by rw [h3 b b0 b1, he a b a0 a1 b0 b1]⟩⟩
theorem Mat.set {n : Nat} {m : List (List Bool)} {R : Int → Int → Bool} (h : Mat n m R) {a b : Int} (a0 : 0 ≤ a) (a1 : a < n) (b0 : 0 ≤ b) (b1 : b < n) {r : List Bool} (hr : idx m a = some r) : Mat n (upd m a (upd r b true)) (fun x y => R x y || (decide (x = a) && decide (y = b))) := by
 obtain ⟨r', h1, h2, h3⟩ := h.row a a0 a1
 rw [hr] at h1; injection h1 with h1; subst h1
 refine ⟨by rw [y1w]; exact h.len, fun x x0 x1 => ?_⟩
 rw [idx_upd (xs := m) a0 x0 (by rw [h.len]; exact x1)]
 by_cases e : a = x
 ·subst e
  refine ⟨_, by rw [if_pos rfl], by rw [y1w]; exact h2, fun y y0 y1 => ?_⟩
  rw [idx_upd (xs := r) b0 y0 (by rw [h2]; exact y1), h3 y y0 y1]
  by_cases e2 : b = y
  ·subst e2; simp
  ·have e3 : ¬ y = b := fun h => e2 h.symm
   simp [e2, e3]
 ·obtain ⟨r2, q1, q2, q3⟩ := h.row x x0 x1
  have e3 : ¬ x = a := fun h => e h.symm
  refine ⟨r2, by rw [if_neg e]; exact q1, q2, fun y y0 y1 => ?_⟩
  rw [q3 y y0 y1]; simp [e3]

theorem matrix_l0 {n : Nat} (hn : n ≤ 128) : ∃ m, y1g.l0 (n : Int) FUEL (List.replicate n []) 0 = some m ∧ Mat n m (fun _ _ => false) := by
 refine y4o (L := fun k (s : List (List Bool)) i => y1g.l0 (n : Int) k s i) n (fun i s => s.length = n ∧ ∀ a : Int, 0 ≤ a → a < i → ∃ r, idx s a = some r ∧ r.length = n ∧ ∀ b : Int, 0 ≤ b → b < n → idx r b = some false) (fun o => ∃ m, o = some m ∧ Mat n m (fun _ _ => false)) ?_ ?_ FUEL 0 _ (Nat.zero_le _) (y2x (by omega)) ⟨by simp, fun a h0 h1 => by omega⟩
 ·rintro k s i hi ⟨h1, h2⟩
  rw [y1g.l0, if_pos (by simp; omega), mk_ok (by omega), y3u (by omega)]
  simp only [Option.bind_some]
  refine .inl ⟨upd s (i : Int) (List.replicate n false), ⟨by rw [y1w]; exact h1, fun a a0 a1 => ?_⟩, by rw [y3d (by omega)]⟩
  rw [idx_upd (xs := s) (by omega) a0 (by omega)]
  by_cases e : (i : Int) = a
  ·exact ⟨_, by rw [if_pos e], by simp, fun b b0 b1 => idx_replicate b0 b1⟩
  ·obtain ⟨r, q1, q2⟩ := h2 a a0 (by omega)
   exact ⟨r, by rw [if_neg e]; exact q1, q2⟩
 ·rintro k s ⟨h1, h2⟩
  rw [y1g.l0, if_neg (by simp)]
  exact ⟨s, rfl, h1, h2⟩

theorem matrix_l1 {n : Nat} {ls : List y0g} (g : y50 n ls) {m0 : List (List Bool)} (h0 : Mat n m0 (fun _ _ => false)) : ∃ m, y1g.l1 ls FUEL m0 0 = some m ∧ Mat n m (fun a b => decide (y0g.mk a b ∈ ls)) := by
 have hl := g.len
 refine y4o (L := fun k (s : List (List Bool)) i => y1g.l1 ls k s i) ls.length (fun i s => Mat n s (fun a b => decide (y0g.mk a b ∈ ls.take i))) (fun o => ∃ m, o = some m ∧ Mat n m (fun a b => decide (y0g.mk a b ∈ ls))) ?_ ?_ FUEL 0 m0 (Nat.zero_le _) (y2x (by omega)) (h0.congr (fun a b _ _ _ _ => by simp))
 ·intro k s i hi hm
  have hmem := List.getElem_mem hi
  have hc := g.c0 _ hmem
  have hs := g.s0 _ hmem
  obtain ⟨r, q1, q2, q3⟩ := hm.row _ hc.1 hc.2
  rw [y1g.l1, if_pos (by simp; omega), y3u hi]
  simp only [Option.bind_some]
  rw [q1]
  simp only [Option.bind_some]
  rw [q3 _ hs.1 hs.2]
  simp only [Option.bind_some]
  refine .inl ⟨_, (hm.set hc.1 hc.2 hs.1 hs.2 q1).congr (fun a b _ _ _ _ => ?_), by rw [y3d (by omega)]⟩
  rw [Bool.eq_iff_iff]
  simp only [Bool.or_eq_true, Bool.and_eq_true, decide_eq_true_eq, y2r hi]
  constructor
  ·rintro (h | ⟨rfl, rfl⟩)
   ·exact .inl h
   ·exact .inr rfl
  ·rintro (h | h)
   ·exact .inl h
   ·rw [← h]; exact .inr ⟨rfl, rfl⟩
 ·intro k s hm
  rw [y1g.l1, if_neg (by simp)]
  rw [List.take_length] at hm
  exact ⟨s, rfl, hm⟩

theorem matrix_l4 {n : Nat} (hn : n ≤ 128) {R : Int → Int → Bool} {k a : Int} (k0 : 0 ≤ k) (k1 : k < n) (a0 : 0 ≤ a) (a1 : a < n) {m0 : List (List Bool)} (h0 : Mat n m0 R) : ∃ m, y1g.l4 (n : Int) k a FUEL m0 0 = some m ∧ Mat n m (fun x y => R x y || (decide (x = a) && R k y)) := by
 refine y4o (L := fun q (s : List (List Bool)) i => y1g.l4 (n : Int) k a q s i) n (fun i s => Mat n s (fun x y => R x y || (decide (x = a) && decide (y < (i : Int)) && R k y))) (fun o => ∃ m, o = some m ∧ Mat n m (fun x y => R x y || (decide (x = a) && R k y))) ?_ ?_ FUEL 0 m0 (Nat.zero_le _) (y2x (by omega)) (h0.congr (fun x y x0 x1 y0 y1 => by
   have : ¬ y < 0 := by omega
   simp [this]))
 ·intro q s i hi hm
  obtain ⟨r, r1, r2, r3⟩ := hm.row k k0 k1
  rw [y1g.l4, if_pos (by simp; omega), r1]
  simp only [Option.bind_some]
  rw [r3 (i : Int) (by omega) (by omega)]
  simp only [Option.bind_some, Int.lt_irrefl, decide_false, Bool.and_false, Bool.false_and, Bool.or_false]
  by_cases hr : R k (i : Int) = true
  ·rw [if_pos hr]
   obtain ⟨ra, t1, t2, t3⟩ := hm.row a a0 a1
   rw [t1]
   simp only [Option.bind_some]
   rw [t3 (i : Int) (by omega) (by omega)]
   simp only [Option.bind_some]
   refine .inl ⟨_, (hm.set a0 a1 (b := (i : Int)) (by omega) (by omega) t1).congr (fun x y x0 x1 y0 y1 => ?_), by rw [y3d (by omega)]⟩
   rw [Bool.eq_iff_iff]
   simp only [Bool.or_eq_true, Bool.and_eq_true, decide_eq_true_eq]
   constructor
   ·rintro ((h | ⟨⟨h1, h2⟩, h3⟩) | ⟨h1, h2⟩)
    ·exact .inl h
    ·exact .inr ⟨⟨h1, by omega⟩, h3⟩
    ·exact .inr ⟨⟨h1, by omega⟩, by rw [h2]; exact hr⟩
   ·rintro (h | ⟨⟨h1, h2⟩, h3⟩)
    ·exact .inl (.inl h)
    ·by_cases e : y = i
     ·exact .inr ⟨h1, e⟩
     ·exact .inl (.inr ⟨⟨h1, by omega⟩, h3⟩)
  ·rw [if_neg hr]
   refine .inl ⟨s, hm.congr (fun x y x0 x1 y0 y1 => ?_), by rw [y3d (by omega)]; rfl⟩
   rw [Bool.eq_iff_iff]
   simp only [Bool.or_eq_true, Bool.and_eq_true, decide_eq_true_eq]
   constructor
   ·rintro (h | ⟨⟨h1, h2⟩, h3⟩)
    ·exact .inl h
    ·exact .inr ⟨⟨h1, by omega⟩, h3⟩
   ·rintro (h | ⟨⟨h1, h2⟩, h3⟩)
    ·exact .inl h
    ·by_cases e : y = i
     ·subst e; exact absurd h3 hr
     ·exact .inr ⟨⟨h1, by omega⟩, h3⟩
 ·intro q s hm
  rw [y1g.l4, if_neg (by simp)]
  exact ⟨s, rfl, hm.congr (fun x y x0 x1 y0 y1 => by simp [y1])⟩

theorem matrix_l3 {n : Nat} (hn : n ≤ 128) {R : Int → Int → Bool} {k : Int} (k0 : 0 ≤ k) (k1 : k < n) {m0 : List (List Bool)} (h0 : Mat n m0 R) : ∃ m, y1g.l3 (n : Int) k FUEL m0 0 = some m ∧ Mat n m (fun x y => R x y || (R x k && R k y)) := by
 refine y4o (L := fun q (s : List (List Bool)) i => y1g.l3 (n : Int) k q s i) n (fun i s => Mat n s (fun x y => R x y || (decide (x < (i : Int)) && R x k && R k y))) (fun o => ∃ m, o = some m ∧ Mat n m (fun x y => R x y || (R x k && R k y))) ?_ ?_ FUEL 0 m0 (Nat.zero_le _) (y2x (by omega)) (h0.congr (fun x y x0 x1 y0 y1 => by
   have : ¬ x < 0 := by omega
   simp [this]))
 ·intro q s i hi hm
  obtain ⟨r, r1, r2, r3⟩ := hm.row (i : Int) (by omega) (by omega)
  rw [y1g.l3, if_pos (by simp; omega), r1]
  simp only [Option.bind_some]
  rw [r3 k k0 k1]
  simp only [Option.bind_some, Int.lt_irrefl, decide_false, Bool.false_and, Bool.or_false]
  by_cases hr : R (i : Int) k = true
  ·rw [if_neg (by simp [hr])]
   obtain ⟨m', t1, t2⟩ := matrix_l4 hn k0 k1 (a := (i : Int)) (by omega) (by omega) hm
   rw [t1]
   refine .inl ⟨m', t2.congr (fun x y x0 x1 y0 y1 => ?_), by rw [y3d (by omega)]; rfl⟩
   rw [Bool.eq_iff_iff]
   simp only [Bool.or_eq_true, Bool.and_eq_true, decide_eq_true_eq]
   constructor
   ·rintro ((h | ⟨⟨h1, h2⟩, h3⟩) | ⟨h1, h2⟩)
    ·exact .inl h
    ·exact .inr ⟨⟨by omega, h2⟩, h3⟩
    ·refine .inr ⟨⟨by omega, by rw [h1]; exact hr⟩, ?_⟩
     rcases h2 with h2 | ⟨_, h2⟩ <;> exact h2
   ·rintro (h | ⟨⟨h1, h2⟩, h3⟩)
    ·exact .inl (.inl h)
    ·by_cases e : x = i
     ·exact .inr ⟨e, .inl h3⟩
     ·exact .inl (.inr ⟨⟨by omega, h2⟩, h3⟩)
  ·rw [if_pos (by simp [hr])]
   refine .inl ⟨s, hm.congr (fun x y x0 x1 y0 y1 => ?_), by rw [y3d (by omega)]; rfl⟩
   rw [Bool.eq_iff_iff]
   simp only [Bool.or_eq_true, Bool.and_eq_true, decide_eq_true_eq]
   constructor
   ·rintro (h | ⟨⟨h1, h2⟩, h3⟩)
    ·exact .inl h
    ·exact .inr ⟨⟨by omega, h2⟩, h3⟩
   ·rintro (h | ⟨⟨h1, h2⟩, h3⟩)
    ·exact .inl h
    ·by_cases e : x = i
     ·subst e; exact absurd h2 hr
     ·exact .inr ⟨⟨by omega, h2⟩, h3⟩
 ·intro q s hm
  rw [y1g.l3, if_neg (by simp)]
  exact ⟨s, rfl, hm.congr (fun x y x0 x1 y0 y1 => by simp [x1])⟩

theorem matrix_ok {n : Nat} {ls : List y0g} (g : y50 n ls) : ∃ m R, y1g.f (n : Int) ls = some m ∧ Mat n m R ∧ ∀ a b : Int, R a b = true ↔ Path ls a b := by
 have hn := g.n128
 unfold y1g.f
 rw [mk_ok (by omega)]
 simp only [Option.bind_some]
 obtain ⟨m1, e1, h1⟩ := matrix_l0 (n := n) hn
 rw [e1]
 simp only [Option.bind_some]
 obtain ⟨m2, e2, h2⟩ := matrix_l1 g h1
 rw [e2]
 simp only [Option.bind_some]
 have key : ∃ m, y1g.l2 (n : Int) FUEL m2 0 = some m ∧ ∃ R, Mat n m R ∧ ∀ a b : Int, R a b = true ↔ Path ls a b := by
  refine y4o (L := fun q (s : List (List Bool)) i => y1g.l2 (n : Int) q s i) n
   (fun i s => ∃ R, Mat n s R ∧ (∀ a b : Int, R a b = true → Path ls a b) ∧ (∀ a b, y0g.mk a b ∈ ls → R a b = true) ∧ ∀ j : Int, 0 ≤ j → j < i → ∀ a b : Int, R a j = true → R j b = true → R a b = true)
   (fun o => ∃ m, o = some m ∧ ∃ R, Mat n m R ∧ ∀ a b : Int, R a b = true ↔ Path ls a b) ?_ ?_ FUEL 0 m2 (Nat.zero_le _) (y2x (by omega)) ⟨_, h2, fun a b h => .one (by simpa using h), fun a b h => by simpa using h, fun j h0 h1 => by omega⟩
  ·rintro q s i hi ⟨R, hm, s1, s2, s3⟩
   rw [y1g.l2, if_pos (by simp; omega)]
   obtain ⟨m', t1, t2⟩ := matrix_l3 hn (k := (i : Int)) (by omega) (by omega) hm
   rw [t1]
   refine .inl ⟨m', ⟨_, t2, ?_, ?_, ?_⟩, by rw [y3d (by omega)]; rfl⟩
   all_goals simp only [Bool.or_eq_true, Bool.and_eq_true]
   ·rintro a b (h | ⟨h1, h2⟩)
    ·exact s1 a b h
    ·exact (s1 _ _ h1).trans (s1 _ _ h2)
   ·intro a b h; exact .inl (s2 a b h)
   ·intro j j0 j1 a b ha hb
    by_cases e : j = i
    ·subst e
     have ha' : R a (i : Int) = true := by rcases ha with h | ⟨h, _⟩ <;> exact h
     have hb' : R (i : Int) b = true := by rcases hb with h | ⟨_, h⟩ <;> exact h
     exact .inr ⟨ha', hb'⟩
    ·have c := s3 j j0 (by omega)
     rcases ha with h | ⟨h1, h2⟩
     ·rcases hb with h' | ⟨h3, h4⟩
      ·exact .inl (c a b h h')
      ·exact .inr ⟨c a i h h3, h4⟩
     ·rcases hb with h' | ⟨h3, h4⟩
      ·exact .inr ⟨h1, c i b h2 h'⟩
      ·exact .inr ⟨h1, h4⟩
  ·rintro q s ⟨R, hm, s1, s2, s3⟩
   rw [y1g.l2, if_neg (by simp)]
   refine ⟨s, rfl, R, hm, fun a b => ⟨s1 a b, fun h => ?_⟩⟩
   induction h with
   | one h => exact s2 _ _ h
   | more h _ ih =>
    have := g.s0 _ h
    exact s3 _ this.1 this.2 _ _ (s2 _ _ h) ih
 obtain ⟨m, e3, R, h3, h4⟩ := key
 rw [e3]
 exact ⟨m, R, rfl, h3, h4⟩

theorem refcheck_good {n : Nat} {ls : List y0g} (g : y50 n ls) : (y1g.f (n : Int) ls).bind (fun r16 => (y3i.l0 (n : Int) r16 FUEL 0 : Option (Fl (Int) (Unit))).bind fun o26 => o26.go fun _ => some 0) = some (if (ord n ls).length < n then 18 else 0) := by
 have hn := g.n128
 obtain ⟨m, R, e1, hm, hR⟩ := matrix_ok g
 rw [e1]
 simp only [Option.bind_some]
 have key : y3i.l0 (n : Int) m FUEL 0 = some (if (ord n ls).length < n then .out 18 else .nxt ()) := by
  refine y4o (L := fun q (_ : Unit) i => y3i.l0 (n : Int) m q i) n (fun i _ => ∀ a : Int, 0 ≤ a → a < i → ¬ Path ls a a) (fun o => o = some (if (ord n ls).length < n then .out 18 else .nxt ())) ?_ ?_ FUEL 0 () (Nat.zero_le _) (y2x (by omega)) (fun a h0 h1 => by omega)
  ·intro q _ i hi hI
   obtain ⟨r, r1, r2, r3⟩ := hm.row (i : Int) (by omega) (by omega)
   rw [y3i.l0, if_pos (by simp; omega), r1]
   simp only [Option.bind_some]
   rw [r3 (i : Int) (by omega) (by omega)]
   simp only [Option.bind_some]
   by_cases hc : R (i : Int) (i : Int) = true
   ·rw [if_pos hc]
    refine .inr ?_
    rw [if_pos]
    refine Classical.byContradiction fun hno => ?_
    exact (ord_run n ls).1.acyclic (i : Int) (ord_full hno (by omega) (by omega)) ((hR _ _).1 hc)
   ·rw [if_neg hc]
    refine .inl ⟨(), fun a a0 a1 => ?_, by rw [y3d (by omega)]⟩
    by_cases e : a = i
    ·subst e; exact fun h => hc ((hR _ _).2 h)
    ·exact hI a a0 (by omega)
  ·intro q _ hI
   rw [y3i.l0, if_neg (by simp)]
   rw [if_neg]
   intro h
   obtain ⟨i, i0, i1, hp⟩ := ord_cyclic g h
   exact hI i i0 i1 hp
 rw [key]
 split <;> rfl

theorem refcheck_ok (p : Int) (ls : List y0g) (h : ls.length ≤ maxLen) : y3i.f p ls = some (ccode p ls) := by
 unfold y3i.f
 rw [basic_ok p ls h]
 simp only [Option.bind_some]
 by_cases hv : vcode p ls = 0
 ·obtain ⟨n, rfl, g⟩ := vcode_good hv
  rw [if_neg (by simp [hv]), ccode_good g]
  exact refcheck_good g
 ·rw [if_pos (by simpa using hv)]
  unfold ccode; rw [if_neg hv]

theorem reforder_ok (p : Int) (ls : List y0g) (h : ls.length ≤ maxLen) : ref24_Order.f p ls = some (ores p ls) := by
 unfold ref24_Order.f
 rw [refcheck_ok p ls h]
 simp only [Option.bind_some]
 unfold ores
 by_cases hv : ccode p ls = 0
 ·have hv2 : vcode p ls = 0 := by
   unfold ccode at hv
   split at hv
   ·assumption
   ·exact hv
  obtain ⟨n, rfl, g⟩ := vcode_good hv2
  rw [if_neg (by simp [hv]), if_pos hv]
  obtain ⟨gone, e, _⟩ := remove_ok g
  rw [e]; rfl
 ·rw [if_pos (by simpa using hv), if_neg hv]


end Go.Proofs.Ytcfcffbjdjacfaa.Sim

namespace Go.Proofs.Ytcfcffbjdjacfaa.Sim
open Go
set_option linter.unusedVariables false
set_option maxRecDepth 100000

theorem refclos_l3 {n : Nat} (hn : n ≤ 128) {r : List Bool} {S : Int → Prop} (h : Fl1 n r S) : y1f.l3 (n : Int) r FUEL [] 0 = some (upto n S) := by
 refine y4o (L := fun k (s : List Int) i => y1f.l3 (n : Int) r k s i) n (fun i s => s = upto i S) (fun o => o = some (upto n S)) ?_ ?_ FUEL 0 [] (Nat.zero_le _) (y2x (by omega)) (by simp [upto, below])
 ·rintro k s i hi rfl
  have hlen := upto_len i S
  rw [y1f.l3, if_pos (by simp; omega)]
  refine .inl ⟨upto (i + 1) S, rfl, ?_⟩
  rw [y3d (by omega)]
  by_cases hs : S (i : Int)
  ·rw [h.true_ (by omega) (by omega) hs, (upto_succ i S).1 hs]
   simp only [Option.bind_some, if_true]
   rw [app_ok (by simp; omega)]; rfl
  ·rw [h.false_ (by omega) (by omega) hs, (upto_succ i S).2 hs]
   simp
 ·rintro k s rfl
  rw [y1f.l3, if_neg (by simp)]


theorem refclos_l0 {n : Nat} (hn : n ≤ 128) (of : List Int) (hof : of.length ≤ maxLen) :
  (of.any (badV n) = true ∧ y1f.l0 (n : Int) of FUEL (List.replicate n false) 0 = some (.out ([], 1))) ∨
  (of.any (badV n) = false ∧ ∃ r, y1f.l0 (n : Int) of FUEL (List.replicate n false) 0 = some (.nxt r) ∧ Fl1 n r (fun v => v ∈ of)) := by
 rw [maxLen_eq] at hof
 refine y4o (L := fun k (s : List Bool) i => y1f.l0 (n : Int) of k s i) of.length (fun i s => (of.take i).any (badV n) = false ∧ Fl1 n s (fun v => v ∈ of.take i))
  (fun x => (of.any (badV n) = true ∧ x = some (.out ([], 1))) ∨ (of.any (badV n) = false ∧ ∃ r, x = some (.nxt r) ∧ Fl1 n r (fun v => v ∈ of))) ?_ ?_ FUEL 0 _ (Nat.zero_le _) (y2x (by omega)) ⟨by simp, (Fl1.empty n).congr (by simp)⟩
 ·rintro k r i hi ⟨h1, h2⟩
  rw [y1f.l0, if_pos (by simp; omega), y3u hi]
  simp only [Option.bind_some]
  by_cases hb : badV n of[i] = true
  ·rw [if_pos (show ((decide (of[i] < 0)) || (decide ((n : Int) ≤ of[i]))) = true from hb)]
   exact .inr (.inl ⟨List.any_eq_true.2 ⟨_, List.getElem_mem hi, hb⟩, rfl⟩)
  ·rw [if_neg (show ¬ ((decide (of[i] < 0)) || (decide ((n : Int) ≤ of[i]))) = true from hb)]
   rw [Bool.not_eq_true] at hb
   obtain ⟨v0, v1⟩ := badV_iff.1 hb
   obtain ⟨b, e, _⟩ := h2.say _ v0 v1
   rw [e]
   simp only [Option.bind_some]
   refine .inl ⟨upd r of[i] true, ⟨(any_take_false hi).2 ⟨h1, hb⟩, (h2.set v0).congr (fun v _ _ => by rw [y2r hi]; exact or_comm)⟩, by rw [y3d (by omega)]⟩
 ·rintro k r ⟨h1, h2⟩
  rw [y1f.l0, if_neg (by simp)]
  rw [List.take_length] at h1 h2
  exact .inr ⟨h1, r, rfl, h2⟩

def fr (down : Bool) (l : y0g) : Int := if down = true then l.Consumer else l.Supplier
def to (down : Bool) (l : y0g) : Int := if down = true then l.Supplier else l.Consumer

theorem refclos_l2 {n : Nat} {ls : List y0g} (g : y50 n ls) (down : Bool) {of : List Int} {r : List Bool} {S : Int → Prop} (hf : Fl1 n r S) (hs : ∀ v, S v → (0 ≤ v ∧ v < (n : Int)) → Rch down ls of v) :
  ∃ r' S', y1f.l2 ls down FUEL r 0 = some r' ∧ Fl1 n r' S' ∧ (∀ v, S v → S' v) ∧ (∀ v, S' v → (0 ≤ v ∧ v < (n : Int)) → Rch down ls of v) ∧ ((r' = r ∧ ∀ l ∈ ls, S (fr down l) → S (to down l)) ∨ r.count true + 1 ≤ r'.count true) := by
 have hl := g.len
 refine y4o (L := fun k (s : List Bool) i => y1f.l2 ls down k s i) ls.length
  (fun i s => ∃ S', Fl1 n s S' ∧ (∀ v, S v → S' v) ∧ (∀ v, S' v → (0 ≤ v ∧ v < (n : Int)) → Rch down ls of v) ∧ ((s = r ∧ (∀ v : Int, 0 ≤ v → v < n → (S' v ↔ S v)) ∧ ∀ l ∈ ls.take i, S (fr down l) → S (to down l)) ∨ r.count true + 1 ≤ s.count true))
  (fun q => ∃ r' S', q = some r' ∧ Fl1 n r' S' ∧ (∀ v, S v → S' v) ∧ (∀ v, S' v → (0 ≤ v ∧ v < (n : Int)) → Rch down ls of v) ∧ ((r' = r ∧ ∀ l ∈ ls, S (fr down l) → S (to down l)) ∨ r.count true + 1 ≤ r'.count true)) ?_ ?_ FUEL 0 r (Nat.zero_le _) (y2x (by omega))
  ⟨S, hf, fun _ h => h, hs, .inl ⟨rfl, fun _ _ _ => Iff.rfl, by simp⟩⟩
 ·rintro k s i hi ⟨S1, i1, i2, i3, i4⟩
  have hm := List.getElem_mem hi
  have hc := g.c0 _ hm
  have hsu := g.s0 _ hm
  have hfr : 0 ≤ fr down ls[i] ∧ fr down ls[i] < (n : Int) := by unfold fr; split <;> assumption
  have hto : 0 ≤ to down ls[i] ∧ to down ls[i] < (n : Int) := by unfold to; split <;> assumption
  obtain ⟨bf, ef, hbf⟩ := i1.say _ hfr.1 hfr.2
  obtain ⟨bt, et, hbt⟩ := i1.say _ hto.1 hto.2
  have step : y1f.l2 ls down (k + 1) s (i : Int) = y1f.l2 ls down k (if bf = true then upd s (to down ls[i]) true else s) ((i + 1 : Nat) : Int) := by
   rw [y1f.l2, if_pos (by simp; omega), y3u hi]
   simp only [Option.bind_some]
   rw [y3d (by omega)]
   cases down
   ·simp only [fr, to, Bool.false_eq_true, if_false] at ef et ⊢
    simp only [Option.bind_some, Bool.false_eq_true, if_false, Bool.not_false, if_true]
    rw [ef]
    simp only [Option.bind_some]
    cases bf
    ·rfl
    ·simp only [if_true]
     rw [et]; rfl
   ·simp only [fr, to, if_true] at ef et ⊢
    rw [ef]
    simp only [Option.bind_some]
    cases bf
    ·rfl
    ·simp only [if_true]
     rw [et]; rfl
  rw [step]
  have rch : S1 (fr down ls[i]) → Rch down ls of (to down ls[i]) := fun h => by
   obtain ⟨a, ha, e⟩ := i3 _ h hfr
   refine ⟨a, ha, .inr ?_⟩
   cases down
   ·simp only [fr, to, Bool.false_eq_true, if_false] at e ⊢
    have hlk : y0g.mk ls[i].Consumer ls[i].Supplier ∈ ls := hm
    rcases e with e | e
    ·rw [← e]; exact .one hlk
    ·exact .more hlk e
   ·simp only [fr, to, if_true] at e ⊢
    have hlk : y0g.mk ls[i].Consumer ls[i].Supplier ∈ ls := hm
    rcases e with e | e
    ·rw [← e]; exact .one hlk
    ·exact e.trans (.one hlk)
  cases bf
  ·refine .inl ⟨s, ⟨S1, i1, i2, i3, ?_⟩, rfl⟩
   rcases i4 with ⟨q1, q2, q3⟩ | q
   ·refine .inl ⟨q1, q2, fun l hl' h => ?_⟩
    rcases (y2r hi).1 hl' with h' | h'
    ·exact q3 l h' h
    ·subst h'
     have := hbf.2 ((q2 _ hfr.1 hfr.2).2 h)
     cases this
   ·exact .inr q
  ·have hsf := hbf.1 rfl
   refine .inl ⟨_, ⟨fun v => v = to down ls[i] ∨ S1 v, i1.set hto.1, fun v h => .inr (i2 v h), ?_, ?_⟩, by simp⟩
   ·rintro v (rfl | h) hv
    ·exact rch hsf
    ·exact i3 v h hv
   ·cases bt
    ·have hcount := count_upd et
     rcases i4 with ⟨q1, q2, q3⟩ | q
     ·right; rw [hcount, q1]; omega
     ·right; rw [hcount]; omega
    ·have hst := hbt.1 rfl
     rw [upd_same et]
     rcases i4 with ⟨q1, q2, q3⟩ | q
     ·refine .inl ⟨q1, fun v v0 v1 => ⟨fun h => ?_, fun h => .inr ((q2 v v0 v1).2 h)⟩, fun l hl' h => ?_⟩
      ·rcases h with rfl | h
       ·exact (q2 _ hto.1 hto.2).1 hst
       ·exact (q2 v v0 v1).1 h
      ·rcases (y2r hi).1 hl' with h' | h'
       ·exact q3 l h' h
       ·subst h'; exact (q2 _ hto.1 hto.2).1 hst
     ·exact .inr q
 ·rintro k s ⟨S1, i1, i2, i3, i4⟩
  rw [y1f.l2, if_neg (by simp)]
  rw [List.take_length] at i4
  refine ⟨s, S1, rfl, i1, i2, i3, ?_⟩
  rcases i4 with ⟨q1, q2, q3⟩ | q
  ·exact .inl ⟨q1, q3⟩
  ·exact .inr q

theorem rch_closed2 {n : Nat} {ls : List y0g} (g : y50 n ls) {down : Bool} {of : List Int} {S : Int → Prop} (h0 : ∀ v ∈ of, S v) (h1 : ∀ l ∈ ls, S (fr down l) → S (to down l)) : ∀ v, Rch down ls of v → S v := by
 rintro v ⟨a, ha, e⟩
 cases down
 ·simp only [Bool.false_eq_true, if_false] at e
  rcases e with rfl | e
  ·exact h0 _ ha
  ·induction e with
   | one h => exact h1 _ h (h0 _ ha)
   | more h _ ih => exact h1 _ h (ih ha)
 ·simp only [if_true] at e
  rcases e with rfl | e
  ·exact h0 _ ha
  ·have key : ∀ {a b : Int}, Path ls a b → S a → S b := by
    intro a b hp
    induction hp with
    | one h => exact fun hs => h1 _ h hs
    | more h _ ih => exact fun hs => ih (h1 _ h hs)
   exact key e (h0 _ ha)

theorem refclosure_good {n : Nat} {ls : List y0g} (g : y50 n ls) (down : Bool) (of : List Int) (hof : of.length ≤ maxLen) :
  ((mk (n : Int) false).bind fun y17 => (y1f.l0 (n : Int) of FUEL y17 0 : Option (Fl ((List Int) × Int) ((List Bool)))).bind fun o28 => o28.go fun v27 => (y1f.l1 (n : Int) ls down FUEL v27 0 : Option ((List Bool))).bind fun v85 => (y1f.l3 (n : Int) v85 FUEL [] 0 : Option ((List Int))).bind fun v210 => some (v210, 0)) = some (if of.any (badV n) = true then ([], 1) else (upto n (Rch down ls of), 0)) := by
 have hn := g.n128
 rw [mk_ok (by omega), Option.bind_some]
 rcases refclos_l0 hn of hof with ⟨h1, h2⟩ | ⟨h1, r, h2, h3⟩
 ·rw [h2, if_pos h1]; rfl
 ·rw [h2, h1, Option.bind_some]
  have key : ∃ r', y1f.l1 (n : Int) ls down FUEL r 0 = some r' ∧ Fl1 n r' (Rch down ls of) := by
   refine y4o (L := fun k (s : List Bool) i => y1f.l1 (n : Int) ls down k s i) n
    (fun i s => ∃ S, Fl1 n s S ∧ (∀ v ∈ of, S v) ∧ (∀ v, S v → (0 ≤ v ∧ v < (n : Int)) → Rch down ls of v) ∧ ((∀ l ∈ ls, S (fr down l) → S (to down l)) ∨ (i + 1 ≤ s.count true ∧ of ≠ [])))
    (fun q => ∃ r', q = some r' ∧ Fl1 n r' (Rch down ls of)) ?_ ?_ FUEL 0 r (Nat.zero_le _) (y2x (by omega)) ⟨fun v => v ∈ of, h3, fun _ h => h, fun v h _ => ⟨v, h, .inl rfl⟩, ?_⟩
   ·rintro k s i hi ⟨S, i1, i2, i3, i4⟩
    rw [y1f.l1, if_pos (by simp; omega)]
    obtain ⟨r', S', q1, q2, q3, q4, q5⟩ := refclos_l2 g down i1 i3
    rw [q1]
    rcases i4 with c | ⟨c, ne⟩
    ·rcases q5 with ⟨e, _⟩ | q5
     ·subst e
      exact .inl ⟨r', ⟨S, i1, i2, i3, .inl c⟩, by rw [y3d (by omega)]; rfl⟩
     ·-- a closed set does not grow
      have hc := rch_closed2 g i2 c
      refine .inl ⟨r', ⟨S', q2, fun v h => q3 v (i2 v h), q4, .inl fun l hl h => ?_⟩, by rw [y3d (by omega)]; rfl⟩
      have hfr : 0 ≤ fr down l ∧ fr down l < (n : Int) := by unfold fr; split; exact g.c0 _ hl; exact g.s0 _ hl
      exact q3 _ (c l hl (hc _ (q4 _ h hfr)))
    ·rcases q5 with ⟨e, cl⟩ | q5
     ·subst e
      exact .inl ⟨r', ⟨S, i1, i2, i3, .inl cl⟩, by rw [y3d (by omega)]; rfl⟩
     ·exact .inl ⟨r', ⟨S', q2, fun v h => q3 v (i2 v h), q4, .inr ⟨by omega, ne⟩⟩, by rw [y3d (by omega)]; rfl⟩
   ·rintro k s ⟨S, i1, i2, i3, i4⟩
    rw [y1f.l1, if_neg (by simp)]
    rcases i4 with c | ⟨c, _⟩
    ·have hc := rch_closed2 g i2 c
     exact ⟨s, rfl, i1.congr (fun v v0 v1 => ⟨fun h => i3 v h ⟨v0, v1⟩, hc v⟩)⟩
    ·have := List.count_le_length (a := true) (l := s)
     rw [i1.len] at this
     omega
   ·by_cases ne : of = []
    ·subst ne; exact .inl (fun l hl h => by simp at h)
    ·refine .inr ⟨?_, ne⟩
     obtain ⟨x, hx⟩ := List.exists_mem_of_ne_nil of ne
     rw [List.any_eq_false] at h1
     have hb := h1 x hx
     rw [Bool.not_eq_true] at hb
     obtain ⟨x0, x1⟩ := badV_iff.1 hb
     have := h3.true_ x0 x1 hx
     rw [idx_nat x0] at this
     have := List.count_pos_iff.2 (List.mem_of_getElem? this)
     omega
  obtain ⟨r', q1, q2⟩ := key
  show (y1f.l1 (n : Int) ls down FUEL r 0).bind _ = _
  rw [q1, Option.bind_some, refclos_l3 hn q2]
  rfl

theorem refclosure_ok (p : Int) (ls : List y0g) (of : List Int) (down : Bool) (h : ls.length ≤ maxLen) (hof : of.length ≤ maxLen) : y1f.f p ls of down = some (clres down p ls of) := by
 unfold y1f.f
 rw [basic_ok p ls h, Option.bind_some]
 by_cases hv : vcode p ls = 0
 ·obtain ⟨n, rfl, g⟩ := vcode_good hv
  rw [if_neg (by simp [hv]), clres_good g]
  exact refclosure_good g down of hof
 ·rw [if_pos (by simpa using hv), clres_bad hv]

theorem refsuppliers_ok (p : Int) (ls : List y0g) (of : List Int) (h : ls.length ≤ maxLen) (hof : of.length ≤ maxLen) : y4e.f p ls of = some (clres true p ls of) := by
 unfold y4e.f
 rw [refclosure_ok p ls of true h hof]; rfl

end Go.Proofs.Ytcfcffbjdjacfaa.Sim

namespace Go.Proofs.Ytcfcffbjdjacfaa.Sim
open Go
set_option linter.unusedVariables false
set_option maxRecDepth 100000

structure RR (n : Nat) (ls : List y0g) (de : Int → Int) (r : y06) (m : Pm) : Prop where
 dn : r.D.length = n
 dd : ∀ i : Int, 0 ≤ i → i < n → ∃ x, idx r.D i = some x ∧ x.Delay = de i
 lk : r.Links = ls
 on : RepV n r.On m.act
 us : RepV n r.Use m.cnt
 si : RepV n r.Since m.idl
 ck : r.Clock = m.now

section
variable {n : Nat} {ls : List y0g} {de : Int → Int} {m : Pm} {r : y06}

theorem refidle_ok (g : y50 n ls) (R : RR n ls de r m) (hc : ∀ k, 0 ≤ m.cnt k) {k : Int} (h0 : 0 ≤ k) (h1 : k < n) : y21.f r k = some (idle ls m k) := by
 have hll := g.len
 have hck := hc k
 unfold y21.f
 rw [R.on.2 k h0 h1, Option.bind_some]
 cases ha : m.act k
 ·rw [if_pos (by simp), Option.bind_some, if_pos rfl]
  congr 1
  symm
  rw [Bool.eq_false_iff]
  exact fun h => by rw [(idle_iff.1 h).1] at ha; cases ha
 ·rw [if_neg (by simp), R.us.2 k h0 h1, Option.bind_some, Option.bind_some]
  by_cases hz : m.cnt k = 0
  ·rw [if_neg (by rw [hz]; simp)]
   have key : y21.l0 r k FUEL 0 = some (if ls.any (fun l => decide (l.Supplier = k) && m.act l.Consumer) = true then .out false else .nxt ()) := by
    refine y4o (L := fun q (_ : Unit) i => y21.l0 r k q i) ls.length (fun i _ => ∀ x ∈ ls.take i, (decide (x.Supplier = k) && m.act x.Consumer) = false) (fun o => o = some (if ls.any (fun l => decide (l.Supplier = k) && m.act l.Consumer) = true then .out false else .nxt ())) ?_ ?_ FUEL 0 () (Nat.zero_le _) (y2x (by omega)) (by simp)
    ·intro q _ i hi hI
     have hm := List.getElem_mem hi
     have hr := g.c0 _ hm
     rw [y21.l0, R.lk, if_pos (by simp; omega), y3u hi, Option.bind_some, R.on.2 _ hr.1 hr.2, Option.bind_some, y3d (by omega)]
     have hcond : (if (ls[i].Supplier == k) = true then some (m.act ls[i].Consumer) else some false) = some (decide (ls[i].Supplier = k) && m.act ls[i].Consumer) := by
      by_cases e : ls[i].Supplier = k
      ·rw [if_pos (by simpa using e)]; simp [e]
      ·rw [if_neg (by simpa using e)]; simp [e]
     rw [hcond, Option.bind_some]
     by_cases hp : (decide (ls[i].Supplier = k) && m.act ls[i].Consumer) = true
     ·rw [if_pos hp]
      refine .inr ?_
      rw [if_pos (List.any_eq_true.2 ⟨_, hm, hp⟩)]
     ·rw [if_neg hp]
      refine .inl ⟨(), fun x hx => ?_, rfl⟩
      rcases (y2r hi).1 hx with h | h
      ·exact hI x h
      ·rw [h]; simpa using hp
    ·intro q _ hI
     rw [y21.l0, R.lk, if_neg (by simp)]
     rw [List.take_length] at hI
     rw [if_neg]
     intro h
     obtain ⟨x, h1, h2⟩ := List.any_eq_true.1 h
     rw [hI x h1] at h2; cases h2
   rw [key]
   have hid : idle ls m k = !(ls.any (fun l => decide (l.Supplier = k) && m.act l.Consumer)) := by
    unfold idle
    rw [ha, List.all_eq_not_any_not]
    simp [hz]
   rw [hid]
   cases ls.any (fun l => decide (l.Supplier = k) && m.act l.Consumer) <;> rfl
  ·rw [if_pos (by simp only [decide_eq_true_eq]; omega)]
   congr 1
   symm
   rw [Bool.eq_false_iff]
   exact fun h => hz (idle_iff.1 h).2.1

theorem refexp_at (R : RR n ls de r m) (B : Tb de m) {k : Int} (h0 : 0 ≤ k) (h1 : k < n) : ∃ x, idx r.D k = some x ∧ idx r.Since k = some (m.idl k) ∧ wu (m.idl k + x.Delay) = m.idl k + de k := by
 obtain ⟨x, e, hx⟩ := R.dd k h0 h1
 have hd := B.d k
 have hi := B.i k
 exact ⟨x, e, R.si.2 k h0 h1, by rw [hx, wu_id (by omega) (by omega)]⟩

theorem first_ok (g : y50 n ls) (R : RR n ls de r m) (hc : ∀ k, 0 ≤ m.cnt k) (B : Tb de m) : y25.f r = some (enc (nxTo ls de m n)).1 := by
 have hn := g.n128
 unfold y25.f
 have key : y25.l0 r FUEL (-1) 0 = some (enc (nxTo ls de m n)).1 := by
  refine y4o (L := fun k (s : Int) i => y25.l0 r k s i) n (fun i s => s = (enc (nxTo ls de m i)).1) (fun o => o = some (enc (nxTo ls de m n)).1) ?_ ?_ FUEL 0 (-1) (Nat.zero_le _) (y2x (by omega)) rfl
  ·rintro k s i hi rfl
   obtain ⟨x, e1, e2, e3⟩ := refexp_at R B (k := (i : Int)) (by omega) (by omega)
   rw [y25.l0, R.dn, if_pos (by simp; omega), refidle_ok g R hc (by omega) (by omega), Option.bind_some, y3d (by omega)]
   refine .inl ⟨(enc (nxTo ls de m (i + 1))).1, rfl, ?_⟩
   rw [nxTo]
   cases hid : idle ls m (i : Int)
   ·rw [if_neg (by simp), Option.bind_some, if_neg (by simp), if_neg (by simp), Option.bind_some]
   ·rw [if_pos rfl]
    cases hz : nxTo ls de m i with
    | none =>
     rw [if_pos (show decide ((enc none).1 < 0) = true from rfl), Option.bind_some, Option.bind_some, if_pos rfl, if_pos ⟨rfl, fun z h => by cases h⟩, Option.bind_some]; rfl
    | some z =>
     obtain ⟨⟨h0, h1⟩, _, ez, _⟩ := nxTo_some (k := z.1) (t := z.2) hz
     obtain ⟨y, f1, f2, f3⟩ := refexp_at R B (k := z.1) h0 (by omega)
     rw [show (enc (some z)).1 = z.1 from rfl, if_neg (by simp only [decide_eq_true_eq]; omega), e1, e2, Option.bind_some, Option.bind_some, f1, f2, Option.bind_some, Option.bind_some, Option.bind_some, e3, f3, ← ez, Option.bind_some]
     by_cases c : m.idl i + de i < z.2
     ·rw [if_pos (by simpa using c), if_pos ⟨rfl, fun z' h => by injection h with h; subst h; exact c⟩, Option.bind_some]; rfl
     ·rw [if_neg (by simpa using c), if_neg (fun h => c (h.2 z rfl)), Option.bind_some]; rfl
  ·rintro k s rfl
   rw [y25.l0, R.dn, if_neg (by simp)]
 rw [key]; rfl

theorem refexpire_l1 (g : y50 n ls) {k at_ x0 : Int} {ops : List y0e} {x : y08} (hat : wu (x0 + x.Delay) = at_) {m : Pm} (hc : ∀ k, 0 ≤ m.cnt k) {r : y06} (R : RR n ls de r { m with act := fset m.act k false }) :
  ∃ r', y15.l1 k x0 x ops FUEL r 0 = some (.nxt (r', ops)) ∧ RR n ls de r' (off1 ls m k at_) := by
 have hll := g.len
 let m0 : Pm := { m with act := fset m.act k false }
 let mi : Nat → Pm := fun j => { m0 with idl := fun s => if (ls.take j).any (fun l => decide (l.Consumer = k) && decide (l.Supplier = s)) && idle ls m0 s then at_ else m.idl s }
 have hid : ∀ j, idle ls (mi j) = idle ls m0 := fun j => rfl
 have key : ∃ r', y15.l1 k x0 x ops FUEL r 0 = some (.nxt (r', ops)) ∧ RR n ls de r' (mi ls.length) := by
  refine y4o (L := fun q (s : y06) i => y15.l1 k x0 x ops q s i) ls.length (fun j s => RR n ls de s (mi j)) (fun o => ∃ r', o = some (.nxt (r', ops)) ∧ RR n ls de r' (mi ls.length)) ?_ ?_ FUEL 0 r (Nat.zero_le _) (y2x (by omega)) ?_
  ·intro q s j hj hI
   have hm := List.getElem_mem hj
   obtain ⟨s0, s1⟩ := g.s0 _ hm
   rw [y15.l1, hI.lk, if_pos (by simp; omega), y3u hj, Option.bind_some, refidle_ok g hI hc s0 s1, Option.bind_some, y3d (by omega), hid]
   have hstep : ∀ s', (mi (j + 1)).idl s' = if ls[j].Consumer = k ∧ ls[j].Supplier = s' ∧ idle ls m0 s' = true then at_ else (mi j).idl s' := fun s' => by
    show (if (ls.take (j + 1)).any (fun l => decide (l.Consumer = k) && decide (l.Supplier = s')) && idle ls m0 s' then at_ else m.idl s') = (if _ then at_ else (if (ls.take j).any (fun l => decide (l.Consumer = k) && decide (l.Supplier = s')) && idle ls m0 s' then at_ else m.idl s'))
    rw [List.take_succ_eq_append_getElem hj, List.any_append]
    simp only [List.any_cons, List.any_nil, Bool.or_false]
    by_cases a : (ls.take j).any (fun l => decide (l.Consumer = k) && decide (l.Supplier = s')) = true
    ·rw [a]
     cases idle ls m0 s' <;> simp
    ·rw [Bool.not_eq_true] at a
     rw [a]
     by_cases b : ls[j].Consumer = k <;> by_cases c : ls[j].Supplier = s' <;> cases idle ls m0 s' <;> simp [b, c]
   by_cases c : ls[j].Consumer = k ∧ idle ls m0 ls[j].Supplier = true
   ·rw [if_pos (by simpa using c.1), c.2, Option.bind_some, if_pos rfl, hI.si.2 _ s0 s1, Option.bind_some, Option.bind_some, hat]
    refine .inl ⟨y06.mk s.D ls s.On s.Use (upd s.Since ls[j].Supplier at_) s.Clock, ⟨hI.dn, hI.dd, rfl, hI.on, hI.us, (hI.si.set s0 at_).congr fun i i0 i1 => ?_, hI.ck⟩, rfl⟩
    rw [hstep]
    unfold fset
    by_cases e : i = ls[j].Supplier
    ·rw [if_pos e, if_pos ⟨c.1, e.symm, e ▸ c.2⟩]
    ·rw [if_neg e, if_neg (fun h => e h.2.1.symm)]
   ·have hcond : (if (ls[j].Consumer == k) = true then some (idle ls m0 ls[j].Supplier) else some false) = some false := by
     by_cases e : ls[j].Consumer = k
     ·rw [if_pos (by simpa using e)]
      congr 1
      exact Bool.eq_false_iff.2 fun h => c ⟨e, h⟩
     ·rw [if_neg (by simpa using e)]
    rw [hcond, Option.bind_some, if_neg (by simp), Option.bind_some]
    refine .inl ⟨s, ⟨hI.dn, hI.dd, hI.lk, hI.on, hI.us, hI.si.congr fun i i0 i1 => ?_, hI.ck⟩, rfl⟩
    rw [hstep, if_neg (fun h => c ⟨h.1, by rw [h.2.1]; exact h.2.2⟩)]
  ·intro q s hI
   rw [y15.l1, hI.lk, if_neg (by simp)]
   exact ⟨s, rfl, hI⟩
  ·exact ⟨R.dn, R.dd, R.lk, R.on, R.us, R.si.congr fun i _ _ => by simp [mi], R.ck⟩
 obtain ⟨r', e, h⟩ := key
 refine ⟨r', e, h.dn, h.dd, h.lk, h.on, h.us, h.si.congr fun i _ _ => ?_, h.ck⟩
 show (if (ls.take ls.length).any (fun l => decide (l.Consumer = k) && decide (l.Supplier = i)) && idle ls m0 i then at_ else m.idl i) = (if (ls.any (fun l => decide (l.Consumer = k) && decide (l.Supplier = i)) && idle ls m0 i) = true then at_ else m.idl i)
 rw [List.take_length]

theorem refexpire_l0 (g : y50 n ls) {t : Int} (ht : t ≤ 1152921504606846976) {m m' : Pm} {ops : List y0e} (h : Exp n ls de t m ops m') : ∀ (r : y06) (o0 : List y0e) (fuel : Nat), RR n ls de r m → (∀ k, 0 ≤ m.cnt k) → Tb de m → ops.length < fuel → o0.length + ops.length ≤ 100000 →
  ∃ r', y15.l0 t fuel r o0 = some (r', o0 ++ ops) ∧ RR n ls de r' m' := by
 induction h with
 | @nil m h =>
  intro r o0 fuel R hc B hf hl
  match fuel, hf with
  | fuel + 1, _ =>
   rw [y15.l0, first_ok g R hc B, Option.bind_some]
   have hcond : (if decide ((enc (nxTo ls de m n)).1 < 0) = true then some true else (idx r.Since (enc (nxTo ls de m n)).1).bind fun x30 => (idx r.D (enc (nxTo ls de m n)).1).bind fun x39 => some (decide (t < wu (x30 + x39.Delay)))) = some true := by
    cases hz : nxTo ls de m n with
    | none => rfl
    | some z =>
     obtain ⟨⟨h0, h1⟩, _, ez, _⟩ := nxTo_some (k := z.1) (t := z.2) hz
     obtain ⟨y, f1, f2, f3⟩ := refexp_at R B (k := z.1) h0 h1
     have := h z.1 z.2 hz
     rw [show (enc (some z)).1 = z.1 from rfl, if_neg (by simp only [decide_eq_true_eq]; omega), f1, f2, Option.bind_some, Option.bind_some, f3, ← ez]
     simp [this]
   rw [hcond, Option.bind_some, if_pos rfl, Option.bind_some, Fl.go]
   exact ⟨r, by simp, R⟩
 | @cons m m' k at_ ops h hat h' ih =>
  intro r o0 fuel R hc B hf hl
  match fuel, hf with
  | fuel + 1, hf =>
   obtain ⟨⟨k0, k1⟩, hk, ek, _⟩ := nxTo_some h
   obtain ⟨y, f1, f2, f3⟩ := refexp_at R B k0 k1
   simp only [List.length_cons] at hf hl
   rw [y15.l0, first_ok g R hc B, Option.bind_some, h, show (enc (some (k, at_))).1 = k from rfl, if_neg (by simp only [decide_eq_true_eq]; omega), f1, f2]
   simp only [Option.bind_some]
   rw [f3, ← ek, if_neg (by simp only [decide_eq_true_eq]; omega), R.on.2 k k0 k1, Option.bind_some, app_ok (by simp; omega), Option.bind_some]
   have R1 : RR n ls de (y06.mk r.D r.Links (upd r.On k false) r.Use r.Since r.Clock) { m with act := fset m.act k false } := ⟨R.dn, R.dd, R.lk, R.on.set k0 false, R.us, R.si, R.ck⟩
   obtain ⟨r1, e1, R2⟩ := refexpire_l1 (n := n) (de := de) g (k := k) (at_ := at_) (x0 := m.idl k) (ops := o0 ++ [y0e.mk k false at_]) (x := y) (by rw [f3, ← ek]) hc R1
   rw [e1, Option.bind_some, Fl.go]
   obtain ⟨r2, e2, R3⟩ := ih r1 (o0 ++ [y0e.mk k false at_]) fuel R2 hc (B.off ht h hat) (by omega) (by simp; omega)
   exact ⟨r2, by rw [e2]; simp, R3⟩

theorem refexpire_ok2 (g : y50 n ls) {t : Int} (ht : t ≤ 1152921504606846976) {m m' : Pm} {o0 ops : List y0e} (h : Exp n ls de t m ops m') (hl : o0.length + ops.length ≤ 1000) {r : y06} (R : RR n ls de r m) (hc : ∀ k, 0 ≤ m.cnt k) (B : Tb de m) :
  ∃ r', y15.f r o0 t = some (r', o0 ++ ops) ∧ RR n ls de r' m' := by
 unfold y15.f
 exact refexpire_l0 g ht h r o0 FUEL R hc B (by unfold FUEL; omega) (by omega)
theorem refexpire_ok (g : y50 n ls) {t : Int} (ht : t ≤ 1152921504606846976) {m m' : Pm} {ops : List y0e} (h : Exp n ls de t m ops m') (hl : ops.length ≤ 1000) {r : y06} (R : RR n ls de r m) (hc : ∀ k, 0 ≤ m.cnt k) (B : Tb de m) :
  ∃ r', y15.f r [] t = some (r', ops) ∧ RR n ls de r' m' := by
 unfold y15.f
 obtain ⟨r', e, h1⟩ := refexpire_l0 g ht h r [] FUEL R hc B (by unfold FUEL; omega) (by simp; omega)
 exact ⟨r', by rw [e]; simp, h1⟩
end
end Go.Proofs.Ytcfcffbjdjacfaa.Sim

namespace Go.Proofs.Ytcfcffbjdjacfaa.Sim
open Go
set_option linter.unusedVariables false
set_option maxRecDepth 100000

section
variable {n : Nat} {ls : List y0g} {de : Int → Int}

theorem refbad_ok {r : y06} {m : Pm} (R : RR n ls de r m) (t : Int) : y36.f r t = some (!decide (m.now ≤ t ∧ t ≤ maxT)) := by
 unfold y36.f
 rw [R.ck]
 congr 1
 rw [Bool.eq_iff_iff, Bool.not_eq_true', decide_eq_false_iff_not, Bool.or_eq_true, decide_eq_true_eq, decide_eq_true_eq]
 unfold maxT
 omega
theorem RR.y4k {r : y06} {m : Pm} (R : RR n ls de r m) (t : Int) : RR n ls de (y06.mk r.D r.Links r.On r.Use r.Since t) (Sim.y4k m t) := ⟨R.dn, R.dd, R.lk, R.on, R.us, R.si, rfl⟩
theorem reforguard {r : y06} {m : Pm} (R : RR n ls de r m) (d t : Int) : (if ((decide (d < 0)) || (decide ((r.D.length : Int) ≤ d))) = true then some true else (y36.f r t).bind fun r35 => some r35) = some (!decide ((0 ≤ d ∧ d < (n : Int)) ∧ m.now ≤ t ∧ t ≤ maxT)) := by
 rw [refbad_ok R, Option.bind_some, R.dn]
 by_cases h1 : 0 ≤ d ∧ d < (n : Int)
 ·rw [if_neg (by simp; omega)]; congr 2; simp [h1]
 ·rw [if_pos (by simp; omega)]; congr 1; simp [h1]

theorem refadvance_ok (g : y50 n ls) {r : y06} {m : Pm} (R : RR n ls de r m) (B : Tb de m) (hc : ∀ k, 0 ≤ m.cnt k) (t d : Int) : ∃ r' m' ops e, y3j.f r t = some (r', ops, e) ∧ Res n ls de 3 d t m m' ops e ∧ RR n ls de r' m' := by
 unfold y3j.f
 rw [refbad_ok R, Option.bind_some]
 by_cases h : m.now ≤ t ∧ t ≤ maxT
 ·rw [if_neg (by simp [h])]
  obtain ⟨ops, m1, he, hl⟩ := Exp.exists_ (n := n) (ls := ls) (de := de) (t := t) m
  have hn := g.n128
  obtain ⟨r', e1, R1⟩ := refexpire_ok g h.2 (he.y4k t) (by omega) (R.y4k t) hc (B.y4k t)
  rw [e1]
  exact ⟨r', _, ops, 0, rfl, .adv rfl h he, R1⟩
 ·rw [if_pos (by rw [Bool.not_eq_true', decide_eq_false_iff_not]; exact h)]
  exact ⟨r, m, [], 1, rfl, .badA rfl h, R⟩

theorem refput_ok (g : y50 n ls) {r : y06} {m : Pm} (R : RR n ls de r m) (B : Tb de m) {d t : Int} (hc : ∀ k, 0 ≤ m.cnt k ∧ m.cnt k ≤ 1000000) (h0 : 0 ≤ m.now) : ∃ r' m' ops e, y47.f r d t = some (r', ops, e) ∧ Res n ls de 2 d t m m' ops e ∧ RR n ls de r' m' := by
 have hn := g.n128
 unfold y47.f
 rw [reforguard R, Option.bind_some]
 by_cases h : (0 ≤ d ∧ d < (n : Int)) ∧ m.now ≤ t ∧ t ≤ maxT
 ·rw [if_neg (by simp [h])]
  obtain ⟨⟨d0, d1⟩, ht⟩ := h
  rw [R.us.2 d d0 d1, Option.bind_some]
  by_cases hz : m.cnt d = 0
  ·rw [if_pos (by simpa using hz)]
   exact ⟨r, m, [], 9, rfl, .stateP rfl ⟨d0, d1⟩ ht hz, R⟩
  ·rw [if_neg (by simpa using hz)]
   obtain ⟨o1, m1, he, hl⟩ := Exp.exists_ (n := n) (ls := ls) (de := de) (t := t) m
   obtain ⟨r1, e1, R1⟩ := refexpire_ok g ht.2 (he.y4k t) (by omega) (R.y4k t) (fun k => (hc k).1) (B.y4k t)
   have hB1 : Tb de m1 := he.ind (P := Tb de) (fun m k at_ B h1 h2 => B.off ht.2 h1 h2) B
   have hcnt : m1.cnt = m.cnt := he.same.2
   rw [e1, Option.bind_some, R1.us.2 d d0 d1, Option.bind_some]
   have hcd := hc d
   have hw : wi (m1.cnt d - 1) = m1.cnt d - 1 := wi_id (by rw [hcnt]; omega) (by rw [hcnt]; omega)
   have R2 : RR n ls de (y06.mk r1.D r1.Links r1.On (upd r1.Use d (wi ((Sim.y4k m1 t).cnt d - 1))) r1.Since r1.Clock) (putC m1 d t) := by
    rw [show (Sim.y4k m1 t).cnt d = m1.cnt d from rfl, hw]
    exact ⟨R1.dn, R1.dd, R1.lk, R1.on, R1.us.set d0 _, R1.si, R1.ck⟩
   have hc2 : ∀ k, 0 ≤ (putC m1 d t).cnt k := fun k => by
    show 0 ≤ fset m1.cnt d (m1.cnt d - 1) k
    rw [hcnt]
    have := hc k
    unfold fset; split <;> omega
   have hc3 : ∀ k, 0 ≤ (putM ls m1 d t).cnt k := fun k => by rw [(putM_act (ls := ls) m1 d t).2.1]; exact hc2 k
   simp only
   rw [refidle_ok g R2 hc2 d0 d1, Option.bind_some]
   have hfin : ∀ r2, RR n ls de r2 (putM ls m1 d t) → ∃ r' m' ops e, ((y15.f r2 o1 t).bind fun r127 => some (r127.1, r127.2, (0 : Int))) = some (r', ops, e) ∧ Res n ls de 2 d t m m' ops e ∧ RR n ls de r' m' := fun r2 R3 => by
    have B2 : Tb de (putM ls m1 d t) := Tb.put hB1 ⟨by omega, ht.2⟩
    obtain ⟨o2, m2, he2, hl2⟩ := Exp.exists_ (n := n) (ls := ls) (de := de) (t := t) (putM ls m1 d t)
    obtain ⟨r3, e3, R4⟩ := refexpire_ok2 (o0 := o1) g ht.2 he2 (by omega) R3 hc3 B2
    rw [e3, Option.bind_some]
    exact ⟨r3, m2, o1 ++ o2, 0, rfl, .put rfl ⟨d0, d1⟩ ht hz he he2, R4⟩
   cases hi : idle ls (putC m1 d t) d
   ·rw [if_neg (by simp), Option.bind_some]
    refine hfin _ ?_
    unfold putM
    rw [if_neg (by simp [hi])]
    exact R2
   ·rw [if_pos rfl, R1.si.2 d d0 d1, Option.bind_some, Option.bind_some]
    refine hfin _ ?_
    unfold putM
    rw [if_pos hi]
    exact ⟨R2.dn, R2.dd, R2.lk, R2.on, R2.us, R1.si.set d0 t, R2.ck⟩
 ·rw [if_pos (by rw [Bool.not_eq_true', decide_eq_false_iff_not]; exact h)]
  exact ⟨r, m, [], 1, rfl, .badP rfl h, R⟩

theorem refget_l1 (g : y50 n ls) {t : Int} {xs ys : List Int} {z1 z2 : Int} {j : Nat} (hj : j < ys.length) (hy : 0 ≤ ys[j] ∧ ys[j] < n) (hx : xs.Nodup) (hxl : xs.length ≤ 1000) {r : y06} {m : Pm} (R : RR n ls de r m) {os : List y0e} (hos : os.length ≤ 10000) :
  ∃ r', y1s.l1 t (xs, z1) (ys, z2) (j : Int) FUEL r os 0 = some (r', os ++ (if (decide (ys[j] ∈ xs) && !m.act ys[j]) = true then [y0e.mk ys[j] true t] else [])) ∧ RR n ls de r' { m with act := fun k => m.act k || (decide (k = ys[j]) && decide (k ∈ xs)) } := by
 let mi : Nat → Pm := fun i => { m with act := fun k => m.act k || (decide (k = ys[j]) && decide (k ∈ xs.take i)) }
 let oi : Nat → List y0e := fun i => os ++ (if (decide (ys[j] ∈ xs.take i) && !m.act ys[j]) = true then [y0e.mk ys[j] true t] else [])
 have hoil : ∀ i, (oi i).length ≤ 10001 := fun i => by
  simp only [oi, List.length_append]
  split <;> simp <;> omega
 refine y4o (L := fun q (s : y06 × List y0e) i => y1s.l1 t (xs, z1) (ys, z2) (j : Int) q s.1 s.2 i) xs.length (fun i s => RR n ls de s.1 (mi i) ∧ s.2 = oi i)
  (fun o => ∃ r', o = some (r', os ++ (if (decide (ys[j] ∈ xs) && !m.act ys[j]) = true then [y0e.mk ys[j] true t] else [])) ∧ RR n ls de r' { m with act := fun k => m.act k || (decide (k = ys[j]) && decide (k ∈ xs)) }) ?_ ?_ FUEL 0 (r, os) (Nat.zero_le _) (y2x (by omega)) ⟨⟨R.dn, R.dd, R.lk, R.on.congr fun i _ _ => by simp [mi], R.us, R.si, R.ck⟩, by simp [oi]⟩
 ·rintro q ⟨r1, o1⟩ i hi ⟨hI, rfl⟩
  simp only at hI ⊢
  have hlen := hoil i
  rw [y1s.l1, if_pos (by simp; omega), y3u hi, Option.bind_some, y3u hj, Option.bind_some, hI.on.2 _ hy.1 hy.2, Option.bind_some, y3d (by omega)]
  by_cases e : xs[i] = ys[j]
  ·have hfresh : ys[j] ∉ xs.take i := fun hm => by
    obtain ⟨a, ha, e'⟩ := List.getElem_of_mem hm
    simp only [List.length_take] at ha
    rw [List.getElem_take] at e'
    have := List.pairwise_iff_getElem.1 hx a i (by omega) hi (by omega)
    rw [e] at this
    exact this e'
   have hin : ∀ k, (k ∈ xs.take (i + 1)) ↔ k ∈ xs.take i ∨ k = ys[j] := fun k => by rw [y2r hi, e]
   have hact : (mi i).act ys[j] = m.act ys[j] := by simp [mi, hfresh]
   rw [if_pos (by simpa using e), hact, Option.bind_some]
   cases ha : m.act ys[j]
   ·rw [if_pos (show (!false) = true from rfl), Option.bind_some, app_ok (by simp; omega), Option.bind_some, Option.bind_some]
    refine .inl ⟨(y06.mk r1.D r1.Links (upd r1.On ys[j] true) r1.Use r1.Since r1.Clock, oi (i + 1)), ⟨⟨hI.dn, hI.dd, hI.lk, (hI.on.set hy.1 true).congr fun k _ _ => ?_, hI.us, hI.si, hI.ck⟩, rfl⟩, ?_⟩
    ·unfold fset
     by_cases c : k = ys[j]
     ·rw [if_pos c]; simp [mi, c, hin]
     ·rw [if_neg c]; simp [mi, c]
    ·have : oi (i + 1) = oi i ++ [y0e.mk ys[j] true t] := by simp [oi, hin, hfresh, ha]
     rw [this]
   ·rw [if_neg (by simp), Option.bind_some]
    refine .inl ⟨(r1, oi (i + 1)), ⟨⟨hI.dn, hI.dd, hI.lk, hI.on.congr fun k _ _ => ?_, hI.us, hI.si, hI.ck⟩, rfl⟩, ?_⟩
    ·by_cases c : k = ys[j]
     ·simp [mi, c, ha]
     ·simp [mi, c]
    ·have : oi (i + 1) = oi i := by simp [oi, ha]
     rw [this]
  ·rw [if_neg (by simpa using e), Option.bind_some, if_neg (by simp), Option.bind_some]
   have hin : (ys[j] ∈ xs.take (i + 1)) ↔ ys[j] ∈ xs.take i := by
    rw [y2r hi]
    exact ⟨fun h => h.resolve_right (fun h' => e h'.symm), .inl⟩
   refine .inl ⟨(r1, oi (i + 1)), ⟨⟨hI.dn, hI.dd, hI.lk, hI.on.congr fun k _ _ => ?_, hI.us, hI.si, hI.ck⟩, rfl⟩, ?_⟩
   ·by_cases c : k = ys[j]
    ·rw [c]; simp [mi, hin]
    ·simp [mi, c]
   ·have : oi (i + 1) = oi i := by simp [oi, hin]
    rw [this]
 ·rintro q ⟨r1, o1⟩ ⟨hI, rfl⟩
  simp only at hI ⊢
  rw [y1s.l1, if_neg (by simp)]
  refine ⟨r1, by simp only [oi, List.take_length], hI.dn, hI.dd, hI.lk, hI.on.congr fun k _ _ => by simp only [mi, List.take_length], hI.us, hI.si, hI.ck⟩

theorem refget_ok (g : y50 n ls) (hfull : ¬ (ord n ls).length < n) {r : y06} {m : Pm} (R : RR n ls de r m) (B : Tb de m) {kind d t : Int} (h2 : kind ≠ 2) (h3 : kind ≠ 3) (hc : ∀ k, 0 ≤ m.cnt k ∧ m.cnt k ≤ 1000000) : ∃ r' m' ops e, y1s.f r d t = some (r', ops, e) ∧ Res n ls de kind d t m m' ops e ∧ RR n ls de r' m' := by
 have hn := g.n128
 unfold y1s.f
 rw [reforguard R, Option.bind_some]
 by_cases h : (0 ≤ d ∧ d < (n : Int)) ∧ m.now ≤ t ∧ t ≤ maxT
 ·rw [if_neg (by simp [h])]
  obtain ⟨⟨d0, d1⟩, ht⟩ := h
  obtain ⟨o1, m1, he, hl⟩ := Exp.exists_ (n := n) (ls := ls) (de := de) (t := t) m
  obtain ⟨r1, e1, R1⟩ := refexpire_ok g ht.2 (he.y4k t) (by omega) (R.y4k t) (fun k => (hc k).1) (B.y4k t)
  have hcnt : m1.cnt = m.cnt := he.same.2
  have hcd := hc d
  have hw : wi (m1.cnt d + 1) = m1.cnt d + 1 := wi_id (by rw [hcnt]; omega) (by rw [hcnt]; omega)
  have hll : ls.length ≤ maxLen := by have := g.len; rw [maxLen_eq]; omega
  have hs : clres true (n : Int) ls [d] = (req n ls d, 0) := by
   rw [clres_good g, if_neg]
   ·rfl
   ·simp [badV]; omega
  have hcc : ccode (n : Int) ls = 0 := by rw [ccode_good g, if_neg hfull]
  have ho : ores (n : Int) ls = (ord n ls, 0) := by unfold ores; rw [if_pos hcc]; rfl
  rw [e1, Option.bind_some, R1.us.2 d d0 d1, Option.bind_some]
  simp only
  rw [R1.dn, R1.lk, refsuppliers_ok _ _ _ hll (by simp [maxLen]), hs, Option.bind_some, reforder_ok _ _ hll, ho, Option.bind_some]
  have hr := (ord_run n ls).1
  have hol := ord_le n ls
  have hrl : (req n ls d).length ≤ 1000 := by have := upto_len n (Rch true ls [d]); unfold req; omega
  have hrn : (req n ls d).Nodup := (below_nodup n).sublist List.filter_sublist
  let mi : Nat → Pm := fun j => ⟨fun k => m1.act k || (decide (k ∈ req n ls d) && decide (k ∈ (ord n ls).take j)), fset m1.cnt d (m1.cnt d + 1), m1.idl, t⟩
  let oi : Nat → List y0e := fun j => o1 ++ (((ord n ls).take j).filter (fun k => decide (k ∈ req n ls d) && !m1.act k)).map (fun k => y0e.mk k true t)
  have hoil : ∀ j, j ≤ (ord n ls).length → (oi j).length ≤ 256 := fun j hj => by
   have h1 := List.length_filter_le (fun k => decide (k ∈ req n ls d) && !m1.act k) ((ord n ls).take j)
   simp only [oi, List.length_append, List.length_map]
   simp only [List.length_take] at h1
   omega
  have R2 : RR n ls de (y06.mk r1.D ls r1.On (upd r1.Use d (wi ((Sim.y4k m1 t).cnt d + 1))) r1.Since r1.Clock) (mi 0) := by
   rw [show (Sim.y4k m1 t).cnt d = m1.cnt d from rfl, hw]
   exact ⟨R1.dn, R1.dd, rfl, R1.on.congr fun k _ _ => by simp [mi, y4k], R1.us.set d0 _, R1.si, R1.ck⟩
  have key : ∃ r2, y1s.l0 t (req n ls d, 0) (ord n ls, 0) FUEL (y06.mk r1.D ls r1.On (upd r1.Use d (wi ((Sim.y4k m1 t).cnt d + 1))) r1.Since r1.Clock) o1 0 = some (oi (ord n ls).length, r2) ∧ RR n ls de r2 (mi (ord n ls).length) := by
   refine y4o (L := fun q (s : y06 × List y0e) i => y1s.l0 t (req n ls d, 0) (ord n ls, 0) q s.1 s.2 i) (ord n ls).length (fun j s => RR n ls de s.1 (mi j) ∧ s.2 = oi j)
    (fun o => ∃ r2, o = some (oi (ord n ls).length, r2) ∧ RR n ls de r2 (mi (ord n ls).length)) ?_ ?_ FUEL 0 (_, o1) (Nat.zero_le _) (y2x (by omega)) ⟨R2, by simp [oi]⟩
   ·rintro q ⟨r2, os⟩ j hj ⟨hI, rfl⟩
    simp only at hI ⊢
    have hm := List.getElem_mem hj
    obtain ⟨k0, k1⟩ := hr.facts.2.1 _ hm
    have hlen := hoil j (by omega)
    have hfresh : (ord n ls)[j] ∉ (ord n ls).take j := by
     have := hr.facts.1
     intro hmem
     obtain ⟨i, hi, e⟩ := List.getElem_of_mem hmem
     simp only [List.length_take] at hi
     rw [List.getElem_take] at e
     exact absurd e (by have := List.pairwise_iff_getElem.1 this i j (by omega) hj (by omega); exact this)
    have hact : (mi j).act (ord n ls)[j] = m1.act (ord n ls)[j] := by simp [mi, hfresh]
    have hin : ∀ k, (k ∈ (ord n ls).take (j + 1)) ↔ k ∈ (ord n ls).take j ∨ k = (ord n ls)[j] := fun k => y2r hj
    have hoi : oi (j + 1) = oi j ++ (if (decide ((ord n ls)[j] ∈ req n ls d) && !m1.act (ord n ls)[j]) = true then [y0e.mk (ord n ls)[j] true t] else []) := by
     simp only [oi]
     rw [List.take_succ_eq_append_getElem hj, List.filter_append, List.map_append, ← List.append_assoc]
     congr 1
     rw [List.filter_cons]
     split <;> simp
    obtain ⟨r3, e3, R3⟩ := refget_l1 (t := t) (z1 := 0) (z2 := 0) g hj ⟨k0, k1⟩ hrn hrl hI (os := oi j) (by omega)
    rw [y1s.l0, if_pos (by simp; omega), e3, Option.bind_some, y3d (by omega), hact, ← hoi]
    refine .inl ⟨(r3, oi (j + 1)), ⟨⟨R3.dn, R3.dd, R3.lk, R3.on.congr fun k _ _ => ?_, R3.us, R3.si, R3.ck⟩, rfl⟩, rfl⟩
    show ((m1.act k || (decide (k ∈ req n ls d) && decide (k ∈ (ord n ls).take j))) || (decide (k = (ord n ls)[j]) && decide (k ∈ req n ls d))) = (m1.act k || (decide (k ∈ req n ls d) && decide (k ∈ (ord n ls).take (j + 1))))
    rw [Bool.eq_iff_iff]
    simp only [Bool.or_eq_true, Bool.and_eq_true, decide_eq_true_eq, hin]
    constructor
    ·rintro ((a | ⟨a, b⟩) | ⟨a, b⟩)
     ·exact .inl a
     ·exact .inr ⟨a, .inl b⟩
     ·exact .inr ⟨b, .inr a⟩
    ·rintro (a | ⟨a, b | b⟩)
     ·exact .inl (.inl a)
     ·exact .inl (.inr ⟨a, b⟩)
     ·exact .inr ⟨b, a⟩
   ·rintro q ⟨r2, os⟩ ⟨hI, rfl⟩
    simp only at hI ⊢
    rw [y1s.l0, if_neg (by simp)]
    exact ⟨r2, rfl, hI⟩
  obtain ⟨r2, e2, R3⟩ := key
  rw [e2, Option.bind_some]
  refine ⟨r2, getM n ls m1 d t, o1 ++ wake n ls m1 d t, 0, ?_, .get h2 h3 ⟨d0, d1⟩ ht he, ?_⟩
  ·simp only [oi, List.take_length]; rfl
  ·refine ⟨R3.dn, R3.dd, R3.lk, R3.on.congr fun i _ _ => ?_, R3.us, R3.si, R3.ck⟩
   simp only [mi, getM, List.take_length]
 ·rw [if_pos (by rw [Bool.not_eq_true', decide_eq_false_iff_not]; exact h)]
  exact ⟨r, m, [], 1, rfl, .badG h2 h3 h, R⟩

theorem want_ok (g : y50 n ls) (hfull : ¬ (ord n ls).length < n) {r : y06} {m : Pm} (R : RR n ls de r m) (B : Tb de m) {c : y3t} {now d t kind : Int} (hat : y3z.f c n now = some (d, t)) (hk : y4r.f c.Kind 4 = some kind) (hc : ∀ k, 0 ≤ m.cnt k ∧ m.cnt k ≤ 1000000) (h0 : 0 ≤ m.now) :
  ∃ r' m' ops e, law28_want.f r c n now = some (r', ops, e) ∧ Res n ls de kind d t m m' ops e ∧ RR n ls de r' m' := by
 unfold law28_want.f
 rw [hat, Option.bind_some, hk, Option.bind_some]
 by_cases h2 : kind = 2
 ·subst h2
  obtain ⟨p', m', ops, e, e1, r⟩ := refput_ok g R B (d := d) (t := t) hc h0
  rw [if_pos (by simp), e1]
  exact ⟨p', m', ops, e, rfl, r⟩
 ·rw [if_neg (by simpa using h2)]
  by_cases h3 : kind = 3
  ·subst h3
   obtain ⟨p', m', ops, e, e1, r⟩ := refadvance_ok g R B (fun k => (hc k).1) t d
   rw [if_pos (by simp), e1]
   exact ⟨p', m', ops, e, rfl, r⟩
  ·rw [if_neg (by simpa using h3)]
   obtain ⟨p', m', ops, e, e1, r⟩ := refget_ok g hfull R B (d := d) (t := t) h2 h3 hc
   rw [e1]
   exact ⟨p', m', ops, e, rfl, r⟩

theorem refactive_ok {r : y06} {m : Pm} (R : RR n ls de r m) (d : Int) : y3n.f r d = some (decide (0 ≤ d ∧ d < n) && m.act d) := by
 unfold y3n.f
 rw [R.dn]
 by_cases h : 0 ≤ d ∧ d < (n : Int)
 ·rw [if_pos (by simpa using h), R.on.2 d h.1 h.2]; simp [h]
 ·rw [if_neg (by simpa using h)]; simp [h]
theorem refusage_ok {r : y06} {m : Pm} (R : RR n ls de r m) (d : Int) : y3q.f r d = some (if 0 ≤ d ∧ d < (n : Int) then m.cnt d else 0) := by
 unfold y3q.f
 rw [R.dn]
 by_cases h : 0 ≤ d ∧ d < (n : Int)
 ·rw [if_neg (by simp; omega), R.us.2 d h.1 h.2, if_pos h]; rfl
 ·rw [if_pos (by simp; omega), if_neg h]
theorem refnextExpiry_ok (g : y50 n ls) {r : y06} {m : Pm} (R : RR n ls de r m) (hc : ∀ k, 0 ≤ m.cnt k) (B : Tb de m) : y37.f r = some ((enc (nxTo ls de m n)).2, (nxTo ls de m n).isSome) := by
 unfold y37.f
 rw [first_ok g R hc B, Option.bind_some]
 cases hz : nxTo ls de m n with
 | none => rfl
 | some z =>
  obtain ⟨⟨h0, h1⟩, _, ez, _⟩ := nxTo_some (k := z.1) (t := z.2) hz
  obtain ⟨y, f1, f2, f3⟩ := refexp_at R B (k := z.1) h0 h1
  rw [show (enc (some z)).1 = z.1 from rfl, if_neg (by simp only [decide_eq_true_eq]; omega), f1, f2, Option.bind_some, Option.bind_some, f3, ← ez]; rfl
end
end Go.Proofs.Ytcfcffbjdjacfaa.Sim

namespace Go.Proofs.Ytcfcffbjdjacfaa.Sim
open Go
set_option linter.unusedVariables false
set_option maxRecDepth 100000

theorem refnew_l1 {ds : List y08} (G : GD ds) {i : Nat} (hi : i < ds.length) {l0 : List y0g} (hl0 : l0.length ≤ 1000) {on : List Bool} {us si : List Int} {ck : Int} :
  y3m.l1 ds (i : Int) ds[i] FUEL (y06.mk ds l0 on us si ck) 0 = some (.nxt (y06.mk ds (l0 ++ ds[i].Suppliers.map (fun s => y0g.mk (i : Int) s)) on us si ck)) := by
 have h8 := G.n8
 have hm := List.getElem_mem hi
 have hsl2 := G.sl _ hm
 refine y4o (L := fun k (s : y06) j => y3m.l1 ds (i : Int) ds[i] k s j) ds[i].Suppliers.length (fun j s => s = y06.mk ds (l0 ++ (ds[i].Suppliers.take j).map (fun s => y0g.mk (i : Int) s)) on us si ck) (fun o => o = some (.nxt (y06.mk ds (l0 ++ ds[i].Suppliers.map (fun s => y0g.mk (i : Int) s)) on us si ck))) ?_ ?_ FUEL 0 _ (Nat.zero_le _) (y2x (by omega)) (by simp)
 ·rintro k s j hj rfl
  have hs : 0 ≤ ds[i].Suppliers[j] ∧ ds[i].Suppliers[j] < ds.length := G.sup _ hm _ (by
   unfold supl
   split
   ·exact List.getElem_mem hj
   ·exact List.mem_cons_of_mem _ (List.getElem_mem hj))
  rw [y3m.l1, if_pos (by simp; omega), y3u hj, Option.bind_some, if_neg (by simp; omega)]
  simp only
  rw [app_ok (by simp only [List.length_append, List.length_map, List.length_take, List.length_singleton]; omega), Option.bind_some, y3d (by omega)]
  refine .inl ⟨_, ?_, rfl⟩
  rw [List.take_succ_eq_append_getElem hj, List.map_append, List.append_assoc]; rfl
 ·rintro k s rfl
  rw [y3m.l1, if_neg (by simp), List.take_length]

theorem refnew_ok {ds : List y08} (G : GD ds) : ∃ r, y3m.f ds = some (some r, 0) ∧ RR ds.length (lks ds) (dly ds) r m00 := by
 have h8 := G.n8
 unfold y3m.f
 rw [if_neg (by simp; omega), mk_ok (by omega), Option.bind_some, mk_ok (by omega), Option.bind_some, Option.bind_some]
 have key : y3m.l0 ds FUEL (y06.mk ds ([] : List y0g) (List.replicate ds.length false) (List.replicate ds.length 0) (List.replicate ds.length 0) 0) 0 = some (.nxt (y06.mk ds (lks ds) (List.replicate ds.length false) (List.replicate ds.length 0) (List.replicate ds.length 0) 0)) := by
  refine y4o (L := fun k (s : y06) i => y3m.l0 ds k s i) ds.length (fun i s => s = y06.mk ds (lkTo ds i) (List.replicate ds.length false) (List.replicate ds.length 0) (List.replicate ds.length 0) 0)
   (fun o => o = some (.nxt (y06.mk ds (lks ds) (List.replicate ds.length false) (List.replicate ds.length 0) (List.replicate ds.length 0) 0))) ?_ ?_ FUEL 0 _ (Nat.zero_le _) (y2x (by omega)) rfl
  ·rintro k s i hi rfl
   have hm := List.getElem_mem hi
   have hp := G.par _ hm
   have hd := G.de _ hm
   have hsl := G.sl _ hm
   have hlk := G.lkLen (i := i) (by omega)
   have hlk' : (lkTo ds i).length ≤ 168 := by omega
   rw [y3m.l0, if_pos (by simp; omega), y3u hi, Option.bind_some, if_neg (by simp; omega), y3d (by omega)]
   simp only
   by_cases c : 0 ≤ ds[i].Parent
   ·rw [if_pos (by simpa using c), app_ok (by simp; omega), Option.bind_some, Option.bind_some]
    simp only
    rw [refnew_l1 G hi (by simp; omega), Option.bind_some, Fl.go]
    refine .inl ⟨_, ?_, rfl⟩
    rw [lkTo_succ hi]
    unfold supl
    rw [if_neg (by omega)]
    simp
   ·rw [if_neg (by simpa using c), Option.bind_some]
    simp only
    rw [refnew_l1 G hi (by omega), Option.bind_some, Fl.go]
    refine .inl ⟨_, ?_, rfl⟩
    rw [lkTo_succ hi]
    unfold supl
    rw [if_pos (by omega)]
  ·rintro k s rfl
   rw [y3m.l0, if_neg (by simp)]; rfl
 have hll : (lks ds).length ≤ maxLen := by have := G.good.len; rw [maxLen_eq]; omega
 have hcc : ccode (ds.length : Int) (lks ds) = 0 := by rw [ccode_good G.good, if_neg G.full]
 rw [key, Option.bind_some, Fl.go]
 simp only
 rw [refcheck_ok _ _ hll, hcc, Option.bind_some, if_neg (by simp)]
 refine ⟨_, rfl, rfl, fun i i0 i1 => ?_, rfl, RepV.rep _ _, RepV.rep _ _, RepV.rep _ _, rfl⟩
 obtain ⟨x, hx, _⟩ := idx_of i0 i1
 exact ⟨x, hx, by unfold dly; rw [hx]; rfl⟩

theorem at_any {n : Nat} (h8 : n ≤ 8) (c : y3t) (now : Int) : ∃ d t, y3z.f c n now = some (d, t) := by
 unfold y3z.f
 by_cases h : (c.Raw || ((n : Int) == 0)) = true
 ·rw [if_pos h]; exact ⟨_, _, rfl⟩
 ·rw [if_neg h]
  simp at h
  obtain ⟨d, e, d0, d1⟩ := mod_ok (x := c.Device) (n := (n : Int)) (by omega) (by omega)
  rw [e]; exact ⟨_, _, rfl⟩

theorem Res.len {n : Nat} {ls : List y0g} {de : Int → Int} {kind d t : Int} {m m' : Pm} {ops : List y0e} {e : Int} (h : Res n ls de kind d t m m' ops e) : ops.length ≤ 2 * n := by
 cases h with
 | badG => simp
 | badP => simp
 | stateP => simp
 | badA => simp
 | @get m1 o1 h2 h3 hd ht he =>
  have h1 := he.len
  have h2 := List.length_filter_le (fun k => decide (k ∈ req n ls d) && !m1.act k) (ord n ls)
  have h3 := ord_le n ls
  unfold wake
  rw [List.length_append, List.length_map]
  omega
 | put h2 hd ht hc he he2 =>
  have h1 := he.len
  have h2 := he2.len
  rw [List.length_append]
  omega
 | adv h3 ht he => have := he.len; omega
end Go.Proofs.Ytcfcffbjdjacfaa.Sim

namespace Go.Proofs.Ytcfcffbjdjacfaa.Sim
open Go
set_option linter.unusedVariables false
set_option maxRecDepth 100000

theorem calls_l1 {ds : List y08} (h8 : ds.length ≤ 8) {n : Nat} {ls : List y0g} {de : Int → Int} {p : y01} {r : y06} {m : Pm} (P : RM n ls de p m) (R : RR n ls de r m) (o1 o2 : List y0e) (e1 e2 : Int) :
  y0w.l1 ds (p, o1, e1) (r, o2, e2) FUEL (-1) = some (.nxt (p, r)) := by
 have key : ∀ (k : Nat) (j : Nat), j ≤ ds.length + 2 → ds.length + 2 - j < k → y0w.l1 ds (p, o1, e1) (r, o2, e2) k ((j : Int) - 1) = some (.nxt (p, r)) := by
  intro k
  induction k with
  | zero => intro j _ h; omega
  | succ k ih =>
   intro j hj hk
   rw [y0w.l1]
   by_cases c : (j : Int) - 1 ≤ ds.length
   ·rw [if_pos (by simpa using c)]
    simp only
    rw [active_ok P, Option.bind_some, refactive_ok R, Option.bind_some, if_neg (by simp), usage_ok P, Option.bind_some, refusage_ok R, Option.bind_some, Option.bind_some, if_neg (by simp), wi_id (by omega) (by omega)]
    rw [show (j : Int) - 1 + 1 = ((j + 1 : Nat) : Int) - 1 by omega]
    exact ih (j + 1) (by omega) (by omega)
   ·rw [if_neg (by simpa using c)]
 exact key FUEL 0 (by omega) (by unfold FUEL; omega)

theorem runtimepmCallsAgree : y0w.Pure := by
 intro p0 p1 h1 h2
 unfold y0w.f
 rcases open_law p0 p1 h1 with e | ⟨e, hl, ds, e2, G⟩
 ·rw [e, Option.bind_some, if_pos rfl, awake28_ok]; rfl
 ·have g := G.good
  have h8 := G.n8
  obtain ⟨p, e3, hQ⟩ := new_q G
  obtain ⟨r, e4, hR⟩ := refnew_ok G
  rw [e, Option.bind_some, if_neg (by simp), e2, Option.bind_some, e3, Option.bind_some, e4, Option.bind_some, if_neg (by simp)]
  simp only [Option.bind_some]
  have key : y0w.l0 p1 ds FUEL p r 0 = some (.nxt ()) := by
   refine y4o (L := fun k (s : y01 × y06) i => y0w.l0 p1 ds k s.1 s.2 i) p1.length (fun i s => ∃ m, Q ds.length (lks ds) (dly ds) (i : Int) s.1 m ∧ RR ds.length (lks ds) (dly ds) s.2 m) (fun o => o = some (.nxt ())) ?_ ?_ FUEL 0 (p, r) (Nat.zero_le _) (y2x (by omega)) ⟨m00, hQ, hR⟩
   ·rintro k ⟨p, r⟩ i hi ⟨m, hQ, hR⟩
    simp only at hQ hR ⊢
    obtain ⟨d, t, hat⟩ := at_any h8 p1[i] m.now
    obtain ⟨kind, hk, _⟩ := kind_ok p1[i].Kind
    obtain ⟨p', m', ops, er, f1, x1, q1⟩ := call_ok g G.full (by omega) hQ hat hk
    have hc : ∀ k, 0 ≤ m.cnt k ∧ m.cnt k ≤ 1000000 := fun k => ⟨hQ.w.w.c0 k, by have := hQ.c k; omega⟩
    obtain ⟨r', m'', ops', er', f2, x2, q2⟩ := want_ok g G.full hR hQ.t hat hk hc hQ.w.n0
    obtain ⟨rfl, rfl, rfl⟩ := x1.det x2
    have hlen := x1.len
    rw [y0w.l0, if_pos (by simp; omega), y3u hi, Option.bind_some, hR.ck, f1, Option.bind_some, f2, Option.bind_some]
    simp only
    rw [nextExpiry_ok g q1.r q1.t, Option.bind_some, refnextExpiry_ok g q2 q1.w.w.c0 q1.t, Option.bind_some, if_neg (by simp), equalOps_refl _ (by omega), Option.bind_some, Option.bind_some, if_neg (by simp), calls_l1 h8 q1.r q2, Option.bind_some, Fl.go, y3d (by omega)]
    exact .inl ⟨(p', r'), ⟨_, q1, q2⟩, rfl⟩
   ·rintro k ⟨p, r⟩ _
    simp only
    rw [y0w.l0, if_neg (by simp)]
  rw [key, Option.bind_some, Fl.go, awake28_ok]; rfl
end Go.Proofs.Ytcfcffbjdjacfaa.Sim
