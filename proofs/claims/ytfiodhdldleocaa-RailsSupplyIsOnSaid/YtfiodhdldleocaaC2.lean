/-
  Plain lemmas: the rails of the statements, making them, a call with its arguments, equality of operations, copies.
-/
import Derived.Test.YtfiodhdldleocaaC1
import Derived.Test.YtfiodhdldleocaaOp
namespace Go.Proofs.Ytfiodhdldleocaa.Sim
open Go
set_option linter.unusedVariables false
set_option maxRecDepth 100000

theorem awake_ok : law25_awake.f = some true := by kernel_rfl

section
variable {xs : List api_Rail} {rk : Int → Nat} {t : Int}

theorem tree_of (hn : xs.length ≤ 8) (h : ∀ i x, idx xs i = some x → (-1 ≤ x.Supply ∧ x.Supply < xs.length) ∧ (0 ≤ x.Supply → rk x.Supply < rk i) ∧ (0 ≤ x.RampUp ∧ x.RampUp ≤ 20) ∧ (0 ≤ x.RampDown ∧ x.RampDown ≤ 20)) (hb : ∀ i, rk i < 8) : Tree xs rk := by
  have hx : ∀ i, (∃ x, idx xs i = some x ∧ rl xs i = x) ∨ rl xs i = api_Rail.mk (-1) 0 0 := fun i => by
    rcases he : idx xs i with _ | x
    · right; unfold rl; rw [he]; rfl
    · left; exact ⟨x, rfl, rl_of he⟩
  refine ⟨hn, fun i => ?_, fun i => ?_, hb, fun i => ?_, fun i => ?_⟩
  all_goals
    rcases hx i with ⟨x, h1, h2⟩ | h2
    · have := h i x h1
      (try unfold sp)
      rw [h2]
      first | exact this.1 | exact this.2.1 | exact this.2.2.1 | exact this.2.2.2
    · (try unfold sp)
      rw [h2]
      simp <;> omega

theorem Tree.code (T : Tree xs rk) : newcode xs = 0 := by
  have hn := T.n
  have hb : ¬ xs.any (badR xs.length) = true := by
    intro hh
    obtain ⟨x, h1, h2⟩ := List.any_eq_true.1 hh
    obtain ⟨i, hi, rfl⟩ := List.getElem_of_mem h1
    have e := rl_of (idx_get hi)
    have a1 := T.s (i : Int)
    have a2 := T.u (i : Int)
    have a3 := T.d (i : Int)
    unfold sp at a1
    rw [e] at a1 a2 a3
    simp [badR] at h2
    omega
  unfold newcode
  rw [if_neg (by omega), if_neg hb, if_neg]
  intro hc
  obtain ⟨i, h0, h1, h2⟩ := ord_cyclic (links_good (by omega) hb) hc
  have key : ∀ {a b : Int}, Path (links xs) a b → rk b < rk a := by
    intro a b hp
    have hl : ∀ {a b : Int}, api_Link.mk a b ∈ links xs → rk b < rk a := fun {a b} hm => by
      obtain ⟨j, x, h3, h4, h5, h6⟩ := mem_linksTo.1 hm
      injection h6 with h6 h7
      have h8 : idx xs a = some x := by rw [h6, idx_nat (by omega)]; simpa using h4
      have := T.r a (by rw [sp_of h8]; exact h5)
      rw [sp_of h8] at this
      rw [h7]; exact this
    induction hp with
    | one h => exact hl h
    | more h _ ih => exact Nat.lt_trans ih (hl h)
  have := key h2
  omega

def st0 : Ms := ⟨0, fun _ => 0, fun _ => 0⟩
theorem idx_map {α β : Type} (f : α → β) {l : List α} {i : Int} {x : α} (h : idx l i = some x) : idx (l.map f) i = some (f x) := by
  have h0 := idx_lo h
  rw [idx_nat h0] at h ⊢
  rw [List.getElem?_map, h]; rfl
theorem rnew_tree (T : Tree xs rk) : rails_New.f xs = some (some (rails_Rails.mk (xs.map rail0) 0), 0) ∧ RI xs (rails_Rails.mk (xs.map rail0) 0) st0 := by
  refine ⟨by rw [rnew_ok, if_pos T.code], rfl, by simp, fun i x hx => ?_⟩
  rw [idx_map rail0 hx]; rfl
theorem fnew_tree (T : Tree xs rk) : ref25_New.f xs = some (some (ref25_Rails.mk xs (List.replicate xs.length 0) (List.replicate xs.length 0) 0), 0) ∧ RR xs (ref25_Rails.mk xs (List.replicate xs.length 0) (List.replicate xs.length 0) 0) st0 := by
  refine ⟨by rw [fnew_ok, if_pos T.code], rfl, rfl, ⟨by simp, fun i h0 h1 => ?_⟩, by simp, fun i h0 h1 => ?_⟩
  · simp only; rw [idx_replicate h0 h1]; rfl
  · simp only; rw [idx_replicate h0 h1]; rfl
theorem fed_st0 (k : Int) : ∀ m, fed xs st0.c k m = 0
  | 0 => rfl
  | m + 1 => by rw [fed, fed_st0 k m, if_neg]; · rfl
                intro h; exact absurd h.2 (by simp [st0])
theorem gs0 : Gs xs 0 st0 (fun _ => 0) :=
  ⟨⟨fun _ => Int.le_refl _, fun _ => Int.le_refl _, fun _ => Int.le_refl _, fun i _ _ => by rw [fed_st0]; rfl, fun _ _ _ h _ => absurd h (by simp [st0])⟩, fun _ => by simp [st0], fun _ => by simp [st0], Int.le_refl _, by simp [st0]⟩

/-! ### the rails of the statements -/

theorem u64_range {x : Int} (h : (Lit.int .u64 x).wf = true) : 0 ≤ x ∧ x < 18446744073709551616 := by
  simp [Lit.wf, IntKind.min, IntKind.max, IntKind.signed, IntKind.bits] at h; omega
theorem tmod_range {x : Int} (n : Int) (hn : 0 < n) (h : 0 ≤ x) : 0 ≤ Int.tmod x n ∧ Int.tmod x n < n := by
  rw [Int.tmod_eq_emod_of_nonneg h]
  exact ⟨Int.emod_nonneg x (by omega), Int.emod_lt_of_pos x hn⟩

def Okx (n : Int) (x : api_Rail) : Prop := (-1 ≤ x.Supply ∧ x.Supply < n) ∧ (0 ≤ x.RampUp ∧ x.RampUp ≤ 20) ∧ (0 ≤ x.RampDown ∧ x.RampDown ≤ 20)
theorem some_l0 (raw : List api_Rail) (hl : raw.length ≤ maxLen) (hw : ∀ x ∈ raw, Wf_api_Rail x) : ∃ ys, law25_Some.l0 raw FUEL [] 0 = some ys ∧ ys.length ≤ 8 ∧ ∀ (i : Nat) (h : i < ys.length), Okx i ys[i] := by
  rw [maxLen_eq] at hl
  refine loop_c (L := fun fu (s : List api_Rail) i => law25_Some.l0 raw fu s i) (min raw.length 8) (fun i s => s.length = i ∧ ∀ (j : Nat) (h : j < s.length), Okx j s[j])
    (fun o => ∃ ys, o = some ys ∧ ys.length ≤ 8 ∧ ∀ (i : Nat) (h : i < ys.length), Okx i ys[i]) ?_ ?_ FUEL 0 [] (Nat.zero_le _) (FUEL_pos (by omega)) ⟨rfl, fun j h => absurd h (by simp)⟩
  · intro fu s i hi hI
    obtain ⟨h1, h2⟩ := hI
    have hir : i < raw.length := by omega
    rw [law25_Some.l0, if_pos (by simp; omega), idx_get hir, Option.bind_some]
    obtain ⟨r, hr, r0, r1⟩ := mod_ok (x := raw[i].Supply) (n := ((i + 1 : Nat) : Int)) (by omega) (by omega)
    have hwx := hw _ (List.getElem_mem hir)
    have hu := tmod_range 20 (by omega) (u64_range hwx.2.1).1
    have hd := tmod_range 20 (by omega) (u64_range hwx.2.2).1
    rw [wi_succ (by omega), hr, Option.bind_some, wi_id (by omega) (by omega), app_ok (by simp; omega), Option.bind_some]
    refine .inl ⟨_, ⟨by simp [h1], ?_⟩, rfl⟩
    intro j hj
    rw [List.getElem_append]
    split
    · exact h2 j _
    · rename_i hj2
      simp only [List.length_append, List.length_singleton] at hj
      simp only [List.getElem_singleton]
      refine ⟨⟨?_, ?_⟩, ⟨?_, ?_⟩, ?_, ?_⟩ <;> simp only <;> omega
  · intro fu s hI
    obtain ⟨h1, h2⟩ := hI
    rw [law25_Some.l0, if_neg (by simp; omega)]
    exact ⟨s, rfl, by omega, h2⟩

theorem some_l1 (v : List api_Rail) (hn : v.length ≤ 8) (hv : ∀ (i : Nat) (h : i < v.length), Okx i v[i]) :
    ∃ ys, law25_Some.l1 v FUEL (List.replicate v.length (api_Rail.mk 0 0 0)) 0 = some ys ∧ ys.length = v.length ∧ ∀ j y, idx ys j = some y → Okx v.length y ∧ (0 ≤ y.Supply → j < y.Supply) := by
  refine loop_c (L := fun fu (s : List api_Rail) i => law25_Some.l1 v fu s i) v.length (fun i s => s.length = v.length ∧ ∀ j y, idx s j = some y → (v.length : Int) ≤ j + i → Okx v.length y ∧ (0 ≤ y.Supply → j < y.Supply))
    (fun o => ∃ ys, o = some ys ∧ ys.length = v.length ∧ ∀ j y, idx ys j = some y → Okx v.length y ∧ (0 ≤ y.Supply → j < y.Supply)) ?_ ?_ FUEL 0 _ (Nat.zero_le _) (FUEL_pos (by omega)) ⟨by simp, fun j y h1 h2 => absurd (idx_hi h1) (by simp; omega)⟩
  · intro fu s i hi hI
    obtain ⟨h1, h2⟩ := hI
    have hx := hv i hi
    rw [law25_Some.l1, if_pos (by simp; omega), idx_get hi, Option.bind_some]
    generalize v[i] = x at hx
    obtain ⟨⟨a1, a2⟩, a3, a4⟩ := hx
    have e1 : wi ((v.length : Int) - 1) = (v.length : Int) - 1 := wi_id (by omega) (by omega)
    have e2 : wi ((v.length : Int) - 1 - i) = (v.length : Int) - 1 - i := wi_id (by omega) (by omega)
    obtain ⟨z, hz, _⟩ := idx_of (xs := s) (i := (v.length : Int) - 1 - i) (by omega) (by omega)
    have fin : ∀ y : api_Rail, Okx v.length y → (0 ≤ y.Supply → (v.length : Int) - 1 - i < y.Supply) → ∃ s', (s'.length = v.length ∧ ∀ j y, idx s' j = some y → (v.length : Int) ≤ j + ((i + 1 : Nat) : Int) → Okx v.length y ∧ (0 ≤ y.Supply → j < y.Supply)) ∧
        ((idx s (wi (wi ((v.length : Int) - 1) - i))).bind fun x152 => law25_Some.l1 v fu (upd s (wi (wi ((v.length : Int) - 1) - i)) y) (wi ((i : Int) + 1))) = law25_Some.l1 v fu s' ((i + 1 : Nat) : Int) := by
      intro y y1 y2
      refine ⟨upd s ((v.length : Int) - 1 - i) y, ⟨by rw [upd_length]; exact h1, ?_⟩, ?_⟩
      · intro j q hq hj
        by_cases e : (v.length : Int) - 1 - i = j
        · subst e
          rw [idx_upd_self hz] at hq
          cases hq; exact ⟨y1, y2⟩
        · rw [idx_upd_ne (by omega) e] at hq
          exact h2 j q hq (by omega)
      · rw [e1, e2, hz, Option.bind_some, wi_succ (by omega)]
    by_cases h0 : 0 ≤ x.Supply
    · rw [if_pos (by simpa using h0), Option.bind_some]
      have e3 : wi (wi ((v.length : Int) - 1) - x.Supply) = (v.length : Int) - 1 - x.Supply := by rw [e1, wi_id (by omega) (by omega)]
      rw [e3]
      exact .inl (fin (api_Rail.mk ((v.length : Int) - 1 - x.Supply) x.RampUp x.RampDown) ⟨⟨by simp only; omega, by simp only; omega⟩, a3, a4⟩ (fun _ => by simp only; omega))
    · rw [if_neg (by simpa using h0), Option.bind_some]
      exact .inl (fin x ⟨⟨a1, by omega⟩, a3, a4⟩ (fun h => absurd h h0))
  · intro fu s hI
    obtain ⟨h1, h2⟩ := hI
    rw [law25_Some.l1, if_neg (by simp)]
    exact ⟨s, rfl, h1, fun j y h3 => h2 j y h3 (by have := idx_lo h3; omega)⟩

theorem some_ok (raw : List api_Rail) (hl : raw.length ≤ maxLen) (hw : ∀ x ∈ raw, Wf_api_Rail x) : ∃ xs rk, law25_Some.f raw = some xs ∧ Tree xs rk := by
  obtain ⟨v, h1, h2, h3⟩ := some_l0 raw hl hw
  unfold law25_Some.f
  rw [h1, Option.bind_some]
  by_cases ho : (Int.tmod (v.length : Int) 2 == 1) = true
  · rw [if_pos ho, mk_ok (by omega), Option.bind_some]
    obtain ⟨ys, e1, e2, e3⟩ := some_l1 v h2 h3
    rw [e1]
    refine ⟨ys, fun i => if 0 ≤ i ∧ i < ys.length then (ys.length - 1 - i.toNat) else 0, rfl, tree_of (by omega) (fun i x hx => ?_) (fun i => by split <;> omega)⟩
    obtain ⟨⟨⟨a1, a2⟩, a3, a4⟩, a5⟩ := e3 i x hx
    have i0 := idx_lo hx
    have i1 := idx_hi hx
    rw [← e2] at a2
    refine ⟨⟨a1, a2⟩, fun h => ?_, a3, a4⟩
    have := a5 h
    rw [if_pos ⟨h, a2⟩, if_pos ⟨i0, i1⟩]
    omega
  · rw [if_neg ho]
    refine ⟨v, fun i => if 0 ≤ i ∧ i < v.length then i.toNat else 0, rfl, tree_of h2 (fun i x hx => ?_) (fun i => by split <;> omega)⟩
    have i0 := idx_lo hx
    have i1 := idx_hi hx
    obtain ⟨n, rfl⟩ := Int.eq_ofNat_of_zero_le i0
    have hi : n < v.length := by omega
    rw [idx_get hi] at hx
    cases hx
    obtain ⟨⟨a1, a2⟩, a3, a4⟩ := h3 n hi
    refine ⟨⟨a1, by omega⟩, fun h => ?_, a3, a4⟩
    rw [if_pos ⟨h, by omega⟩, if_pos ⟨i0, i1⟩]
    omega

/-! ### a call -/

def catAt (c : law25_Call) (n : Nat) (now : Int) : Int × Int := (law25_Call_at.f c n now).getD (0, 0)
theorem cat_ok (c : law25_Call) {n : Nat} (hn : n ≤ 8) (now : Int) : law25_Call_at.f c n now = some (catAt c n now) := by
  unfold catAt
  have : ∃ p, law25_Call_at.f c n now = some p := by
    unfold law25_Call_at.f
    split
    · exact ⟨_, rfl⟩
    · split
      · exact ⟨_, rfl⟩
      · rename_i h
        obtain ⟨r, hr, _⟩ := mod_ok (x := c.Rail) (n := (n : Int)) (by simp at h; omega) (by omega)
        rw [hr]; exact ⟨_, rfl⟩
  obtain ⟨p, hp⟩ := this
  rw [hp]; rfl
/-- The arguments of a call that is not raw. -/
theorem cat_plain (c : law25_Call) {n : Nat} (hn : n ≤ 8) {now : Int} (h0 : 0 ≤ now) (h1 : now ≤ 1000000) (hw : 0 ≤ c.Wait) :
    (0 < n → 0 ≤ (catAt (law25_Call.mk c.Release c.Rail c.Wait false) n now).1 ∧ (catAt (law25_Call.mk c.Release c.Rail c.Wait false) n now).1 < n) ∧
    now ≤ (catAt (law25_Call.mk c.Release c.Rail c.Wait false) n now).2 ∧ (catAt (law25_Call.mk c.Release c.Rail c.Wait false) n now).2 ≤ now + 29 := by
  have hm := tmod_range 30 (by omega) hw
  have hwu : wu (now + Int.tmod c.Wait 30) = now + Int.tmod c.Wait 30 := wu_id (by omega) (by omega)
  unfold catAt law25_Call_at.f
  simp only
  rw [if_neg (by simp)]
  by_cases hz : ((n : Int) == 0) = true
  · rw [if_pos hz]
    simp only [Option.getD_some, hwu]
    simp at hz
    exact ⟨fun h => by omega, by omega, by omega⟩
  · rw [if_neg hz]
    obtain ⟨r, hr, r0, r1⟩ := mod_ok (x := c.Rail) (n := (n : Int)) (by simp at hz; omega) (by omega)
    rw [hr]
    simp only [Option.bind_some, Option.getD_some, hwu]
    exact ⟨fun _ => ⟨r0, r1⟩, by omega, by omega⟩

theorem do_ok (T : Tree xs rk) {j : Nat} {s : Ms} {u : Fn} (g : Gs xs j s u) (hj : j ≤ 100) {a : rails_Rails} (h : RI xs a s) (c : law25_Call) (now : Int) :
    ∃ a', law25_do.f a c (xs.length : Int) now = some (a', (mcall xs s c.Release (catAt c xs.length now).1 (catAt c xs.length now).2).2.1, (mcall xs s c.Release (catAt c xs.length now).1 (catAt c xs.length now).2).2.2) ∧ RI xs a' (mcall xs s c.Release (catAt c xs.length now).1 (catAt c xs.length now).2).1 := by
  unfold law25_do.f
  rw [cat_ok c T.n now, Option.bind_some]
  by_cases hr : c.Release = true
  · rw [if_pos hr, hr]
    obtain ⟨a', e1, e2⟩ := release_ok T g hj h (catAt c xs.length now).1 (catAt c xs.length now).2
    rw [e1]; exact ⟨a', rfl, e2⟩
  · rw [if_neg hr]
    rw [Bool.not_eq_true] at hr
    rw [hr]
    obtain ⟨a', e1, e2⟩ := acquire_ok T g hj h (catAt c xs.length now).1 (catAt c xs.length now).2
    rw [e1]; exact ⟨a', rfl, e2⟩
theorem want_ok (T : Tree xs rk) {j : Nat} {s : Ms} {u : Fn} (g : Gs xs j s u) (hj : j ≤ 100) {b : ref25_Rails} (h : RR xs b s) (c : law25_Call) (now : Int) :
    ∃ b', law25_want.f b c (xs.length : Int) now = some (b', (mcall xs s c.Release (catAt c xs.length now).1 (catAt c xs.length now).2).2.1, (mcall xs s c.Release (catAt c xs.length now).1 (catAt c xs.length now).2).2.2) ∧ RR xs b' (mcall xs s c.Release (catAt c xs.length now).1 (catAt c xs.length now).2).1 := by
  unfold law25_want.f
  rw [cat_ok c T.n now, Option.bind_some]
  by_cases hr : c.Release = true
  · rw [if_pos hr, hr]
    obtain ⟨a', e1, e2⟩ := releaser_ok T g hj h (catAt c xs.length now).1 (catAt c xs.length now).2
    rw [e1]; exact ⟨a', rfl, e2⟩
  · rw [if_neg hr]
    rw [Bool.not_eq_true] at hr
    rw [hr]
    obtain ⟨a', e1, e2⟩ := acquirer_ok T g hj h (catAt c xs.length now).1 (catAt c xs.length now).2
    rw [e1]; exact ⟨a', rfl, e2⟩

theorem same_ok (ys : List api_RailOp) (h : ys.length ≤ 1000000) : help_Equal_api_RailOp.f ys ys = some true := by
  unfold help_Equal_api_RailOp.f
  rw [if_neg (by simp)]
  have key : help_Equal_api_RailOp.l0 ys ys FUEL 0 = some (.nxt ()) := by
    refine loop_c (L := fun k (_ : Unit) i => help_Equal_api_RailOp.l0 ys ys k i) ys.length (fun i _ => True) (fun o => o = some (.nxt ())) ?_ ?_ FUEL 0 () (Nat.zero_le _) (FUEL_pos (by omega)) trivial
    · intro k s i hi _
      rw [help_Equal_api_RailOp.l0, if_pos (by simp; omega), idx_get hi]
      simp only [Option.bind_some]
      rw [if_neg (by simp)]
      exact .inl ⟨(), trivial, by rw [wi_succ (by omega)]⟩
    · intro k s _
      rw [help_Equal_api_RailOp.l0, if_neg (by simp)]
  rw [key]; rfl

theorem copy_ok (h8 : xs.length ≤ 8) {a : rails_Rails} {s : Ms} (h : RI xs a s) : rails_Rails_Copy.f a = some (some a) := by
  have := h.2.1
  unfold rails_Rails_Copy.f slices_Clone_rails_rail.f
  rw [app_ok (by simp; omega)]; rfl
theorem copyr_ok (h8 : xs.length ≤ 8) {b : ref25_Rails} {s : Ms} (h : RR xs b s) : ref25_Rails_Copy.f b = some (some b) := by
  have h1 := h.1
  have h2 := h.2.2.1.1
  have h3 := h.2.2.2.1
  unfold ref25_Rails_Copy.f
  rw [app_ok (by rw [h1]; simp; omega), Option.bind_some, app_ok (by simp; omega), Option.bind_some, app_ok (by simp; omega)]; rfl

/-- The calls of a sequence, one after the other. -/
def callOf (xs : List api_Rail) (s : Ms) (c : law25_Call) (now : Int) : Ms × List api_RailOp × Int := mcall xs s c.Release (catAt c xs.length now).1 (catAt c xs.length now).2
end
end Go.Proofs.Ytfiodhdldleocaa.Sim
