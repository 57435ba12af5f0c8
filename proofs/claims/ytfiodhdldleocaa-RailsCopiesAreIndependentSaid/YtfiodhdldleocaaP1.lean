/-
  The laws of New, of calls against the reference, of copies.
-/
import Derived.Test.YtfiodhdldleocaaC2
import Derived.Test.YtfiodhdldleocaaLwRailsNewAgrees
import Derived.Test.YtfiodhdldleocaaLwRailsCallsAgree
import Derived.Test.YtfiodhdldleocaaLwRailsCopiesAreIndependent
namespace Go.Proofs.Ytfiodhdldleocaa.Sim
open Go
set_option linter.unusedVariables false
set_option maxRecDepth 100000

theorem pass_ok {ρ : Type} {L : Nat → Int → Option ρ} (n : Nat) (v : Option ρ) (hn : n < FUEL) (step : ∀ k (i : Nat), i < n → L (k + 1) (i : Int) = L k ((i + 1 : Nat) : Int)) (fin : ∀ k, L (k + 1) (n : Int) = v) : L FUEL 0 = v :=
  loop_c (L := fun k (_ : Unit) i => L k i) n (fun _ _ => True) (fun o => o = v) (fun k s i hi _ => .inl ⟨(), trivial, step k i hi⟩) (fun k s _ => fin k) FUEL 0 () (Nat.zero_le _) (by omega) trivial

theorem pureNew : law25_RailsNewAgrees.Pure := by
  intro p0 p1 p2 h0 h1 h2
  unfold law25_RailsNewAgrees.f
  rw [awake_ok]
  by_cases hl : 20 < p0.length
  · rw [if_pos (by simp; omega)]; rfl
  · rw [if_neg (by simp; omega)]
    obtain ⟨xs, rk, e1, T⟩ := some_ok p0 h0.1 h0.2
    have hn := T.n
    rw [rnew_ok, fnew_ok, Option.bind_some, Option.bind_some, e1, Option.bind_some]
    have h48 : ∃ v : List api_Rail, (if decide (0 < (xs.length : Int)) = true then ((help_Mod.f p1 (xs.length : Int)).bind fun r59 => (help_Mod.f p2 (wi ((xs.length : Int) + 2))).bind fun r67 => (idx xs r59).bind fun x72 => some (upd xs r59 ({ x72 with Supply := wi (r67 - 1) } : api_Rail))) else (some xs) : Option ((List api_Rail))) = some v := by
      by_cases hz : 0 < (xs.length : Int)
      · rw [if_pos (by simpa using hz)]
        obtain ⟨r, hr, r0, r1⟩ := mod_ok (x := p1) hz (by omega)
        obtain ⟨r', hr', _⟩ := mod_ok (x := p2) (n := wi ((xs.length : Int) + 2)) (by rw [wi_id (by omega) (by omega)]; omega) (by rw [wi_id (by omega) (by omega)]; omega)
        rw [hr, Option.bind_some, hr', Option.bind_some, at_ r0 r1]
        exact ⟨_, rfl⟩
      · rw [if_neg (by simpa using hz)]; exact ⟨_, rfl⟩
    obtain ⟨v, hv⟩ := h48
    rw [hv, Option.bind_some, rnew_ok, fnew_ok, Option.bind_some, Option.bind_some]
    have key : ∀ c : Int, ∀ (A B : Type) (a : A) (b : B), ((if c = 0 then (some a, (0 : Int)) else ((none : Option A), c)).2 = c ∧ (if c = 0 then (some b, (0 : Int)) else ((none : Option B), c)).2 = c ∧ (if c = 0 then (some a, (0 : Int)) else ((none : Option A), c)).1.isNone = (c != 0)) := by
      intro c A B a b
      by_cases hc : c = 0
      · subst hc; simp
      · simp [hc]
    rw [(key (newcode p0) _ ref25_Rails (rails_Rails.mk (p0.map rail0) 0) (ref25_Rails.mk p0 [] [] 0)).1, (key (newcode v) _ ref25_Rails (rails_Rails.mk (v.map rail0) 0) (ref25_Rails.mk p0 [] [] 0)).1,
      (key (newcode p0) rails_Rails _ (rails_Rails.mk (p0.map rail0) 0) (ref25_Rails.mk p0 (List.replicate p0.length 0) (List.replicate p0.length 0) 0)).2.1, (key (newcode v) rails_Rails _ (rails_Rails.mk (p0.map rail0) 0) (ref25_Rails.mk v (List.replicate v.length 0) (List.replicate v.length 0) 0)).2.1,
      (key (newcode p0) _ ref25_Rails (rails_Rails.mk (p0.map rail0) 0) (ref25_Rails.mk p0 [] [] 0)).2.2, (key (newcode v) _ ref25_Rails (rails_Rails.mk (v.map rail0) 0) (ref25_Rails.mk p0 [] [] 0)).2.2]
    rw [if_pos (by simp)]
    rfl

section
variable {xs : List api_Rail} {rk : Int → Nat} {t : Int}

theorem calls_l1 (T : Tree xs rk) {s : Ms} (hc : ∀ i, 0 ≤ s.c i) (r : rails_Rails × (List api_RailOp) × Int) (q : ref25_Rails × (List api_RailOp) × Int) (ha : RI xs r.1 s) (hb : RR xs q.1 s) (p2 : Int) :
    law25_RailsCallsAgree.l1 p2 xs r q FUEL (-1) = some (.nxt (r.1, q.1)) := by
  have hn := T.n
  refine pass_ok (L := fun fu i => law25_RailsCallsAgree.l1 p2 xs r q fu (i - 1)) (xs.length + 2) _ (FUEL_pos (by omega)) ?_ ?_
  · intro k i hi
    rw [law25_RailsCallsAgree.l1, if_pos (by simp; omega)]
    simp only [ready_ok ha, readyr_ok hb, count_ok ha, countr_ok hb, pow_ok ha, powr_ok hb hc, Option.bind_some]
    rw [if_neg (by simp)]
    simp only [Option.bind_some]
    rw [if_neg (by simp)]
    simp only [Option.bind_some]
    rw [if_neg (by simp), wi_id (by omega) (by omega)]
    congr 1; omega
  · intro k
    rw [law25_RailsCallsAgree.l1, if_neg (by simp; omega)]

theorem pureCalls : law25_RailsCallsAgree.Pure := by
  intro p0 p1 p2 h0 h1 h2
  unfold law25_RailsCallsAgree.f
  rw [awake_ok]
  by_cases hl : 40 < p1.length
  · rw [if_pos (by simp; omega)]; rfl
  · rw [if_neg (by simp; omega)]
    obtain ⟨xs, rk, e1, T⟩ := some_ok p0 h0.1 h0.2
    obtain ⟨e2, hI⟩ := rnew_tree T
    obtain ⟨e3, hR⟩ := fnew_tree T
    rw [e1, Option.bind_some, e2, Option.bind_some, e3, Option.bind_some, if_neg (by simp), Option.bind_some, Option.bind_some]
    have key : law25_RailsCallsAgree.l0 p1 p2 xs FUEL (rails_Rails.mk (xs.map rail0) 0) (ref25_Rails.mk xs (List.replicate xs.length 0) (List.replicate xs.length 0) 0) 0 = some (.nxt ()) := by
      refine loop_c (L := fun fu (z : rails_Rails × ref25_Rails) i => law25_RailsCallsAgree.l0 p1 p2 xs fu z.1 z.2 i) p1.length (fun i z => ∃ s u, Gs xs i s u ∧ RI xs z.1 s ∧ RR xs z.2 s) (fun o => o = some (.nxt ())) ?_ ?_ FUEL 0 (_, _) (Nat.zero_le _) (FUEL_pos (by omega)) ⟨st0, fun _ => 0, gs0, hI, hR⟩
      · rintro fu ⟨a, b⟩ i hi ⟨s, u, g, ha, hb⟩
        simp only at ha hb ⊢
        rw [law25_RailsCallsAgree.l0, if_pos (by simp; omega), idx_get hi, Option.bind_some]
        obtain ⟨a', f1, f2⟩ := do_ok T g (by omega) ha p1[i] b.Clock
        obtain ⟨b', f3, f4⟩ := want_ok T g (by omega) hb p1[i] b.Clock
        obtain ⟨g', rp, le⟩ := mcall_good T g p1[i].Release (catAt p1[i] xs.length b.Clock).1 (catAt p1[i] xs.length b.Clock).2
        rw [f1, Option.bind_some, f3, Option.bind_some]
        simp only
        rw [if_neg (by simp), same_ok _ (by omega), Option.bind_some, Option.bind_some, if_neg (by simp)]
        refine .inl ⟨(a', b'), ⟨_, _, g', f2, f4⟩, ?_⟩
        rw [calls_l1 T g'.inv.c0 _ _ f2 f4, Option.bind_some]
        simp only [Fl.go]
        rw [wi_succ (by omega)]
      · rintro fu ⟨a, b⟩ _
        simp only
        rw [law25_RailsCallsAgree.l0, if_neg (by simp)]
    rw [key]; rfl

theorem pureCopies : law25_RailsCopiesAreIndependent.Pure := by
  intro p0 p1 p2 h0 h1 h2
  unfold law25_RailsCopiesAreIndependent.f
  rw [awake_ok]
  by_cases hl : 20 < p1.length ∨ 20 < p2.length
  · rw [if_pos (by simp; omega)]; rfl
  · rw [if_neg (by simp; omega)]
    obtain ⟨xs, rk, e1, T⟩ := some_ok p0 h0.1 h0.2
    have hn := T.n
    obtain ⟨e2, hI⟩ := rnew_tree T
    obtain ⟨e3, hR⟩ := fnew_tree T
    rw [e1, Option.bind_some, e2, Option.bind_some, if_neg (by simp), e3, Option.bind_some, Option.bind_some, Option.bind_some]
    have key : ∃ (a : rails_Rails) (b : ref25_Rails) (s : Ms) (u : Fn), law25_RailsCopiesAreIndependent.l0 p1 xs FUEL (rails_Rails.mk (xs.map rail0) 0) (ref25_Rails.mk xs (List.replicate xs.length 0) (List.replicate xs.length 0) 0) 0 = some (a.list, a.now, b.R, b.N, b.Done, b.Clock) ∧ Gs xs p1.length s u ∧ RI xs a s ∧ RR xs b s := by
      refine loop_c (L := fun fu (z : rails_Rails × ref25_Rails) i => law25_RailsCopiesAreIndependent.l0 p1 xs fu z.1 z.2 i) p1.length (fun i z => ∃ s u, Gs xs i s u ∧ RI xs z.1 s ∧ RR xs z.2 s)
        (fun o => ∃ (a : rails_Rails) (b : ref25_Rails) (s : Ms) (u : Fn), o = some (a.list, a.now, b.R, b.N, b.Done, b.Clock) ∧ Gs xs p1.length s u ∧ RI xs a s ∧ RR xs b s) ?_ ?_ FUEL 0 (_, _) (Nat.zero_le _) (FUEL_pos (by omega)) ⟨st0, fun _ => 0, gs0, hI, hR⟩
      · rintro fu ⟨a, b⟩ i hi ⟨s, u, g, ha, hb⟩
        simp only at ha hb ⊢
        rw [law25_RailsCopiesAreIndependent.l0, if_pos (by simp; omega), idx_get hi, Option.bind_some]
        obtain ⟨a', f1, f2⟩ := do_ok T g (by omega) ha p1[i] b.Clock
        obtain ⟨b', f3, f4⟩ := want_ok T g (by omega) hb p1[i] b.Clock
        obtain ⟨g', rp, le⟩ := mcall_good T g p1[i].Release (catAt p1[i] xs.length b.Clock).1 (catAt p1[i] xs.length b.Clock).2
        rw [f1, Option.bind_some, f3, Option.bind_some]
        exact .inl ⟨(a', b'), ⟨_, _, g', f2, f4⟩, by rw [wi_succ (by omega)]⟩
      · rintro fu ⟨a, b⟩ ⟨s, u, g, ha, hb⟩
        simp only
        rw [law25_RailsCopiesAreIndependent.l0, if_neg (by simp)]
        exact ⟨a, b, s, u, rfl, g, ha, hb⟩
    obtain ⟨a, b, s, u, f1, g, ha, hb⟩ := key
    rw [f1, Option.bind_some]
    simp only
    rw [show rails_Rails_Copy.f (rails_Rails.mk a.list a.now) = _ from copy_ok hn ha, Option.bind_some, show ref25_Rails_Copy.f (ref25_Rails.mk b.R b.N b.Done b.Clock) = _ from copyr_ok hn hb, Option.bind_some, if_neg (by simp), Option.bind_some, Option.bind_some]
    have key2 : ∃ (a : rails_Rails) (b : ref25_Rails) (s : Ms), law25_RailsCopiesAreIndependent.l1 p2 xs FUEL a b 0 = some (.nxt (a.list, a.now, b.R, b.N, b.Done, b.Clock)) ∧ RI xs a s ∧ RR xs b s → True := ⟨a, b, s, fun _ => trivial⟩
    have key3 : ∃ (a' : rails_Rails) (b' : ref25_Rails) (s' : Ms), law25_RailsCopiesAreIndependent.l1 p2 xs FUEL a b 0 = some (.nxt (a'.list, a'.now, b'.R, b'.N, b'.Done, b'.Clock)) ∧ RI xs a' s' ∧ RR xs b' s' := by
      refine loop_c (L := fun fu (z : rails_Rails × ref25_Rails) i => law25_RailsCopiesAreIndependent.l1 p2 xs fu z.1 z.2 i) p2.length (fun i z => ∃ s u, Gs xs (p1.length + i) s u ∧ RI xs z.1 s ∧ RR xs z.2 s)
        (fun o => ∃ (a' : rails_Rails) (b' : ref25_Rails) (s' : Ms), o = some (.nxt (a'.list, a'.now, b'.R, b'.N, b'.Done, b'.Clock)) ∧ RI xs a' s' ∧ RR xs b' s') ?_ ?_ FUEL 0 (a, b) (Nat.zero_le _) (FUEL_pos (by omega)) ⟨s, u, g, ha, hb⟩
      · rintro fu ⟨a, b⟩ i hi ⟨s, u, g, ha, hb⟩
        simp only at ha hb ⊢
        rw [law25_RailsCopiesAreIndependent.l1, if_pos (by simp; omega), idx_get hi, Option.bind_some]
        obtain ⟨a', f1, f2⟩ := do_ok T g (by omega) ha p2[i] b.Clock
        obtain ⟨b', f3, f4⟩ := want_ok T g (by omega) hb p2[i] b.Clock
        obtain ⟨g', rp, le⟩ := mcall_good T g p2[i].Release (catAt p2[i] xs.length b.Clock).1 (catAt p2[i] xs.length b.Clock).2
        rw [f1, Option.bind_some, f3, Option.bind_some]
        simp only
        rw [if_neg (by simp), same_ok _ (by omega), Option.bind_some, Option.bind_some, if_neg (by simp)]
        exact .inl ⟨(a', b'), ⟨_, _, g', f2, f4⟩, by rw [wi_succ (by omega)]⟩
      · rintro fu ⟨a, b⟩ ⟨s, u, g, ha, hb⟩
        simp only
        rw [law25_RailsCopiesAreIndependent.l1, if_neg (by simp)]
        exact ⟨a, b, s, rfl, ha, hb⟩
    obtain ⟨a', b', s', f2, ha', hb'⟩ := key3
    rw [f2, Option.bind_some]
    simp only [Fl.go]
    have key4 : law25_RailsCopiesAreIndependent.l2 xs (a.list, a.now, b.R, b.N, b.Done, b.Clock) (a'.list, a'.now, b'.R, b'.N, b'.Done, b'.Clock) FUEL 0 = some (.nxt ()) := by
      refine pass_ok (L := law25_RailsCopiesAreIndependent.l2 xs (a.list, a.now, b.R, b.N, b.Done, b.Clock) (a'.list, a'.now, b'.R, b'.N, b'.Done, b'.Clock)) xs.length _ (FUEL_pos (by omega)) ?_ ?_
      · intro k i hi
        rw [law25_RailsCopiesAreIndependent.l2, if_pos (by simp; omega)]
        simp only
        rw [show rails_Rails_ReadyAt.f (rails_Rails.mk a.list a.now) (i : Int) = _ from ready_ok ha i, show rails_Rails_Count.f (rails_Rails.mk a.list a.now) (i : Int) = _ from count_ok ha i, show rails_Rails_Count.f (rails_Rails.mk a'.list a'.now) (i : Int) = _ from count_ok ha' i,
          show ref25_Rails_ReadyAt.f (ref25_Rails.mk b.R b.N b.Done b.Clock) (i : Int) = _ from readyr_ok hb i, show ref25_Rails_Count.f (ref25_Rails.mk b.R b.N b.Done b.Clock) (i : Int) = _ from countr_ok hb i, show ref25_Rails_Count.f (ref25_Rails.mk b'.R b'.N b'.Done b'.Clock) (i : Int) = _ from countr_ok hb' i]
        simp only [Option.bind_some]
        rw [if_neg (by simp)]
        simp only [Option.bind_some]
        rw [if_neg (by simp)]
        simp only [Option.bind_some]
        rw [if_neg (by simp), wi_succ (by omega)]
      · intro k
        rw [law25_RailsCopiesAreIndependent.l2, if_neg (by simp)]
    rw [key4]; rfl
end
end Go.Proofs.Ytfiodhdldleocaa.Sim
