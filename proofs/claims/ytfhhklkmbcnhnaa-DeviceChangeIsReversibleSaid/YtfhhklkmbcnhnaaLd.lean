/-
  Plain lemmas on the printed functions of the device laws: what Some makes, when inputs are large.
-/
import Derived.Test.YtfhhklkmbcnhnaaLc
namespace Go.Proofs.Ytfhhklkmbcnhnaa.Sim
open Go
set_option linter.unusedVariables false

/-- Rising numbers from 0 to n - 1, at most three. -/
structure Picked (n : Int) (l : List Int) : Prop where
  few : l.length ≤ 3
  up : l.Pairwise (· < ·)
  lo : ∀ x ∈ l, 0 ≤ x
  hi : ∀ x ∈ l, x < n

theorem pick_l1 (p : List Int) (n : Int) (h0 : 0 < n) (hn : n < 1000) (acc : List Int) (v : Int) (hp : p.length ≤ maxLen) (hacc : acc.length < 1000) : ∀ (d fuel i : Nat), i + d = p.length → d < fuel →
    law27_ascending.l1 p n acc v fuel (i : Int) = some (acc ++ [v]) ∨ law27_ascending.l1 p n acc v fuel (i : Int) = some acc := by
  rw [maxLen_eq] at hp
  intro d
  induction d with
  | zero =>
    intro fuel i h1 h2
    obtain ⟨k, rfl⟩ : ∃ m, fuel = m + 1 := ⟨fuel - 1, by omega⟩
    exact .inr (by rw [law27_ascending.l1, if_neg (by simp; omega)])
  | succ d ih =>
    intro fuel i h1 h2
    obtain ⟨k, rfl⟩ : ∃ m, fuel = m + 1 := ⟨fuel - 1, by omega⟩
    have hlt : i < p.length := by omega
    obtain ⟨r, hr, _, _⟩ := mod_ok (x := p[i]) h0 (by omega)
    rw [law27_ascending.l1, if_pos (by simp; omega), idx_get hlt]
    simp only [Option.bind_some, hr]
    by_cases e : (r == v) = true
    · rw [if_pos e, app_ok (by simp; omega)]
      exact .inl rfl
    · rw [if_neg e, wi_id (by omega) (by omega)]
      exact ih k (i + 1) (by omega) (by omega)

theorem pick_l0 (p : List Int) (n : Int) (h0 : 0 < n) (hn : n < 1000) (hp : p.length ≤ maxLen) : ∀ (d fuel v : Nat) (acc : List Int), (v : Int) + d = n → d < fuel → Picked v acc →
    ∃ r, law27_ascending.l0 p n fuel acc (v : Int) = some r ∧ Picked n r := by
  intro d
  induction d with
  | zero =>
    intro fuel v acc h1 h2 h3
    obtain ⟨k, rfl⟩ : ∃ m, fuel = m + 1 := ⟨fuel - 1, by omega⟩
    have e : (v : Int) = n := by omega
    exact ⟨acc, by rw [law27_ascending.l0, if_neg (by simp; omega)], e ▸ h3⟩
  | succ d ih =>
    intro fuel v acc h1 h2 h3
    obtain ⟨k, rfl⟩ : ∃ m, fuel = m + 1 := ⟨fuel - 1, by omega⟩
    rw [law27_ascending.l0]
    by_cases hl : acc.length < 3
    · rw [if_pos (by simp; omega), wi_id (by omega) (by omega), show ((v : Int) + 1) = ((v + 1 : Nat) : Int) from rfl]
      rcases pick_l1 p n h0 hn acc v hp (by omega) p.length FUEL 0 (by omega) (FUEL_lt hp) with h4 | h4 <;> rw [Int.natCast_zero] at h4 <;> rw [h4] <;> simp only [Option.bind_some]
      · refine ih k (v + 1) _ (by omega) (by omega) ⟨by simp; omega, ?_, ?_, ?_⟩
        · rw [List.pairwise_append]
          refine ⟨h3.up, by simp, fun a ha b hb => ?_⟩
          have := h3.hi a ha
          simp at hb; omega
        · intro x hx
          rcases List.mem_append.1 hx with hx | hx
          · exact h3.lo x hx
          · simp at hx; omega
        · intro x hx
          rcases List.mem_append.1 hx with hx | hx
          · have := h3.hi x hx; omega
          · simp at hx; omega
      · exact ih k (v + 1) _ (by omega) (by omega) ⟨h3.few, h3.up, h3.lo, fun x hx => by have := h3.hi x hx; omega⟩
    · rw [if_neg (by simp; omega)]
      exact ⟨acc, rfl, h3.few, h3.up, h3.lo, fun x hx => by have := h3.hi x hx; omega⟩

theorem pick_ok (p : List Int) (n : Int) (h0 : 0 < n) (hn : n < 1000) (hp : p.length ≤ maxLen) : ∃ r, law27_ascending.f p n = some r ∧ Picked n r := by
  unfold law27_ascending.f
  obtain ⟨r, h1, h2⟩ := pick_l0 p n h0 hn hp n.toNat FUEL 0 [] (by omega) (by unfold FUEL; omega) ⟨by simp, by simp, by simp, by simp⟩
  rw [Int.natCast_zero] at h1
  exact ⟨r, by rw [h1]; rfl, h2⟩

/-- The rails of a device that Some has made. -/
def PickedAll (n : Int) (d : api_PowerDevice) : Prop := Picked n d.Rails.a0 ∧ Picked n d.Rails.a1 ∧ Picked n d.Rails.a2 ∧ Picked n d.Rails.a3
/-- Its deepest states. -/
def Deepens (d : api_PowerDevice) : Prop := d.Deepest.a0 = 0 ∧ 0 ≤ d.Deepest.a1 ∧ d.Deepest.a1 ≤ d.Deepest.a2 ∧ d.Deepest.a2 ≤ d.Deepest.a3 ∧ d.Deepest.a3 ≤ d.Deepest.a4 ∧ d.Deepest.a4 ≤ d.Deepest.a5 ∧ d.Deepest.a5 ≤ 4

theorem Picked.nil (n : Int) : Picked n [] := ⟨by simp, by simp, by simp, by simp⟩

/-- All rails' lists of an argument are lists. -/
def Short (d : api_PowerDevice) : Prop := d.Rails.a0.length ≤ maxLen ∧ d.Rails.a1.length ≤ maxLen ∧ d.Rails.a2.length ≤ maxLen ∧ d.Rails.a3.length ≤ maxLen
theorem Short.of {d : api_PowerDevice} (h : Wf_api_PowerDevice d) : Short d := ⟨h.2.1.1, h.2.2.1.1, h.2.2.2.1.1, h.2.2.2.2.1.1⟩

theorem some_l1 (n : Int) (h0 : 0 ≤ n) (hn : n < 1000) (x : api_PowerDevice) (hx : Short x) (d : api_PowerDevice) (hd : PickedAll n d) :
    ∃ r, law27_Some.l1 n x FUEL d 0 = some r ∧ PickedAll n r ∧ r.Deepest = d.Deepest ∧ r.Parent = d.Parent ∧ r.WakeDevice = d.WakeDevice ∧ r.WakeSystem = d.WakeSystem := by
  have hF : FUEL = (18446744073709551611 + 1 + 1 + 1 + 1 + 1) := rfl
  rcases Int.lt_or_eq_of_le h0 with hpos | rfl
  · obtain ⟨r0, e0, q0⟩ := pick_ok x.Rails.a0 n hpos hn hx.1
    obtain ⟨r1, e1, q1⟩ := pick_ok x.Rails.a1 n hpos hn hx.2.1
    obtain ⟨r2, e2, q2⟩ := pick_ok x.Rails.a2 n hpos hn hx.2.2.1
    obtain ⟨r3, e3, q3⟩ := pick_ok x.Rails.a3 n hpos hn hx.2.2.2
    have w0 : wi ((0 : Int) + 1) = 1 := rfl
    have w1 : wi ((1 : Int) + 1) = 2 := rfl
    have w2 : wi ((2 : Int) + 1) = 3 := rfl
    have w3 : wi ((3 : Int) + 1) = 4 := rfl
    refine ⟨{ d with Rails := ⟨r0, r1, r2, r3⟩ }, ?_, ⟨q0, q1, q2, q3⟩, rfl, rfl, rfl, rfl⟩
    rw [hF, law27_Some.l1, if_pos (by simp [hpos]), ar4_idx _ 0 (by omega) (by omega), ar4_idx _ 0 (by omega) (by omega), w0]
    simp only [if_true, Option.bind_some, e0, Ar4.put]
    rw [law27_Some.l1, if_pos (by simp [hpos]), ar4_idx _ 1 (by omega) (by omega), ar4_idx _ 1 (by omega) (by omega), w1]
    simp only [if_true, Option.bind_some, e1, Ar4.put, show ((1 : Int) = 0) = False from by simp, if_false]
    rw [law27_Some.l1, if_pos (by simp [hpos]), ar4_idx _ 2 (by omega) (by omega), ar4_idx _ 2 (by omega) (by omega), w2]
    simp only [if_true, Option.bind_some, e2, Ar4.put, show ((2 : Int) = 0) = False from by simp, show ((2 : Int) = 1) = False from by simp, if_false]
    rw [law27_Some.l1, if_pos (by simp [hpos]), ar4_idx _ 3 (by omega) (by omega), ar4_idx _ 3 (by omega) (by omega), w3]
    simp only [if_true, Option.bind_some, e3, Ar4.put, show ((3 : Int) = 0) = False from by simp, show ((3 : Int) = 1) = False from by simp, show ((3 : Int) = 2) = False from by simp, if_false]
    rw [law27_Some.l1, if_neg (by simp)]
  · exact ⟨d, by rw [hF, law27_Some.l1, if_neg (by simp)], hd, rfl, rfl, rfl, rfl⟩

theorem some_l2 (x : api_PowerDevice) (d : api_PowerDevice) (h0 : d.Deepest.a0 = 0) :
    ∃ r, law27_Some.l2 x FUEL d 1 = some r ∧ Deepens r ∧ r.Rails = d.Rails ∧ r.Parent = d.Parent ∧ r.WakeDevice = d.WakeDevice ∧ r.WakeSystem = d.WakeSystem := by
  have hF : FUEL = (18446744073709551610 + 1 + 1 + 1 + 1 + 1 + 1) := rfl
  obtain ⟨r1, e1, l1, u1⟩ := mod_ok (x := x.Deepest.a1) (n := 5) (by omega) (by omega)
  obtain ⟨r2, e2, l2, u2⟩ := mod_ok (x := x.Deepest.a2) (n := 5) (by omega) (by omega)
  obtain ⟨r3, e3, l3, u3⟩ := mod_ok (x := x.Deepest.a3) (n := 5) (by omega) (by omega)
  obtain ⟨r4, e4, l4, u4⟩ := mod_ok (x := x.Deepest.a4) (n := 5) (by omega) (by omega)
  obtain ⟨r5, e5, l5, u5⟩ := mod_ok (x := x.Deepest.a5) (n := 5) (by omega) (by omega)
  have m1 : wi ((1 : Int) - 1) = 0 := rfl
  have m2 : wi ((2 : Int) - 1) = 1 := rfl
  have m3 : wi ((3 : Int) - 1) = 2 := rfl
  have m4 : wi ((4 : Int) - 1) = 3 := rfl
  have m5 : wi ((5 : Int) - 1) = 4 := rfl
  have w1 : wi ((1 : Int) + 1) = 2 := rfl
  have w2 : wi ((2 : Int) + 1) = 3 := rfl
  have w3 : wi ((3 : Int) + 1) = 4 := rfl
  have w4 : wi ((4 : Int) + 1) = 5 := rfl
  have w5 : wi ((5 : Int) + 1) = 6 := rfl
  refine ⟨{ d with Deepest := ⟨d.Deepest.a0, max d.Deepest.a0 r1, max (max d.Deepest.a0 r1) r2, max (max (max d.Deepest.a0 r1) r2) r3, max (max (max (max d.Deepest.a0 r1) r2) r3) r4, max (max (max (max (max d.Deepest.a0 r1) r2) r3) r4) r5⟩ }, ?_, ?_, rfl, rfl, rfl, rfl⟩
  · rw [hF, law27_Some.l2, if_pos (by simp), m1, ar6_idx _ 0 (by omega) (by omega), ar6_idx _ 1 (by omega) (by omega), ar6_idx _ 1 (by omega) (by omega), w1]
    simp only [if_true, Option.bind_some, e1, Ar6.put, show ((1 : Int) = 0) = False from by simp, if_false]
    rw [law27_Some.l2, if_pos (by simp), m2, ar6_idx _ 1 (by omega) (by omega), ar6_idx _ 2 (by omega) (by omega), ar6_idx _ 2 (by omega) (by omega), w2]
    simp only [if_true, Option.bind_some, e2, Ar6.put, show ((1 : Int) = 0) = False from by simp, show ((2 : Int) = 0) = False from by simp, show ((2 : Int) = 1) = False from by simp, if_false]
    rw [law27_Some.l2, if_pos (by simp), m3, ar6_idx _ 2 (by omega) (by omega), ar6_idx _ 3 (by omega) (by omega), ar6_idx _ 3 (by omega) (by omega), w3]
    simp only [if_true, Option.bind_some, e3, Ar6.put, show ((2 : Int) = 0) = False from by simp, show ((2 : Int) = 1) = False from by simp, show ((3 : Int) = 0) = False from by simp, show ((3 : Int) = 1) = False from by simp, show ((3 : Int) = 2) = False from by simp, if_false]
    rw [law27_Some.l2, if_pos (by simp), m4, ar6_idx _ 3 (by omega) (by omega), ar6_idx _ 4 (by omega) (by omega), ar6_idx _ 4 (by omega) (by omega), w4]
    simp only [if_true, Option.bind_some, e4, Ar6.put, show ((3 : Int) = 0) = False from by simp, show ((3 : Int) = 1) = False from by simp, show ((3 : Int) = 2) = False from by simp, show ((4 : Int) = 0) = False from by simp, show ((4 : Int) = 1) = False from by simp, show ((4 : Int) = 2) = False from by simp, show ((4 : Int) = 3) = False from by simp, if_false]
    rw [law27_Some.l2, if_pos (by simp), m5, ar6_idx _ 4 (by omega) (by omega), ar6_idx _ 5 (by omega) (by omega), ar6_idx _ 5 (by omega) (by omega), w5]
    simp only [if_true, Option.bind_some, e5, Ar6.put, show ((4 : Int) = 0) = False from by simp, show ((4 : Int) = 1) = False from by simp, show ((4 : Int) = 2) = False from by simp, show ((4 : Int) = 3) = False from by simp, show ((5 : Int) = 0) = False from by simp, show ((5 : Int) = 1) = False from by simp, show ((5 : Int) = 2) = False from by simp, show ((5 : Int) = 3) = False from by simp, show ((5 : Int) = 4) = False from by simp, if_false]
    rw [law27_Some.l2, if_neg (by simp)]
  · unfold Deepens; simp only; omega

/-- What Some makes of one device. -/
structure Made (n : Int) (d : api_PowerDevice) : Prop where
  rails : PickedAll n d
  deep : Deepens d
  wd : 0 ≤ d.WakeDevice ∧ d.WakeDevice ≤ 3
  ws : 0 ≤ d.WakeSystem ∧ d.WakeSystem ≤ 4

theorem some_l0 (p : List api_PowerDevice) (n : Int) (h0 : 0 ≤ n) (hn : n < 1000) (hp : ∀ d ∈ p, Short d) : ∀ (d fuel i : Nat) (acc : List api_PowerDevice), i + d = min p.length 6 → d < fuel → acc.length = i → (∀ x ∈ acc, Made n x) →
    ∃ r, law27_Some.l0 p n fuel acc (i : Int) = some r ∧ r.length = min p.length 6 ∧ ∀ x ∈ r, Made n x := by
  intro d
  induction d with
  | zero =>
    intro fuel i acc h1 h2 h3 h4
    obtain ⟨k, rfl⟩ : ∃ m, fuel = m + 1 := ⟨fuel - 1, by omega⟩
    exact ⟨acc, by rw [law27_Some.l0, if_neg (by simp; omega)], by omega, h4⟩
  | succ d ih =>
    intro fuel i acc h1 h2 h3 h4
    obtain ⟨k, rfl⟩ : ∃ m, fuel = m + 1 := ⟨fuel - 1, by omega⟩
    have hlt : i < p.length := by omega
    obtain ⟨a1, e1, _, _⟩ := mod_ok (x := p[i].Parent) (n := wi ((i : Int) + 1)) (by rw [wi_id] <;> omega) (by rw [wi_id] <;> omega)
    obtain ⟨a2, e2, l2, u2⟩ := mod_ok (x := p[i].WakeSystem) (n := 5) (by omega) (by omega)
    obtain ⟨a3, e3, l3, u3⟩ := mod_ok (x := p[i].WakeDevice) (n := 4) (by omega) (by omega)
    obtain ⟨r1, e4, q1, q2, q3, q4, q5⟩ := some_l1 n h0 hn p[i] (hp _ (List.getElem_mem hlt)) (api_PowerDevice.mk (wi (a1 - 1)) (Ar4.mk ([] : List Int) ([] : List Int) ([] : List Int) ([] : List Int)) (Ar6.mk 0 0 0 0 0 0) a3 a2) ⟨Picked.nil _, Picked.nil _, Picked.nil _, Picked.nil _⟩
    obtain ⟨r2, e5, v1, v2, v3, v4, v5⟩ := some_l2 p[i] r1 (by rw [q2])
    rw [law27_Some.l0, if_pos (by simp; omega), idx_get hlt]
    simp only [Option.bind_some, e1, e2, e3, e4, e5]
    rw [app_ok (by simp; omega)]
    simp only [Option.bind_some]
    rw [wi_id (by omega) (by omega)]
    refine ih k (i + 1) (acc ++ [r2]) (by omega) (by omega) (by simp; omega) (fun x hx => ?_)
    rcases List.mem_append.1 hx with hx | hx
    · exact h4 x hx
    · simp only [List.mem_cons, List.not_mem_nil, or_false] at hx
      subst hx
      exact ⟨by unfold PickedAll at q1 ⊢; rw [v2]; exact q1, v1, by rw [v4, q4]; exact ⟨l3, show a3 ≤ 3 by omega⟩, by rw [v5, q5]; exact ⟨l2, show a2 ≤ 4 by omega⟩⟩

theorem some_ok (p : List api_PowerDevice) (n : Int) (h0 : 0 ≤ n) (hn : n < 1000) (hp : ∀ d ∈ p, Short d) : ∃ r, law27_Some.f p n = some r ∧ r.length = min p.length 6 ∧ ∀ x ∈ r, Made n x := by
  unfold law27_Some.f
  obtain ⟨r, h1, h2⟩ := some_l0 p n h0 hn hp (min p.length 6) FUEL 0 [] (by omega) (by unfold FUEL; omega) rfl (by simp)
  rw [Int.natCast_zero] at h1
  exact ⟨r, by rw [h1]; rfl, h2⟩

theorem Made.few {n : Int} {d : api_PowerDevice} (h : Made n d) : Few 1000000 d := by
  obtain ⟨⟨a, b, c, e⟩, _⟩ := h
  exact ⟨by have := a.few; omega, by have := b.few; omega, by have := c.few; omega, by have := e.few; omega⟩

theorem Made.needs {n : Int} {d : api_PowerDevice} (h : Made n d) (s : Int) : Picked n (needs d s) := by
  obtain ⟨⟨a, b, c, e⟩, _⟩ := h
  unfold Sim.needs
  repeat' split
  all_goals first | assumption | exact Picked.nil _

theorem Picked.asc {n : Int} {l : List Int} (h : Picked n l) : asc l = true := asc_pairwise.2 h.up

/-! ### large -/

theorem large_l1 (p : List api_PowerDevice) (i : Nat) (hi : i < p.length) : (Few 20 p[i] ∧ law27_large.l1 p (i : Int) FUEL 0 = some (.nxt ())) ∨ law27_large.l1 p (i : Int) FUEL 0 = some (.out (.out true)) := by
  have hF : FUEL = (18446744073709551611 + 1 + 1 + 1 + 1 + 1) := rfl
  have w0 : wi ((0 : Int) + 1) = 1 := rfl
  have w1 : wi ((1 : Int) + 1) = 2 := rfl
  have w2 : wi ((2 : Int) + 1) = 3 := rfl
  have w3 : wi ((3 : Int) + 1) = 4 := rfl
  rw [hF, law27_large.l1, if_pos (by simp), idx_get hi]
  simp only [Option.bind_some]
  rw [ar4_idx _ 0 (by omega) (by omega)]
  simp only [Option.bind_some, if_true]
  by_cases c0 : p[i].Rails.a0.length ≤ 20
  · rw [if_neg (by simp; omega), w0, law27_large.l1, if_pos (by simp), idx_get hi]
    simp only [Option.bind_some]
    rw [ar4_idx _ 1 (by omega) (by omega)]
    simp only [Option.bind_some, if_true, show ((1 : Int) = 0) = False from by simp, if_false]
    by_cases c1 : p[i].Rails.a1.length ≤ 20
    · rw [if_neg (by simp; omega), w1, law27_large.l1, if_pos (by simp), idx_get hi]
      simp only [Option.bind_some]
      rw [ar4_idx _ 2 (by omega) (by omega)]
      simp only [Option.bind_some, if_true, show ((2 : Int) = 0) = False from by simp, show ((2 : Int) = 1) = False from by simp, if_false]
      by_cases c2 : p[i].Rails.a2.length ≤ 20
      · rw [if_neg (by simp; omega), w2, law27_large.l1, if_pos (by simp), idx_get hi]
        simp only [Option.bind_some]
        rw [ar4_idx _ 3 (by omega) (by omega)]
        simp only [Option.bind_some, show ((3 : Int) = 0) = False from by simp, show ((3 : Int) = 1) = False from by simp, show ((3 : Int) = 2) = False from by simp, if_false]
        by_cases c3 : p[i].Rails.a3.length ≤ 20
        · rw [if_neg (by simp; omega), w3, law27_large.l1, if_neg (by simp)]
          exact .inl ⟨⟨c0, c1, c2, c3⟩, rfl⟩
        · exact .inr (if_pos (by simp; omega))
      · exact .inr (if_pos (by simp; omega))
    · exact .inr (if_pos (by simp; omega))
  · exact .inr (if_pos (by simp; omega))

theorem large_l0 (p : List api_PowerDevice) (hp : p.length ≤ 20) : ∀ (d fuel i : Nat), i + d = p.length → d < fuel → (∀ j (h : j < p.length), j < i → Few 20 p[j]) →
    ((∀ x ∈ p, Few 20 x) ∧ law27_large.l0 p fuel (i : Int) = some (.nxt ())) ∨ law27_large.l0 p fuel (i : Int) = some (.out true) := by
  intro d
  induction d with
  | zero =>
    intro fuel i h1 h2 h3
    obtain ⟨k, rfl⟩ : ∃ m, fuel = m + 1 := ⟨fuel - 1, by omega⟩
    refine .inl ⟨fun x hx => ?_, by rw [law27_large.l0, if_neg (by simp; omega)]⟩
    obtain ⟨j, hj, rfl⟩ := List.getElem_of_mem hx
    exact h3 j hj (by omega)
  | succ d ih =>
    intro fuel i h1 h2 h3
    obtain ⟨k, rfl⟩ : ∃ m, fuel = m + 1 := ⟨fuel - 1, by omega⟩
    have hlt : i < p.length := by omega
    rw [law27_large.l0, if_pos (by simp; omega)]
    rcases large_l1 p i hlt with ⟨h4, h5⟩ | h5
    · rw [h5]
      simp only [Option.bind_some, Fl.go]
      rw [wi_id (by omega) (by omega)]
      refine ih k (i + 1) (by omega) (by omega) (fun j hj hlt2 => ?_)
      rcases Nat.lt_or_ge j i with h6 | h6
      · exact h3 j hj h6
      · have : j = i := by omega
        subst this; exact h4
    · rw [h5]
      exact .inr rfl

theorem large_ok (p : List api_PowerDevice) : law27_large.f p = some true ∨ (law27_large.f p = some false ∧ p.length ≤ 20 ∧ ∀ x ∈ p, Few 20 x) := by
  unfold law27_large.f
  by_cases h : p.length ≤ 20
  · rw [if_neg (by simp; omega)]
    rcases large_l0 p h p.length FUEL 0 (by omega) (by unfold FUEL; omega) (fun _ _ h => by omega) with ⟨h1, h2⟩ | h2
    · rw [Int.natCast_zero] at h2
      exact .inr ⟨by rw [h2]; rfl, h, h1⟩
    · rw [Int.natCast_zero] at h2
      exact .inl (by rw [h2]; rfl)
  · exact .inl (if_pos (by simp; omega))

theorem Few.mono {m n : Nat} {d : api_PowerDevice} (h : Few m d) (hl : m ≤ n) : Few n d := by
  obtain ⟨a, b, c, e⟩ := h; exact ⟨by omega, by omega, by omega, by omega⟩

end Go.Proofs.Ytfhhklkmbcnhnaa.Sim
