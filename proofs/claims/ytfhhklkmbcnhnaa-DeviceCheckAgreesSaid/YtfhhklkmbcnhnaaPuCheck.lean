/-
  The plain law behind DeviceCheckAgrees.
-/
import Derived.Test.YtfhhklkmbcnhnaaPuTarget
namespace Go.Proofs.Ytfhhklkmbcnhnaa.Sim
open Go
set_option linter.unusedVariables false

def railOK (r : Int) (x : List Int) : Bool := asc x && x.all (fun v => decide (0 ≤ v) && decide (v < r))

theorem asc_ends {x : List Int} (h : asc x = true) (i : Nat) (hi : i < x.length) : x[0]'(by omega) ≤ x[i] ∧ x[i] ≤ x[x.length - 1]'(by omega) := by
  have hp := asc_pairwise.1 h
  rw [List.pairwise_iff_getElem] at hp
  constructor
  · rcases Nat.eq_zero_or_pos i with rfl | h0
    · exact Int.le_refl _
    · have := hp 0 i (by omega) hi h0; omega
  · rcases Nat.lt_or_ge i (x.length - 1) with h1 | h1
    · have := hp i (x.length - 1) hi (by omega) h1; omega
    · have : i = x.length - 1 := by omega
      subst this; exact Int.le_refl _

theorem rail_dev (x : List Int) (r : Int) (hx : x.length ≤ maxLen) :
    ((device_ascending.f x).bind fun r29 => (if (!r29) = true then some true else (if decide (0 < (x.length : Int)) = true then (idx x 0).bind fun x42 => (if decide (x42 < 0) = true then some true else (idx x (wi ((x.length : Int) - 1))).bind fun x53 => some (decide (r ≤ x53))).bind fun t59 => some t59 else some false).bind fun t84 => some t84)) = some (!railOK r x) := by
  rw [ascending_ok x hx]
  rw [maxLen_eq] at hx
  unfold railOK
  cases ha : asc x
  · simp
  · simp only [Option.bind_some, Bool.not_true, Bool.false_eq_true, if_false, Bool.true_and]
    by_cases h0 : x.length = 0
    · have : x = [] := List.eq_nil_of_length_eq_zero h0
      subst this
      simp
    · have hz : 0 < x.length := by omega
      rw [if_pos (by simp; omega), show (0 : Int) = ((0 : Nat) : Int) from rfl, idx_get hz]
      simp only [Option.bind_some, Int.natCast_zero]
      by_cases hn : x[0] < 0
      · rw [if_pos (by simpa using hn)]
        simp only [Option.bind_some, Option.some.injEq]
        have : (x.all fun v => decide (0 ≤ v) && decide (v < r)) = false := by
          rw [List.all_eq_false]
          exact ⟨x[0], List.getElem_mem hz, by simp; omega⟩
        rw [this]; rfl
      · rw [if_neg (by simpa using hn), wi_id (by omega) (by omega), show ((x.length : Int) - 1) = ((x.length - 1 : Nat) : Int) from by omega, idx_get (show x.length - 1 < x.length by omega)]
        simp only [Option.bind_some, Option.some.injEq]
        by_cases hr : r ≤ x[x.length - 1]
        · have : (x.all fun v => decide (0 ≤ v) && decide (v < r)) = false := by
            rw [List.all_eq_false]
            exact ⟨x[x.length - 1], List.getElem_mem _, by simp; omega⟩
          rw [this]; simp [hr]
        · have : (x.all fun v => decide (0 ≤ v) && decide (v < r)) = true := by
            rw [List.all_eq_true]
            intro v hv
            obtain ⟨i, hi, rfl⟩ := List.getElem_of_mem hv
            have := asc_ends ha i hi
            simp only [Bool.and_eq_true, decide_eq_true_eq]; omega
          rw [this]; simp [hr]

theorem rail_ref_l1 (x : List Int) (r : Int) (hx : x.length ≤ maxLen) : ∀ (d fuel i : Nat), i + d = x.length → d < fuel →
    ref27_valid.l1 r x fuel (i : Int) = if (x.drop i).all (fun v => decide (0 ≤ v) && decide (v < r)) = true then some (.nxt ()) else some (.out (.out false)) := by
  rw [maxLen_eq] at hx
  intro d
  induction d with
  | zero =>
    intro fuel i h1 h2
    obtain ⟨k, rfl⟩ : ∃ m, fuel = m + 1 := ⟨fuel - 1, by omega⟩
    rw [ref27_valid.l1, if_neg (by simp; omega), List.drop_of_length_le (by omega), if_pos (by simp)]
  | succ d ih =>
    intro fuel i h1 h2
    obtain ⟨k, rfl⟩ : ∃ m, fuel = m + 1 := ⟨fuel - 1, by omega⟩
    have hlt : i < x.length := by omega
    rw [ref27_valid.l1, if_pos (by simp; omega), idx_get hlt, List.drop_eq_getElem_cons hlt, List.all_cons]
    simp only [Option.bind_some]
    by_cases hb : x[i] < 0 ∨ r ≤ x[i]
    · rw [if_pos (by simpa using hb), if_neg]
      simp only [Bool.and_eq_true, decide_eq_true_eq]; omega
    · rw [if_neg (by simpa using hb), wi_id (by omega) (by omega), show ((i : Int) + 1) = ((i + 1 : Nat) : Int) from rfl, ih k (i + 1) (by omega) (by omega)]
      have : (decide (0 ≤ x[i]) && decide (x[i] < r)) = true := by simp only [Bool.and_eq_true, decide_eq_true_eq]; omega
      rw [this, Bool.true_and]

theorem rail_ref (x : List Int) (r : Int) (hx : x.length ≤ maxLen) :
    ((ref27_ascending.f x).bind fun r128 => if (!r128) = true then (some (.out (.out false))) else (ref27_valid.l1 r x FUEL 0) : Option (Fl (Fl (Bool) (Unit)) (Unit))) = if railOK r x = true then some (.nxt ()) else some (.out (.out false)) := by
  rw [ref_ascending, ascending_ok x hx]
  have h := rail_ref_l1 x r hx x.length FUEL 0 (by omega) (FUEL_lt hx)
  simp only [Int.natCast_zero, List.drop_zero] at h
  simp only [Option.bind_some, h]
  unfold railOK
  cases asc x <;> simp

def rail (d : api_PowerDevice) (k : Int) : List Int := if k = 0 then d.Rails.a0 else if k = 1 then d.Rails.a1 else if k = 2 then d.Rails.a2 else d.Rails.a3

theorem Short.rail {d : api_PowerDevice} (h : Short d) (k : Int) : (rail d k).length ≤ maxLen := by
  obtain ⟨a, b, c, e⟩ := h
  unfold Sim.rail
  repeat' split
  all_goals assumption

theorem dev_step (d : api_PowerDevice) (r : Int) (hd : Short d) (f : Nat) (k : Int) (h0 : 0 ≤ k) (h1 : k < 4) : device_valid.l0 d r (f + 1) k = if railOK r (rail d k) = true then device_valid.l0 d r f (k + 1) else some (.out false) := by
  have hg := rail_dev (rail d k) r (hd.rail k)
  rw [Option.bind_eq_some_iff] at hg
  obtain ⟨b, e1, e2⟩ := hg
  rw [device_valid.l0, if_pos (by simpa using h1), ar4_idx _ k h0 h1]
  simp only [Option.bind_some]
  rw [show (if k = 0 then d.Rails.a0 else if k = 1 then d.Rails.a1 else if k = 2 then d.Rails.a2 else d.Rails.a3) = rail d k from rfl, e1]
  simp only [Option.bind_some]
  rw [e2]
  simp only [Option.bind_some]
  rw [wi_id (by omega) (by omega)]
  cases railOK r (rail d k) <;> simp

theorem ref_step (d : api_PowerDevice) (r : Int) (hd : Short d) (f : Nat) (k : Int) (h0 : 0 ≤ k) (h1 : k < 4) : ref27_valid.l0 d r (f + 1) k = if railOK r (rail d k) = true then ref27_valid.l0 d r f (k + 1) else some (.out false) := by
  have hg := rail_ref (rail d k) r (hd.rail k)
  rw [ref27_valid.l0, if_pos (by simpa using h1), ar4_idx _ k h0 h1]
  simp only [Option.bind_some]
  rw [show (if k = 0 then d.Rails.a0 else if k = 1 then d.Rails.a1 else if k = 2 then d.Rails.a2 else d.Rails.a3) = rail d k from rfl, hg]
  rw [wi_id (by omega) (by omega)]
  cases railOK r (rail d k) <;> simp [Fl.go]

theorem dev_end (d : api_PowerDevice) (r : Int) (f : Nat) : device_valid.l0 d r (f + 1) (0 + 1 + 1 + 1 + 1) = some (.nxt ()) := by rw [device_valid.l0, if_neg (by simp)]
theorem ref_end (d : api_PowerDevice) (r : Int) (f : Nat) : ref27_valid.l0 d r (f + 1) (0 + 1 + 1 + 1 + 1) = some (.nxt ()) := by rw [ref27_valid.l0, if_neg (by simp)]

def rails4 (d : api_PowerDevice) (r : Int) : Bool := railOK r (rail d 0) && railOK r (rail d 1) && railOK r (rail d 2) && railOK r (rail d 3)

theorem dev_rails (d : api_PowerDevice) (r : Int) (hd : Short d) : device_valid.l0 d r FUEL 0 = if rails4 d r = true then some (.nxt ()) else some (.out false) := by
  have hF : FUEL = (18446744073709551611 + 1 + 1 + 1 + 1 + 1) := rfl
  unfold rails4
  rw [hF, dev_step d r hd _ 0 (by omega) (by omega), dev_step d r hd _ (0 + 1) (by omega) (by omega), dev_step d r hd _ (0 + 1 + 1) (by omega) (by omega), dev_step d r hd _ (0 + 1 + 1 + 1) (by omega) (by omega), dev_end]
  simp only [show (0 : Int) + 1 = 1 from rfl, show (1 : Int) + 1 = 2 from rfl, show (2 : Int) + 1 = 3 from rfl]
  cases railOK r (rail d 0) <;> cases railOK r (rail d 1) <;> cases railOK r (rail d 2) <;> cases railOK r (rail d 3) <;> simp

theorem ref_rails (d : api_PowerDevice) (r : Int) (hd : Short d) : ref27_valid.l0 d r FUEL 0 = if rails4 d r = true then some (.nxt ()) else some (.out false) := by
  have hF : FUEL = (18446744073709551611 + 1 + 1 + 1 + 1 + 1) := rfl
  unfold rails4
  rw [hF, ref_step d r hd _ 0 (by omega) (by omega), ref_step d r hd _ (0 + 1) (by omega) (by omega), ref_step d r hd _ (0 + 1 + 1) (by omega) (by omega), ref_step d r hd _ (0 + 1 + 1 + 1) (by omega) (by omega), ref_end]
  simp only [show (0 : Int) + 1 = 1 from rfl, show (1 : Int) + 1 = 2 from rfl, show (2 : Int) + 1 = 3 from rfl]
  cases railOK r (rail d 0) <;> cases railOK r (rail d 1) <;> cases railOK r (rail d 2) <;> cases railOK r (rail d 3) <;> simp

theorem deep_same (d : api_PowerDevice) : ∀ fuel i, device_valid.l1 d fuel i = ref27_valid.l2 d fuel i
  | 0, _ => rfl
  | k + 1, i => by
    rw [device_valid.l1, ref27_valid.l2]
    have e : ∀ x : Int, (!(decide (0 ≤ x) && decide (x ≤ 4))) = (decide (x < 0) || decide (4 < x)) := by
      intro x
      by_cases h1 : x < 0 <;> by_cases h2 : 4 < x <;> simp [h1, h2] <;> omega
    simp only [device_isState.f, Option.bind_some, e, deep_same d k]

theorem deep_some (d : api_PowerDevice) : ∀ (n fuel i : Nat), i + n = 6 → n < fuel → ref27_valid.l2 d fuel (i : Int) = some (.nxt ()) ∨ ref27_valid.l2 d fuel (i : Int) = some (.out false) := by
  intro n
  induction n with
  | zero =>
    intro fuel i h1 h2
    obtain ⟨k, rfl⟩ : ∃ m, fuel = m + 1 := ⟨fuel - 1, by omega⟩
    exact .inl (by rw [ref27_valid.l2, if_neg (by simp; omega)])
  | succ n ih =>
    intro fuel i h1 h2
    obtain ⟨k, rfl⟩ : ∃ m, fuel = m + 1 := ⟨fuel - 1, by omega⟩
    obtain ⟨x, hx⟩ : ∃ x, idx d.Deepest.l (i : Int) = some x := ⟨_, ar6_idx _ _ (by omega) (by omega)⟩
    rw [ref27_valid.l2, if_pos (by simp; omega), hx]
    simp only [Option.bind_some]
    obtain ⟨b, hb⟩ : ∃ b, (if ((decide (x < 0)) || (decide (4 < x))) = true then some true else (if decide (0 < (i : Int)) = true then (idx (Ar6.l d.Deepest) (wi ((i : Int) - 1))).bind fun x260 => some (decide (x < x260)) else some false).bind fun t267 => some t267) = some b := by
      split
      · exact ⟨_, rfl⟩
      · split
        · rename_i h0
          have h0' : 0 < i := by simpa using h0
          rw [wi_id (by omega) (by omega), ar6_idx _ _ (by omega) (by omega)]
          exact ⟨_, rfl⟩
        · exact ⟨_, rfl⟩
    rw [hb]
    simp only [Option.bind_some]
    cases b
    · simp only [Bool.false_eq_true, if_false]
      rw [wi_id (by omega) (by omega)]
      exact ih k (i + 1) (by omega) (by omega)
    · exact .inr rfl

theorem valid_same (d : api_PowerDevice) (hd : Short d) (i r : Int) : ∃ b, device_valid.f d i r = some b ∧ ref27_valid.f d i r = some b := by
  unfold device_valid.f ref27_valid.f
  rw [dev_rails d r hd, ref_rails d r hd, deep_same]
  have hs := deep_some d 6 FUEL 0 (by omega) (by unfold FUEL; omega)
  rw [Int.natCast_zero] at hs
  by_cases hc : (((((((decide ((-1) ≤ d.Parent)) && (decide (d.Parent < i))) && (d.Deepest.a0 == 0)) && (decide (0 ≤ d.WakeSystem))) && (decide (d.WakeSystem ≤ 4))) && (decide (0 ≤ d.WakeDevice))) && (decide (d.WakeDevice ≤ 3))) = true
  · have hn : ¬ (((((((decide (d.Parent < (-1))) || (decide (i ≤ d.Parent))) || (d.Deepest.a0 != 0)) || (decide (d.WakeSystem < 0))) || (decide (4 < d.WakeSystem))) || (decide (d.WakeDevice < 0))) || (decide (3 < d.WakeDevice))) = true := by
      simp only [Bool.and_eq_true, decide_eq_true_eq, beq_iff_eq] at hc
      simp only [Bool.or_eq_true, decide_eq_true_eq, bne_iff_ne, ne_eq]
      omega
    rw [if_neg hn, hc]
    cases rails4 d r
    · exact ⟨false, rfl, rfl⟩
    · rcases hs with hs | hs <;> rw [hs]
      · exact ⟨true, rfl, rfl⟩
      · exact ⟨false, rfl, rfl⟩
  · have hn : (((((((decide (d.Parent < (-1))) || (decide (i ≤ d.Parent))) || (d.Deepest.a0 != 0)) || (decide (d.WakeSystem < 0))) || (decide (4 < d.WakeSystem))) || (decide (d.WakeDevice < 0))) || (decide (3 < d.WakeDevice))) = true := by
      simp only [Bool.and_eq_true, decide_eq_true_eq, beq_iff_eq] at hc
      simp only [Bool.or_eq_true, decide_eq_true_eq, bne_iff_ne, ne_eq]
      omega
    rw [if_pos hn, Bool.not_eq_true] at *
    rw [hc]
    cases rails4 d r
    · exact ⟨false, rfl, rfl⟩
    · rcases hs with hs | hs <;> rw [hs]
      · exact ⟨false, rfl, rfl⟩
      · exact ⟨false, rfl, rfl⟩

theorem check_l0 (p : List api_PowerDevice) (r : Int) (hp : ∀ d ∈ p, Short d) (hl : p.length ≤ 64) : ∀ (d fuel i : Nat), i + d = p.length → d < fuel →
    ∃ o, device_Check.l0 p r fuel (i : Int) = some o ∧ ref27_Check.l0 p r fuel (i : Int) = some o := by
  intro d
  induction d with
  | zero =>
    intro fuel i h1 h2
    obtain ⟨k, rfl⟩ : ∃ m, fuel = m + 1 := ⟨fuel - 1, by omega⟩
    exact ⟨_, by rw [device_Check.l0, if_neg (by simp; omega)], by rw [ref27_Check.l0, if_neg (by simp; omega)]⟩
  | succ d ih =>
    intro fuel i h1 h2
    obtain ⟨k, rfl⟩ : ∃ m, fuel = m + 1 := ⟨fuel - 1, by omega⟩
    have hlt : i < p.length := by omega
    obtain ⟨b, e1, e2⟩ := valid_same p[i] (hp _ (List.getElem_mem hlt)) (i : Int) r
    rw [device_Check.l0, ref27_Check.l0, if_pos (by simp; omega), if_pos (by simp; omega), idx_get hlt]
    simp only [Option.bind_some, e1, e2]
    cases b
    · exact ⟨_, rfl, rfl⟩
    · simp only [Bool.not_true, Bool.false_eq_true, if_false]
      rw [wi_id (by omega) (by omega)]
      exact ih k (i + 1) (by omega) (by omega)

theorem check_same (p : List api_PowerDevice) (r : Int) (hp : ∀ d ∈ p, Short d) : ∃ e, device_Check.f p r = some e ∧ ref27_Check.f p r = some e := by
  unfold device_Check.f ref27_Check.f
  by_cases hb : (((decide (64 < (p.length : Int))) || (decide (r < 0))) || (decide (64 < r))) = true
  · rw [if_pos hb, if_pos hb]; exact ⟨_, rfl, rfl⟩
  · have hl : p.length ≤ 64 := by
      simp only [Bool.or_eq_true, decide_eq_true_eq] at hb; omega
    obtain ⟨o, e1, e2⟩ := check_l0 p r hp hl p.length FUEL 0 (by omega) (by unfold FUEL; omega)
    rw [Int.natCast_zero] at e1 e2
    rw [if_neg hb, if_neg hb, e1, e2]
    cases o <;> exact ⟨_, rfl, rfl⟩

theorem Made.short {n : Int} {d : api_PowerDevice} (h : Made n d) : Short d := by
  obtain ⟨a, b, c, e⟩ := h.few
  unfold Short; rw [maxLen_eq]; omega

theorem changed_ok (x : api_PowerDevice) (n : Int) (hx : Made n x) (p2 p3 p4 : Int) :
    ∃ v, (if ((Int.tmod p4 6) == 0) = true then (some (api_PowerDevice.mk p3 x.Rails x.Deepest x.WakeDevice x.WakeSystem)) else (if ((Int.tmod p4 6) == 1) = true then ((help_Mod.f p3 6).bind fun r162 => (help_Mod.f p2 7).bind fun r167 => (idx (Ar6.l x.Deepest) r162).bind fun x173 => (x.Deepest.put r162 (wi (r167 - 1))).bind fun y178 => some (api_PowerDevice.mk x.Parent x.Rails y178 x.WakeDevice x.WakeSystem)) else (if ((Int.tmod p4 6) == 2) = true then ((help_Mod.f p3 8).bind fun r186 => some (api_PowerDevice.mk x.Parent x.Rails x.Deepest x.WakeDevice (wi (r186 - 1)))) else (if ((Int.tmod p4 6) == 3) = true then ((help_Mod.f p3 7).bind fun r198 => some (api_PowerDevice.mk x.Parent x.Rails x.Deepest (wi (r198 - 1)) x.WakeSystem)) else (if ((Int.tmod p4 6) == 4) = true then ((help_Mod.f p2 4).bind fun r210 => (help_Mod.f p2 4).bind fun r220 => (idx (Ar4.l x.Rails) r220).bind fun x225 => (app ([] : List Int) x225).bind fun y235 => (help_Mod.f p3 8).bind fun r244 => (app y235 [wi (r244 - 1)]).bind fun y254 => (idx (Ar4.l x.Rails) r210).bind fun x263 => (x.Rails.put r210 y254).bind fun y272 => some (api_PowerDevice.mk x.Parent y272 x.Deepest x.WakeDevice x.WakeSystem)) else (some x))))) : Option (api_PowerDevice)) = some v ∧ Short v := by
  have sx := hx.short
  split
  · exact ⟨_, rfl, sx⟩
  split
  · obtain ⟨a, e1, l1, u1⟩ := mod_ok (x := p3) (n := 6) (by omega) (by omega)
    obtain ⟨b, e2, _, _⟩ := mod_ok (x := p2) (n := 7) (by omega) (by omega)
    obtain ⟨y, hy⟩ : ∃ y, x.Deepest.put a (wi (b - 1)) = some y := by
      have : a = 0 ∨ a = 1 ∨ a = 2 ∨ a = 3 ∨ a = 4 ∨ a = 5 := by omega
      rcases this with rfl | rfl | rfl | rfl | rfl | rfl <;> exact ⟨_, rfl⟩
    simp only [e1, e2, ar6_idx _ a l1 u1, hy, Option.bind_some]
    exact ⟨_, rfl, sx⟩
  split
  · obtain ⟨a, e1, l1, u1⟩ := mod_ok (x := p3) (n := 8) (by omega) (by omega)
    simp only [e1, Option.bind_some]
    exact ⟨_, rfl, sx⟩
  split
  · obtain ⟨a, e1, l1, u1⟩ := mod_ok (x := p3) (n := 7) (by omega) (by omega)
    simp only [e1, Option.bind_some]
    exact ⟨_, rfl, sx⟩
  split
  · obtain ⟨a, e1, l1, u1⟩ := mod_ok (x := p2) (n := 4) (by omega) (by omega)
    obtain ⟨b, e2, _, _⟩ := mod_ok (x := p3) (n := 8) (by omega) (by omega)
    obtain ⟨z, hz, hzl⟩ : ∃ z, idx x.Rails.l a = some z ∧ z.length ≤ 1000000 := by
      obtain ⟨f0, f1, f2, f3⟩ := hx.few
      refine ⟨_, ar4_idx _ a l1 u1, ?_⟩
      repeat' split
      all_goals assumption
    obtain ⟨y, hy, hs⟩ : ∃ y, x.Rails.put a (z ++ [wi (b - 1)]) = some y ∧ Short (api_PowerDevice.mk x.Parent y x.Deepest x.WakeDevice x.WakeSystem) := by
      have hzz : (z ++ [wi (b - 1)]).length ≤ maxLen := by rw [maxLen_eq]; simp; omega
      obtain ⟨f0, f1, f2, f3⟩ := sx
      have : a = 0 ∨ a = 1 ∨ a = 2 ∨ a = 3 := by omega
      rcases this with rfl | rfl | rfl | rfl
      · exact ⟨_, rfl, hzz, f1, f2, f3⟩
      · exact ⟨_, rfl, f0, hzz, f2, f3⟩
      · exact ⟨_, rfl, f0, f1, hzz, f3⟩
      · exact ⟨_, rfl, f0, f1, f2, hzz⟩
    simp only [e1, e2, hz, Option.bind_some]
    rw [app_ok (by simp; omega)]
    simp only [Option.bind_some, List.nil_append]
    rw [app_ok (by simp; omega)]
    simp only [Option.bind_some, hy]
    exact ⟨_, rfl, hs⟩
  · exact ⟨_, rfl, sx⟩

theorem checkAgrees : law27_DeviceCheckAgrees.Pure := by
  intro raw n k v how h _ _ _ _
  unfold law27_DeviceCheckAgrees.f
  rcases large_ok raw with h1 | ⟨h1, h2, h3⟩
  · simp only [h1, Option.bind_some, if_true, awake_ok]
  · have hs : ∀ d ∈ raw, Short d := fun d hd => Short.of (h.2 d hd)
    obtain ⟨m, e1, l1, u1⟩ := mod_ok (x := n) (n := 6) (by omega) (by omega)
    obtain ⟨l, e2, e3, e4⟩ := some_ok raw m l1 (by omega) hs
    have hls : ∀ d ∈ l, Short d := fun d hd => (e4 d hd).short
    obtain ⟨c1, g1, g2⟩ := check_same raw n hs
    obtain ⟨c2, g3, g4⟩ := check_same l m hls
    simp only [h1, Option.bind_some, Bool.false_eq_true, if_false, e1, e2, g1, g2, g3, g4, bne_self_eq_false]
    obtain ⟨w, hw, hws⟩ : ∃ w, (if decide (0 < (l.length : Int)) = true then ((help_Mod.f k (l.length : Int)).bind fun r100 => (idx l r100).bind fun x104 => (if ((Int.tmod how 6) == 0) = true then (some (api_PowerDevice.mk v x104.Rails x104.Deepest x104.WakeDevice x104.WakeSystem)) else (if ((Int.tmod how 6) == 1) = true then ((help_Mod.f v 6).bind fun r162 => (help_Mod.f k 7).bind fun r167 => (idx (Ar6.l x104.Deepest) r162).bind fun x173 => (x104.Deepest.put r162 (wi (r167 - 1))).bind fun y178 => some (api_PowerDevice.mk x104.Parent x104.Rails y178 x104.WakeDevice x104.WakeSystem)) else (if ((Int.tmod how 6) == 2) = true then ((help_Mod.f v 8).bind fun r186 => some (api_PowerDevice.mk x104.Parent x104.Rails x104.Deepest x104.WakeDevice (wi (r186 - 1)))) else (if ((Int.tmod how 6) == 3) = true then ((help_Mod.f v 7).bind fun r198 => some (api_PowerDevice.mk x104.Parent x104.Rails x104.Deepest (wi (r198 - 1)) x104.WakeSystem)) else (if ((Int.tmod how 6) == 4) = true then ((help_Mod.f k 4).bind fun r210 => (help_Mod.f k 4).bind fun r220 => (idx (Ar4.l x104.Rails) r220).bind fun x225 => (app ([] : List Int) x225).bind fun y235 => (help_Mod.f v 8).bind fun r244 => (app y235 [wi (r244 - 1)]).bind fun y254 => (idx (Ar4.l x104.Rails) r210).bind fun x263 => (x104.Rails.put r210 y254).bind fun y272 => some (api_PowerDevice.mk x104.Parent y272 x104.Deepest x104.WakeDevice x104.WakeSystem)) else (some x104))))) : Option (api_PowerDevice)).bind fun v146 => (help_Mod.f k (l.length : Int)).bind fun r294 => (idx l r294).bind fun x296 => some (upd l r294 v146)) else (some l) : Option ((List api_PowerDevice))) = some w ∧ ∀ d ∈ w, Short d := by
      by_cases hz : 0 < (l.length : Int)
      · rw [if_pos (by simpa using hz)]
        obtain ⟨i, e5, l5, u5⟩ := mod_ok (x := k) (n := (l.length : Int)) hz (by omega)
        obtain ⟨x, e6, hx⟩ := idx_of l5 u5
        obtain ⟨q, e7, hq⟩ := changed_ok x m (e4 x hx) k v how
        simp only [e5, Option.bind_some, e6]
        rw [e7]
        refine ⟨_, rfl, fun d hd => ?_⟩
        unfold upd at hd
        rcases List.mem_or_eq_of_mem_set hd with hd | rfl
        · exact hls d hd
        · exact hq
      · exact ⟨l, if_neg (by simpa using hz), hls⟩
    obtain ⟨c3, g5, g6⟩ := check_same w m hws
    rw [hw]
    simp only [Option.bind_some, g5, g6, beq_self_eq_true, if_true, awake_ok]

end Go.Proofs.Ytfhhklkmbcnhnaa.Sim
