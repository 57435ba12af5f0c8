/-
  Printed by a program of this session (wip/tools): plain functions with the same answers as the Go functions, and the proofs of it.
-/
import Derived.Test.YtfhhklkmbcnhnaaProg
import Derived.Test.YtfhhklkmbcnhnaaR3
namespace Go.Proofs.Ytfhhklkmbcnhnaa.Sim
open Go
set_option linter.unusedVariables false
set_option linter.unusedSimpArgs false

/-! ### law27_DeviceChangeIsReversible: function 7 -/
def law27_DeviceChangeIsReversible.l1 (r75 : (List Int) × (List Int) × Int) (m0_0 : Int) : Nat → Int → Option (Fl (Fl (Bool) (Unit)) (Unit))
  | 0, _ => none
  | k259 + 1, m1_0 => if decide (m1_0 < (r75.2.1.length : Int)) = true then ((idx r75.1 m0_0).bind fun x268 => (idx r75.2.1 m1_0).bind fun x274 => if (x268 == x274) = true then (some (.out (.out false))) else (law27_DeviceChangeIsReversible.l1 r75 m0_0 k259 (wi (m1_0 + 1)))) else (some (.nxt ()))
def law27_DeviceChangeIsReversible.l0 (r75 : (List Int) × (List Int) × Int) : Nat → Int → Option (Fl (Bool) (Unit))
  | 0, _ => none
  | k247 + 1, m0_0 => if decide (m0_0 < (r75.1.length : Int)) = true then ((law27_DeviceChangeIsReversible.l1 r75 m0_0 FUEL 0 : Option (Fl (Fl (Bool) (Unit)) (Unit))).bind fun o255 => o255.go fun _ => law27_DeviceChangeIsReversible.l0 r75 k247 (wi (m0_0 + 1))) else (some (.nxt ()))
def law27_DeviceChangeIsReversible.f (p0 : api_PowerDevice) (p1 : Int) (p2 : Int) : Option (Bool) := (law27_large.f [p0]).bind fun r13 => if r13 = true then ((law27_awake.f ).bind fun r18 => some r18) else ((law27_Some.f [p0] 5).bind fun r29 => (help_Mod.f p1 5).bind fun r39 => (help_Mod.f p2 5).bind fun r44 => (idx r29 0).bind fun x51 => (device_Change.f x51 r39 r44).bind fun r75 => (device_Change.f x51 r44 r39).bind fun r117 => (if ((r75.2.2 != 0) || (r117.2.2 != 0)) = true then some true else (law27_reverse.f r117.2.1).bind fun r153 => (help_Equal_int.f r75.1 r153).bind fun r161 => some (!r161)).bind fun t166 => (if t166 = true then some true else (law27_reverse.f r117.1).bind fun r198 => (help_Equal_int.f r75.2.1 r198).bind fun r206 => some (!r206)).bind fun t211 => if t211 = true then (some false) else ((law27_DeviceChangeIsReversible.l0 r75 FUEL 0 : Option (Fl (Bool) (Unit))).bind fun o243 => o243.go fun _ => (law27_awake.f ).bind fun r287 => some r287))
set_option maxRecDepth 100000 in
set_option maxHeartbeats 4000000 in
theorem law27_DeviceChangeIsReversible.calls {p0 : api_PowerDevice} {C0 : Nat → Prop} {A0_0 : Option Addr} {cap0_0 : Nat} {A0_1 : Option Addr} {cap0_1 : Nat} {A0_2 : Option Addr} {cap0_2 : Nat} {A0_3 : Option Addr} {cap0_3 : Nat} {p1 : Int} {p2 : Int} {w : World} {g : Nat → Nat} {out : Bool} (N : Nat) (hp0_0 : RdS (kint .i64) w g C0 A0_0 cap0_0 p0.Rails.a0) (hp0_1 : RdS (kint .i64) w g C0 A0_1 cap0_1 p0.Rails.a1) (hp0_2 : RdS (kint .i64) w g C0 A0_2 cap0_2 p0.Rails.a2) (hp0_3 : RdS (kint .i64) w g C0 A0_3 cap0_3 p0.Rails.a3) (hC0 : ∀ c, C0 c → c < N) (H : law27_DeviceChangeIsReversible.f p0 p1 p2 = some out) :
    Calls Try.prog 7 #[.agg #[.int .i64 p0.Parent, .slice A0_0 p0.Rails.a0.length cap0_0, .slice A0_1 p0.Rails.a1.length cap0_1, .slice A0_2 p0.Rails.a2.length cap0_2, .slice A0_3 p0.Rails.a3.length cap0_3, .int .i64 p0.Deepest.a0, .int .i64 p0.Deepest.a1, .int .i64 p0.Deepest.a2, .int .i64 p0.Deepest.a3, .int .i64 p0.Deepest.a4, .int .i64 p0.Deepest.a5, .int .i64 p0.WakeDevice, .int .i64 p0.WakeSystem], .int .i64 p1, .int .i64 p2] w (fun e w' => ∃ v, e = .returned v ∧ ∃ (g' : Nat → Nat), v = .bool out ∧ Fr (fun q => N ≤ q) w g w' g') := by
  unfold law27_DeviceChangeIsReversible.f at H
  refine calls_enter Try.func7 rfl Try.ntmps7 rfl (fun a hS => ?_)
  replace hS : Sl 91 a [(0, .agg #[.int .i64 p0.Parent, .slice A0_0 p0.Rails.a0.length cap0_0, .slice A0_1 p0.Rails.a1.length cap0_1, .slice A0_2 p0.Rails.a2.length cap0_2, .slice A0_3 p0.Rails.a3.length cap0_3, .int .i64 p0.Deepest.a0, .int .i64 p0.Deepest.a1, .int .i64 p0.Deepest.a2, .int .i64 p0.Deepest.a3, .int .i64 p0.Deepest.a4, .int .i64 p0.Deepest.a5, .int .i64 p0.WakeDevice, .int .i64 p0.WakeSystem]), (1, .int .i64 p1), (2, .int .i64 p2)] := hS
  have hF : Fr (fun q => N ≤ q) w g w g := Fr.refl _ _ _
  refine c_region (fun K hK => ?_)
  refine st_eff hS rfl rfl rfl (e_box (cs := [.int .i64 p0.Parent, .slice A0_0 p0.Rails.a0.length cap0_0, .slice A0_1 p0.Rails.a1.length cap0_1, .slice A0_2 p0.Rails.a2.length cap0_2, .slice A0_3 p0.Rails.a3.length cap0_3, .int .i64 p0.Deepest.a0, .int .i64 p0.Deepest.a1, .int .i64 p0.Deepest.a2, .int .i64 p0.Deepest.a3, .int .i64 p0.Deepest.a4, .int .i64 p0.Deepest.a5, .int .i64 p0.WakeDevice, .int .i64 p0.WakeSystem]) (N + 0) g hS rfl rfl rfl) ?_
  rintro _ a4 w5 g5 ⟨⟨b1, rfl, h2⟩, F5⟩ hS4
  replace hp0_0 := RdS.fr hp0_0 F5 (by decide) (fun _ _ h => h)
  replace hp0_1 := RdS.fr hp0_1 F5 (by decide) (fun _ _ h => h)
  replace hp0_2 := RdS.fr hp0_2 F5 (by decide) (fun _ _ h => h)
  replace hp0_3 := RdS.fr hp0_3 F5 (by decide) (fun _ _ h => h)
  replace hF := hF.trans F5 (fun _ h => h.elim)
  refine st_val hS4 rfl rfl rfl (r_assign hS4 rfl rfl) fun a6 hS6 => wpList_nil (hK _ _ ?_)
  replace hS : Sl 91 _ [(1, .int .i64 p1), (2, .int .i64 p2), (3, .pointer (some ⟨b1, 0, none⟩))] := hS6.re ⟨rfl, rfl, rfl, trivial⟩
  clear hK K
  try clear hS4 hS6
  obtain ⟨a, ha⟩ : ∃ a', a' = a6 := ⟨_, rfl⟩
  rw [← ha] at hS ⊢; clear ha
  refine wp_seq ?_
  obtain ⟨r13, hr14, H⟩ := bind_el H
  refine c_region (fun K hK => ?_)
  refine st_val hS rfl rfl rfl (r_loadN (n := 13) (cs := [.int .i64 p0.Parent, .slice A0_0 p0.Rails.a0.length cap0_0, .slice A0_1 p0.Rails.a1.length cap0_1, .slice A0_2 p0.Rails.a2.length cap0_2, .slice A0_3 p0.Rails.a3.length cap0_3, .int .i64 p0.Deepest.a0, .int .i64 p0.Deepest.a1, .int .i64 p0.Deepest.a2, .int .i64 p0.Deepest.a3, .int .i64 p0.Deepest.a4, .int .i64 p0.Deepest.a5, .int .i64 p0.WakeDevice, .int .i64 p0.WakeSystem]) hS rfl rfl (by kernel_rfl) rfl (Bx.cells_off h2 0 13)) fun a7 hS7 => ?_
  refine st_eff hS7 rfl rfl rfl (e_litD (D := C0) (e := 33) (parts := [(0, .agg #[.int .i64 p0.Parent, .slice A0_0 p0.Rails.a0.length cap0_0, .slice A0_1 p0.Rails.a1.length cap0_1, .slice A0_2 p0.Rails.a2.length cap0_2, .slice A0_3 p0.Rails.a3.length cap0_3, .int .i64 p0.Deepest.a0, .int .i64 p0.Deepest.a1, .int .i64 p0.Deepest.a2, .int .i64 p0.Deepest.a3, .int .i64 p0.Deepest.a4, .int .i64 p0.Deepest.a5, .int .i64 p0.WakeDevice, .int .i64 p0.WakeSystem])]) (cs := [.int .i64 p0.Parent, .slice A0_0 p0.Rails.a0.length cap0_0, .slice A0_1 p0.Rails.a1.length cap0_1, .slice A0_2 p0.Rails.a2.length cap0_2, .slice A0_3 p0.Rails.a3.length cap0_3, .int .i64 p0.Deepest.a0, .int .i64 p0.Deepest.a1, .int .i64 p0.Deepest.a2, .int .i64 p0.Deepest.a3, .int .i64 p0.Deepest.a4, .int .i64 p0.Deepest.a5, .int .i64 p0.WakeDevice, .int .i64 p0.WakeSystem]) kd_api_PowerDevice [p0] (N + 2) g5 hS7 rfl rfl (fun _ => by kernel_rfl) rfl (by decide) (Rows.cons (cs := [.int .i64 p0.Parent, .slice A0_0 p0.Rails.a0.length cap0_0, .slice A0_1 p0.Rails.a1.length cap0_1, .slice A0_2 p0.Rails.a2.length cap0_2, .slice A0_3 p0.Rails.a3.length cap0_3, .int .i64 p0.Deepest.a0, .int .i64 p0.Deepest.a1, .int .i64 p0.Deepest.a2, .int .i64 p0.Deepest.a3, .int .i64 p0.Deepest.a4, .int .i64 p0.Deepest.a5, .int .i64 p0.WakeDevice, .int .i64 p0.WakeSystem]) ⟨A0_0, cap0_0, A0_1, cap0_1, A0_2, cap0_2, A0_3, cap0_3, rfl, hp0_0, hp0_1, hp0_2, hp0_3⟩ Rows.nil)) ?_
  rintro _ a11 w12 g12 ⟨⟨A8, rfl, h9⟩, F12⟩ hS11
  replace h2 := h2.fr F12 (fun h => h)
  replace hp0_0 := RdS.fr hp0_0 F12 (by decide) (fun _ _ h => h)
  replace hp0_1 := RdS.fr hp0_1 F12 (by decide) (fun _ _ h => h)
  replace hp0_2 := RdS.fr hp0_2 F12 (by decide) (fun _ _ h => h)
  replace hp0_3 := RdS.fr hp0_3 F12 (by decide) (fun _ _ h => h)
  replace hF := hF.trans F12 (fun _ h => h.elim)
  refine st_enter hS11 rfl rfl rfl (r_call hS11 rfl rfl (by kernel_rfl)) (law27_large.calls (C0 := (fun q => q = N + 2 ∨ C0 q)) (p0 := [p0]) (g := g12) (N + 20)  (OwD.rd h9) (fun q (hq : q = N + 2 ∨ C0 q) => by rcases hq with hq | hq; all_goals first | (omega; done) | (have := hC0 q hq; omega; done)) hr14) ?_
  rintro _ a15 w16 ⟨g16, rfl, F16⟩ hS15
  replace h9 := OwD.fr h9 F16 (fun (hm : N + 20 ≤ N + 2) => by omega) (fun q (hq : C0 q) (hm : N + 20 ≤ q) => by have := hC0 q hq; omega)
  replace h2 := h2.fr F16 (fun (hm : N + 20 ≤ N + 0) => by omega)
  replace hp0_0 := RdS.fr hp0_0 F16 (by decide) (fun q (hq : C0 q) (hm : N + 20 ≤ q) => by have := hC0 q hq; omega)
  replace hp0_1 := RdS.fr hp0_1 F16 (by decide) (fun q (hq : C0 q) (hm : N + 20 ≤ q) => by have := hC0 q hq; omega)
  replace hp0_2 := RdS.fr hp0_2 F16 (by decide) (fun q (hq : C0 q) (hm : N + 20 ≤ q) => by have := hC0 q hq; omega)
  replace hp0_3 := RdS.fr hp0_3 F16 (by decide) (fun q (hq : C0 q) (hm : N + 20 ≤ q) => by have := hC0 q hq; omega)
  replace hF := hF.trans F16 (fun c' (hm : N + 20 ≤ c') => by show N ≤ c'; omega)
  refine wpList_nil (hK _ _ ?_)
  replace hS : Sl 91 _ [(1, .int .i64 p1), (2, .int .i64 p2), (3, .pointer (some ⟨b1, 0, none⟩)), (20, .bool r13)] := hS15.re ⟨rfl, rfl, rfl, rfl, trivial⟩
  clear hK K
  try clear hS7 hS11 hS15
  obtain ⟨a, ha⟩ : ∃ a', a' = a15 := ⟨_, rfl⟩
  rw [← ha] at hS ⊢; clear ha
  refine c_cond hS rfl (fun hb17 => ?_) (fun hb17 => ?_)
  · replace H := ite_t hb17 H
    obtain ⟨r18, hr19, H⟩ := bind_el H
    refine c_region (fun K hK => ?_)
    refine st_enter hS rfl rfl rfl (r_call hS rfl rfl (by kernel_rfl)) (law27_awake.calls (g := g16) (N + 20)   hr19) ?_
    rintro _ a20 w21 ⟨g21, rfl, F21⟩ hS20
    replace h2 := h2.fr F21 (fun (hm : N + 20 ≤ N + 0) => by omega)
    replace hp0_0 := RdS.fr hp0_0 F21 (by decide) (fun q (hq : C0 q) (hm : N + 20 ≤ q) => by have := hC0 q hq; omega)
    replace hp0_1 := RdS.fr hp0_1 F21 (by decide) (fun q (hq : C0 q) (hm : N + 20 ≤ q) => by have := hC0 q hq; omega)
    replace hp0_2 := RdS.fr hp0_2 F21 (by decide) (fun q (hq : C0 q) (hm : N + 20 ≤ q) => by have := hC0 q hq; omega)
    replace hp0_3 := RdS.fr hp0_3 F21 (by decide) (fun q (hq : C0 q) (hm : N + 20 ≤ q) => by have := hC0 q hq; omega)
    replace hF := hF.trans F21 (fun c' (hm : N + 20 ≤ c') => by show N ≤ c'; omega)
    refine st_val hS20 rfl rfl rfl (r_assign hS20 rfl rfl) fun a22 hS22 => wpList_nil (hK _ _ ?_)
    replace hS : Sl 91 _ [(6, .bool r18)] := hS22.re ⟨rfl, trivial⟩
    clear hK K
    try clear hS20 hS22
    obtain ⟨a, ha⟩ : ∃ a', a' = a22 := ⟨_, rfl⟩
    rw [← ha] at hS ⊢; clear ha
    refine wp_ret ?_
    have e := Option.some.inj H
    subst e
    repeat (with_reducible first | refine then_ret ?_ | refine inBlock_ret ?_)
    exact c_ret1 hS Try.results7 rfl ⟨_, rfl, g21, rfl, hF⟩
  · replace H := ite_f hb17 H
    refine wp_skip ?_
    change Code.wp _ _ _ _ _
    obtain ⟨r29, hr30, H⟩ := bind_el H
    refine c_region (fun K hK => ?_)
    refine st_val hS rfl rfl rfl (r_loadN (n := 13) (cs := [.int .i64 p0.Parent, .slice A0_0 p0.Rails.a0.length cap0_0, .slice A0_1 p0.Rails.a1.length cap0_1, .slice A0_2 p0.Rails.a2.length cap0_2, .slice A0_3 p0.Rails.a3.length cap0_3, .int .i64 p0.Deepest.a0, .int .i64 p0.Deepest.a1, .int .i64 p0.Deepest.a2, .int .i64 p0.Deepest.a3, .int .i64 p0.Deepest.a4, .int .i64 p0.Deepest.a5, .int .i64 p0.WakeDevice, .int .i64 p0.WakeSystem]) hS rfl rfl (by kernel_rfl) rfl (Bx.cells_off h2 0 13)) fun a23 hS23 => ?_
    refine st_eff hS23 rfl rfl rfl (e_litD (D := C0) (e := 33) (parts := [(0, .agg #[.int .i64 p0.Parent, .slice A0_0 p0.Rails.a0.length cap0_0, .slice A0_1 p0.Rails.a1.length cap0_1, .slice A0_2 p0.Rails.a2.length cap0_2, .slice A0_3 p0.Rails.a3.length cap0_3, .int .i64 p0.Deepest.a0, .int .i64 p0.Deepest.a1, .int .i64 p0.Deepest.a2, .int .i64 p0.Deepest.a3, .int .i64 p0.Deepest.a4, .int .i64 p0.Deepest.a5, .int .i64 p0.WakeDevice, .int .i64 p0.WakeSystem])]) (cs := [.int .i64 p0.Parent, .slice A0_0 p0.Rails.a0.length cap0_0, .slice A0_1 p0.Rails.a1.length cap0_1, .slice A0_2 p0.Rails.a2.length cap0_2, .slice A0_3 p0.Rails.a3.length cap0_3, .int .i64 p0.Deepest.a0, .int .i64 p0.Deepest.a1, .int .i64 p0.Deepest.a2, .int .i64 p0.Deepest.a3, .int .i64 p0.Deepest.a4, .int .i64 p0.Deepest.a5, .int .i64 p0.WakeDevice, .int .i64 p0.WakeSystem]) kd_api_PowerDevice [p0] (N + 4) g16 hS23 rfl rfl (fun _ => by kernel_rfl) rfl (by decide) (Rows.cons (cs := [.int .i64 p0.Parent, .slice A0_0 p0.Rails.a0.length cap0_0, .slice A0_1 p0.Rails.a1.length cap0_1, .slice A0_2 p0.Rails.a2.length cap0_2, .slice A0_3 p0.Rails.a3.length cap0_3, .int .i64 p0.Deepest.a0, .int .i64 p0.Deepest.a1, .int .i64 p0.Deepest.a2, .int .i64 p0.Deepest.a3, .int .i64 p0.Deepest.a4, .int .i64 p0.Deepest.a5, .int .i64 p0.WakeDevice, .int .i64 p0.WakeSystem]) ⟨A0_0, cap0_0, A0_1, cap0_1, A0_2, cap0_2, A0_3, cap0_3, rfl, hp0_0, hp0_1, hp0_2, hp0_3⟩ Rows.nil)) ?_
    rintro _ a27 w28 g28 ⟨⟨A24, rfl, h25⟩, F28⟩ hS27
    replace h2 := h2.fr F28 (fun h => h)
    replace hp0_0 := RdS.fr hp0_0 F28 (by decide) (fun _ _ h => h)
    replace hp0_1 := RdS.fr hp0_1 F28 (by decide) (fun _ _ h => h)
    replace hp0_2 := RdS.fr hp0_2 F28 (by decide) (fun _ _ h => h)
    replace hp0_3 := RdS.fr hp0_3 F28 (by decide) (fun _ _ h => h)
    replace hF := hF.trans F28 (fun _ h => h.elim)
    refine st_enter hS27 rfl rfl rfl (r_call hS27 rfl rfl (by kernel_rfl)) (law27_Some.calls (C0 := (fun q => q = N + 4 ∨ C0 q)) (p0 := [p0]) (p1 := 5) (g := g28) (N + 20) (N + 6) (OwD.rd h25) (fun q (hq : q = N + 4 ∨ C0 q) => by rcases hq with hq | hq; all_goals first | (omega; done) | (have := hC0 q hq; omega; done)) (by omega) hr30) ?_
    rintro _ a35 w36 ⟨g36, A31, cap32, rfl, h33, F36⟩ hS35
    replace h25 := OwD.fr h25 F36 (fun (hm : (N + 6 ≤ N + 4 ∧ N + 4 < N + 6 + 2) ∨ N + 20 ≤ N + 4) => by omega) (fun q (hq : C0 q) (hm : (N + 6 ≤ q ∧ q < N + 6 + 2) ∨ N + 20 ≤ q) => by have := hC0 q hq; omega)
    replace h2 := h2.fr F36 (fun (hm : (N + 6 ≤ N + 0 ∧ N + 0 < N + 6 + 2) ∨ N + 20 ≤ N + 0) => by omega)
    replace hp0_0 := RdS.fr hp0_0 F36 (by decide) (fun q (hq : C0 q) (hm : (N + 6 ≤ q ∧ q < N + 6 + 2) ∨ N + 20 ≤ q) => by have := hC0 q hq; omega)
    replace hp0_1 := RdS.fr hp0_1 F36 (by decide) (fun q (hq : C0 q) (hm : (N + 6 ≤ q ∧ q < N + 6 + 2) ∨ N + 20 ≤ q) => by have := hC0 q hq; omega)
    replace hp0_2 := RdS.fr hp0_2 F36 (by decide) (fun q (hq : C0 q) (hm : (N + 6 ≤ q ∧ q < N + 6 + 2) ∨ N + 20 ≤ q) => by have := hC0 q hq; omega)
    replace hp0_3 := RdS.fr hp0_3 F36 (by decide) (fun q (hq : C0 q) (hm : (N + 6 ≤ q ∧ q < N + 6 + 2) ∨ N + 20 ≤ q) => by have := hC0 q hq; omega)
    replace hF := hF.trans F36 (fun c' (hm : (N + 6 ≤ c' ∧ c' < N + 6 + 2) ∨ N + 20 ≤ c') => by show N ≤ c'; omega)
    refine st_val hS35 rfl rfl rfl (r_assign hS35 rfl rfl) fun a37 hS37 => wpList_nil (hK _ _ ?_)
    replace hS : Sl 91 _ [(1, .int .i64 p1), (2, .int .i64 p2), (7, .slice A31 r29.length cap32)] := hS37.re ⟨rfl, rfl, rfl, trivial⟩
    clear hK K
    try clear hS23 hS27 hS35 hS37
    obtain ⟨a, ha⟩ : ∃ a', a' = a37 := ⟨_, rfl⟩
    rw [← ha] at hS ⊢; clear ha
    obtain ⟨r39, hr40, H⟩ := bind_el H
    obtain ⟨r44, hr45, H⟩ := bind_el H
    refine c_region (fun K hK => ?_)
    refine st_val hS rfl rfl rfl (r_move hS rfl rfl) fun a38 hS38 => ?_
    refine st_enter hS38 rfl rfl rfl (r_call hS38 rfl rfl (by kernel_rfl)) (help_Mod.calls (p0 := p1) (p1 := 5) (g := g36) (N + 20)   hr40) ?_
    rintro _ a41 w42 ⟨g42, rfl, F42⟩ hS41
    replace h33 := OwS.fr h33 F42 (fun c' hc (hm : N + 20 ≤ c') => by omega)
    replace hF := hF.trans F42 (fun c' (hm : N + 20 ≤ c') => by show N ≤ c'; omega)
    refine st_val hS41 rfl rfl rfl (r_move hS41 rfl rfl) fun a43 hS43 => ?_
    refine st_enter hS43 rfl rfl rfl (r_call hS43 rfl rfl (by kernel_rfl)) (help_Mod.calls (p0 := p2) (p1 := 5) (g := g42) (N + 20)   hr45) ?_
    rintro _ a46 w47 ⟨g47, rfl, F47⟩ hS46
    replace h33 := OwS.fr h33 F47 (fun c' hc (hm : N + 20 ≤ c') => by omega)
    replace hF := hF.trans F47 (fun c' (hm : N + 20 ≤ c') => by show N ≤ c'; omega)
    refine st_val hS46 rfl rfl rfl (r_assign hS46 rfl rfl) fun a48 hS48 => st_val hS48 rfl rfl rfl (r_assign hS48 rfl rfl) fun a49 hS49 => wpList_nil (hK _ _ ?_)
    replace hS : Sl 91 _ [(7, .slice A31 r29.length cap32), (8, .int .i64 r39), (9, .int .i64 r44)] := hS49.re ⟨rfl, rfl, rfl, trivial⟩
    clear hK K
    try clear hS38 hS41 hS43 hS46 hS48 hS49
    obtain ⟨a, ha⟩ : ∃ a', a' = a49 := ⟨_, rfl⟩
    rw [← ha] at hS ⊢; clear ha
    obtain ⟨x51, hx52, H⟩ := bind_el H
    obtain ⟨r75, hr76, H⟩ := bind_el H
    refine c_region (fun K hK => ?_)
    refine st_val hS rfl rfl rfl (r_move hS rfl rfl) fun a50 hS50 => ?_
    obtain ⟨_, ⟨A54, cap55, A58, cap59, A62, cap63, A66, cap67, rfl, h56, h60, h64, h68⟩, hel53⟩ := El.of (OwD.rdx h33) hx52 (by decide)
    replace hel53 : El w47 g47 (fun q => q = N + 6) A31 ((0 : Int).toNat * 13) [.int .i64 x51.Parent, .slice A54 x51.Rails.a0.length cap55, .slice A58 x51.Rails.a1.length cap59, .slice A62 x51.Rails.a2.length cap63, .slice A66 x51.Rails.a3.length cap67, .int .i64 x51.Deepest.a0, .int .i64 x51.Deepest.a1, .int .i64 x51.Deepest.a2, .int .i64 x51.Deepest.a3, .int .i64 x51.Deepest.a4, .int .i64 x51.Deepest.a5, .int .i64 x51.WakeDevice, .int .i64 x51.WakeSystem] := hel53
    refine st_val hS50 rfl rfl rfl (r_index (e := 33) (sz := 13) (by_ := 168) hS50 rfl rfl rfl (by kernel_rfl) (RdS.some_ (OwS.rd h33) hx52) (idx_lo hx52) (idx_hi hx52)) fun a71 hS71 => st_val hS71 rfl rfl rfl (r_loadN (n := 13) (cs := [.int .i64 x51.Parent, .slice A54 x51.Rails.a0.length cap55, .slice A58 x51.Rails.a1.length cap59, .slice A62 x51.Rails.a2.length cap63, .slice A66 x51.Rails.a3.length cap67, .int .i64 x51.Deepest.a0, .int .i64 x51.Deepest.a1, .int .i64 x51.Deepest.a2, .int .i64 x51.Deepest.a3, .int .i64 x51.Deepest.a4, .int .i64 x51.Deepest.a5, .int .i64 x51.WakeDevice, .int .i64 x51.WakeSystem]) hS71 rfl rfl (by kernel_rfl) rfl (El.cells_off hel53 0 13)) fun a72 hS72 => st_val hS72 rfl rfl rfl (r_move hS72 rfl rfl) fun a73 hS73 => st_val hS73 rfl rfl rfl (r_move hS73 rfl rfl) fun a74 hS74 => ?_
    refine st_enter hS74 rfl rfl rfl (r_call hS74 rfl rfl (by kernel_rfl)) (device_Change.calls (C0 := (fun q => q = N + 6 + 1)) (p0 := x51) (p1 := r39) (p2 := r44) (g := g47) (N + 20) (N + 8) (N + 10) h56 h60 h64 h68 (fun q (hq : q = N + 6 + 1) => by omega) (by omega) (by omega) (by omega) hr76) ?_
    rintro _ a85 w86 ⟨g86, A77, cap78, A81, cap82, rfl, h79, h83, F86⟩ hS85
    replace h33 := OwS.fr h33 F86 (fun c' hc (hm : (N + 8 ≤ c' ∧ c' < N + 8 + 2) ∨ (N + 10 ≤ c' ∧ c' < N + 10 + 2) ∨ N + 20 ≤ c') => by omega)
    replace h56 := RdS.fr h56 F86 (by decide) (fun q (hq : q = N + 6 + 1) (hm : (N + 8 ≤ q ∧ q < N + 8 + 2) ∨ (N + 10 ≤ q ∧ q < N + 10 + 2) ∨ N + 20 ≤ q) => by omega)
    replace h60 := RdS.fr h60 F86 (by decide) (fun q (hq : q = N + 6 + 1) (hm : (N + 8 ≤ q ∧ q < N + 8 + 2) ∨ (N + 10 ≤ q ∧ q < N + 10 + 2) ∨ N + 20 ≤ q) => by omega)
    replace h64 := RdS.fr h64 F86 (by decide) (fun q (hq : q = N + 6 + 1) (hm : (N + 8 ≤ q ∧ q < N + 8 + 2) ∨ (N + 10 ≤ q ∧ q < N + 10 + 2) ∨ N + 20 ≤ q) => by omega)
    replace h68 := RdS.fr h68 F86 (by decide) (fun q (hq : q = N + 6 + 1) (hm : (N + 8 ≤ q ∧ q < N + 8 + 2) ∨ (N + 10 ≤ q ∧ q < N + 10 + 2) ∨ N + 20 ≤ q) => by omega)
    replace hel53 := hel53.fr F86 (fun q (hq : q = N + 6) (hm : (N + 8 ≤ q ∧ q < N + 8 + 2) ∨ (N + 10 ≤ q ∧ q < N + 10 + 2) ∨ N + 20 ≤ q) => by omega)
    replace hF := hF.trans F86 (fun c' (hm : (N + 8 ≤ c' ∧ c' < N + 8 + 2) ∨ (N + 10 ≤ c' ∧ c' < N + 10 + 2) ∨ N + 20 ≤ c') => by show N ≤ c'; omega)
    refine st_val hS85 rfl rfl rfl (r_move hS85 rfl rfl) fun a87 hS87 => st_val hS87 rfl rfl rfl (r_extract hS87 rfl rfl rfl) fun a88 hS88 => st_val hS88 rfl rfl rfl (r_extract hS88 rfl rfl rfl) fun a89 hS89 => st_val hS89 rfl rfl rfl (r_extract hS89 rfl rfl rfl) fun a90 hS90 => st_val hS90 rfl rfl rfl (r_assign hS90 rfl rfl) fun a91 hS91 => st_val hS91 rfl rfl rfl (r_assign hS91 rfl rfl) fun a92 hS92 => st_val hS92 rfl rfl rfl (r_assign hS92 rfl rfl) fun a93 hS93 => wpList_nil (hK _ _ ?_)
    replace hS : Sl 91 _ [(7, .slice A31 r29.length cap32), (8, .int .i64 r39), (9, .int .i64 r44), (10, .slice A77 r75.1.length cap78), (11, .slice A81 r75.2.1.length cap82), (12, .int .i64 r75.2.2)] := hS93.re ⟨rfl, rfl, rfl, rfl, rfl, rfl, trivial⟩
    clear hK K
    try clear hS50 hS71 hS72 hS73 hS74 hS85 hS87 hS88 hS89 hS90 hS91 hS92 hS93
    obtain ⟨a, ha⟩ : ∃ a', a' = a93 := ⟨_, rfl⟩
    rw [← ha] at hS ⊢; clear ha
    obtain ⟨r117, hr118, H⟩ := bind_el H
    refine c_region (fun K hK => ?_)
    refine st_val hS rfl rfl rfl (r_move hS rfl rfl) fun a94 hS94 => ?_
    obtain ⟨_, ⟨A96, cap97, A100, cap101, A104, cap105, A108, cap109, rfl, h98, h102, h106, h110⟩, hel95⟩ := El.of (OwD.rdx h33) hx52 (by decide)
    replace hel95 : El w86 g86 (fun q => q = N + 6) A31 ((0 : Int).toNat * 13) [.int .i64 x51.Parent, .slice A96 x51.Rails.a0.length cap97, .slice A100 x51.Rails.a1.length cap101, .slice A104 x51.Rails.a2.length cap105, .slice A108 x51.Rails.a3.length cap109, .int .i64 x51.Deepest.a0, .int .i64 x51.Deepest.a1, .int .i64 x51.Deepest.a2, .int .i64 x51.Deepest.a3, .int .i64 x51.Deepest.a4, .int .i64 x51.Deepest.a5, .int .i64 x51.WakeDevice, .int .i64 x51.WakeSystem] := hel95
    refine st_val hS94 rfl rfl rfl (r_index (e := 33) (sz := 13) (by_ := 168) hS94 rfl rfl rfl (by kernel_rfl) (RdS.some_ (OwS.rd h33) hx52) (idx_lo hx52) (idx_hi hx52)) fun a113 hS113 => st_val hS113 rfl rfl rfl (r_loadN (n := 13) (cs := [.int .i64 x51.Parent, .slice A96 x51.Rails.a0.length cap97, .slice A100 x51.Rails.a1.length cap101, .slice A104 x51.Rails.a2.length cap105, .slice A108 x51.Rails.a3.length cap109, .int .i64 x51.Deepest.a0, .int .i64 x51.Deepest.a1, .int .i64 x51.Deepest.a2, .int .i64 x51.Deepest.a3, .int .i64 x51.Deepest.a4, .int .i64 x51.Deepest.a5, .int .i64 x51.WakeDevice, .int .i64 x51.WakeSystem]) hS113 rfl rfl (by kernel_rfl) rfl (El.cells_off hel95 0 13)) fun a114 hS114 => st_val hS114 rfl rfl rfl (r_move hS114 rfl rfl) fun a115 hS115 => st_val hS115 rfl rfl rfl (r_move hS115 rfl rfl) fun a116 hS116 => ?_
    refine st_enter hS116 rfl rfl rfl (r_call hS116 rfl rfl (by kernel_rfl)) (device_Change.calls (C0 := (fun q => q = N + 6 + 1)) (p0 := x51) (p1 := r44) (p2 := r39) (g := g86) (N + 20) (N + 12) (N + 14) h98 h102 h106 h110 (fun q (hq : q = N + 6 + 1) => by omega) (by omega) (by omega) (by omega) hr118) ?_
    rintro _ a127 w128 ⟨g128, A119, cap120, A123, cap124, rfl, h121, h125, F128⟩ hS127
    replace h102 := RdS.fr h102 F128 (by decide) (fun q (hq : q = N + 6 + 1) (hm : (N + 12 ≤ q ∧ q < N + 12 + 2) ∨ (N + 14 ≤ q ∧ q < N + 14 + 2) ∨ N + 20 ≤ q) => by omega)
    replace h106 := RdS.fr h106 F128 (by decide) (fun q (hq : q = N + 6 + 1) (hm : (N + 12 ≤ q ∧ q < N + 12 + 2) ∨ (N + 14 ≤ q ∧ q < N + 14 + 2) ∨ N + 20 ≤ q) => by omega)
    replace h110 := RdS.fr h110 F128 (by decide) (fun q (hq : q = N + 6 + 1) (hm : (N + 12 ≤ q ∧ q < N + 12 + 2) ∨ (N + 14 ≤ q ∧ q < N + 14 + 2) ∨ N + 20 ≤ q) => by omega)
    replace hel95 := hel95.fr F128 (fun q (hq : q = N + 6) (hm : (N + 12 ≤ q ∧ q < N + 12 + 2) ∨ (N + 14 ≤ q ∧ q < N + 14 + 2) ∨ N + 20 ≤ q) => by omega)
    replace h33 := OwS.fr h33 F128 (fun c' hc (hm : (N + 12 ≤ c' ∧ c' < N + 12 + 2) ∨ (N + 14 ≤ c' ∧ c' < N + 14 + 2) ∨ N + 20 ≤ c') => by omega)
    replace h79 := OwS.fr h79 F128 (fun c' hc (hm : (N + 12 ≤ c' ∧ c' < N + 12 + 2) ∨ (N + 14 ≤ c' ∧ c' < N + 14 + 2) ∨ N + 20 ≤ c') => by omega)
    replace h83 := OwS.fr h83 F128 (fun c' hc (hm : (N + 12 ≤ c' ∧ c' < N + 12 + 2) ∨ (N + 14 ≤ c' ∧ c' < N + 14 + 2) ∨ N + 20 ≤ c') => by omega)
    replace h98 := RdS.fr h98 F128 (by decide) (fun q (hq : q = N + 6 + 1) (hm : (N + 12 ≤ q ∧ q < N + 12 + 2) ∨ (N + 14 ≤ q ∧ q < N + 14 + 2) ∨ N + 20 ≤ q) => by omega)
    replace hF := hF.trans F128 (fun c' (hm : (N + 12 ≤ c' ∧ c' < N + 12 + 2) ∨ (N + 14 ≤ c' ∧ c' < N + 14 + 2) ∨ N + 20 ≤ c') => by show N ≤ c'; omega)
    refine st_val hS127 rfl rfl rfl (r_move hS127 rfl rfl) fun a129 hS129 => st_val hS129 rfl rfl rfl (r_extract hS129 rfl rfl rfl) fun a130 hS130 => st_val hS130 rfl rfl rfl (r_extract hS130 rfl rfl rfl) fun a131 hS131 => st_val hS131 rfl rfl rfl (r_extract hS131 rfl rfl rfl) fun a132 hS132 => st_val hS132 rfl rfl rfl (r_assign hS132 rfl rfl) fun a133 hS133 => st_val hS133 rfl rfl rfl (r_assign hS133 rfl rfl) fun a134 hS134 => st_val hS134 rfl rfl rfl (r_assign hS134 rfl rfl) fun a135 hS135 => wpList_nil (hK _ _ ?_)
    replace hS : Sl 91 _ [(10, .slice A77 r75.1.length cap78), (11, .slice A81 r75.2.1.length cap82), (12, .int .i64 r75.2.2), (13, .slice A119 r117.1.length cap120), (14, .slice A123 r117.2.1.length cap124), (15, .int .i64 r117.2.2)] := hS135.re ⟨rfl, rfl, rfl, rfl, rfl, rfl, trivial⟩
    clear hK K
    try clear hS94 hS113 hS114 hS115 hS116 hS127 hS129 hS130 hS131 hS132 hS133 hS134 hS135
    obtain ⟨a, ha⟩ : ∃ a', a' = a135 := ⟨_, rfl⟩
    rw [← ha] at hS ⊢; clear ha
    refine wp_seq ?_
    obtain ⟨t166, ht167, H⟩ := bind_el H
    obtain ⟨t211, ht212, H⟩ := bind_el H
    refine c_region (fun K hK => ?_)
    refine st_val hS rfl rfl rfl (r_move hS rfl rfl) fun a136 hS136 => st_val hS136 rfl rfl rfl (r_bin hS136 rfl rfl rfl b_neq) fun a137 hS137 => st_val hS137 rfl rfl rfl (r_move hS137 rfl rfl) fun a138 hS138 => ?_
    refine g_join (N := 91) 3 [(10, .slice A77 r75.1.length cap78), (11, .slice A81 r75.2.1.length cap82), (13, .slice A119 r117.1.length cap120), (14, .slice A123 r117.2.1.length cap124), (54, .bool ((r75.2.2 != 0) || (r117.2.2 != 0)))] ?_ (fun hk => ?_)
    rotate_left
    · rcases Bool.eq_false_or_eq_true ((r75.2.2 != 0)) with hb139 | hb139
      · refine st_off hS138 (want_off hS138 rfl rfl rfl hb139) rfl rfl fun a142 hS142 => st_off hS142 (want_off hS142 rfl rfl rfl hb139) rfl rfl fun a143 hS143 => st_val hS143 rfl rfl rfl (r_pickT hS143 rfl rfl rfl hb139) fun a144 hS144 => hk _ (hS144.re ⟨rfl, rfl, rfl, rfl, (by rw [hb139]; rfl), trivial⟩)
      · refine st_valW hS138 (want_on hS138 rfl rfl rfl hb139) rfl rfl (r_move hS138 rfl rfl) fun a145 hS145 => st_valW hS145 (want_on hS145 rfl rfl rfl hb139) rfl rfl (r_bin hS145 rfl rfl rfl b_neq) fun a146 hS146 => st_val hS146 rfl rfl rfl (r_pickF hS146 rfl rfl rfl hb139) fun a147 hS147 => hk _ (hS147.re ⟨rfl, rfl, rfl, rfl, (by rw [hb139]; rfl), trivial⟩)
    intro a148 hS148
    refine st_val hS148 rfl rfl rfl (r_move hS148 rfl rfl) fun a149 hS149 => ?_
    refine g_joinR 6 (fun a w168 => ∃ (g168 : Nat → Nat), Sl 91 a [(10, .slice A77 r75.1.length cap78), (11, .slice A81 r75.2.1.length cap82), (13, .slice A119 r117.1.length cap120), (61, .bool t166)] ∧ OwS (kint .i64) 3 w168 g168 (N + 12) A119 cap120 r117.1 ∧ OwS (kint .i64) 3 w168 g168 (N + 8) A77 cap78 r75.1 ∧ OwS (kint .i64) 3 w168 g168 (N + 10) A81 cap82 r75.2.1 ∧ Fr (fun q => N ≤ q) w g w168 g168) ?_ (fun hk => ?_)
    rotate_left
    · rcases Bool.eq_false_or_eq_true (((r75.2.2 != 0) || (r117.2.2 != 0))) with hb150 | hb150
      · have H := ite_t hb150 ht167
        have e169 := Option.some.inj H
        refine st_off hS149 (want_off hS149 rfl rfl rfl hb150) rfl rfl fun a170 hS170 => st_off hS170 (want_off hS170 rfl rfl rfl hb150) rfl rfl fun a171 hS171 => st_off hS171 (want_off hS171 rfl rfl rfl hb150) rfl rfl fun a172 hS172 => st_off hS172 (want_off hS172 rfl rfl rfl hb150) rfl rfl fun a173 hS173 => st_off hS173 (want_off hS173 rfl rfl rfl hb150) rfl rfl fun a174 hS174 => st_val hS174 rfl rfl rfl (r_pickT hS174 rfl rfl rfl hb150) fun a175 hS175 => hk _ _ ?_
        exact ⟨g128, hS175.re ⟨rfl, rfl, rfl, (by rw [← e169]; rfl), trivial⟩, h121, h79, h83, hF⟩
      · have H := ite_f hb150 ht167
        obtain ⟨r178, hr179, H⟩ := bind_el H
        obtain ⟨r186, hr187, H⟩ := bind_el H
        have e191 := Option.some.inj H
        refine st_valW hS149 (want_on hS149 rfl rfl rfl hb150) rfl rfl (r_move hS149 rfl rfl) fun a176 hS176 => st_valW hS176 (want_on hS176 rfl rfl rfl hb150) rfl rfl (r_move hS176 rfl rfl) fun a177 hS177 => ?_
        refine st_enterW hS177 (want_on hS177 rfl rfl rfl hb150) rfl rfl (r_call hS177 rfl rfl (by kernel_rfl)) (law27_reverse.calls (C0 := (fun q => q = N + 14)) (p0 := r117.2.1) (g := g128) (N + 20) (N + 16) (OwD.rdf (fun _ _ _ _ _ _ h => h) h125) (fun q (hq : q = N + 14) => by omega) (by omega) hr179) ?_
        rintro _ a184 w185 ⟨g185, A180, cap181, rfl, h182, F185⟩ hS184
        replace h121 := OwS.fr h121 F185 (fun c' hc (hm : (N + 16 ≤ c' ∧ c' < N + 16 + 2) ∨ N + 20 ≤ c') => by omega)
        replace h125 := OwS.fr h125 F185 (fun c' hc (hm : (N + 16 ≤ c' ∧ c' < N + 16 + 2) ∨ N + 20 ≤ c') => by omega)
        replace h79 := OwS.fr h79 F185 (fun c' hc (hm : (N + 16 ≤ c' ∧ c' < N + 16 + 2) ∨ N + 20 ≤ c') => by omega)
        replace h83 := OwS.fr h83 F185 (fun c' hc (hm : (N + 16 ≤ c' ∧ c' < N + 16 + 2) ∨ N + 20 ≤ c') => by omega)
        replace hF := hF.trans F185 (fun c' (hm : (N + 16 ≤ c' ∧ c' < N + 16 + 2) ∨ N + 20 ≤ c') => by show N ≤ c'; omega)
        refine st_enterW hS184 (want_on hS184 rfl rfl rfl hb150) rfl rfl (r_call hS184 rfl rfl (by kernel_rfl)) (help_Equal_int.calls (C0 := (fun q => q = N + 8)) (C1 := (fun q => q = N + 16)) (p0 := r75.1) (p1 := r178) (g := g185) (N + 20)  (OwD.rdf (fun _ _ _ _ _ _ h => h) h79) (fun q (hq : q = N + 8) => by omega) (OwD.rdf (fun _ _ _ _ _ _ h => h) h182) (fun q (hq : q = N + 16) => by omega) hr187) ?_
        rintro _ a188 w189 ⟨g189, rfl, F189⟩ hS188
        replace h121 := OwS.fr h121 F189 (fun c' hc (hm : N + 20 ≤ c') => by omega)
        replace h125 := OwS.fr h125 F189 (fun c' hc (hm : N + 20 ≤ c') => by omega)
        replace h182 := OwS.fr h182 F189 (fun c' hc (hm : N + 20 ≤ c') => by omega)
        replace h79 := OwS.fr h79 F189 (fun c' hc (hm : N + 20 ≤ c') => by omega)
        replace h83 := OwS.fr h83 F189 (fun c' hc (hm : N + 20 ≤ c') => by omega)
        replace hF := hF.trans F189 (fun c' (hm : N + 20 ≤ c') => by show N ≤ c'; omega)
        refine st_valW hS188 (want_on hS188 rfl rfl rfl hb150) rfl rfl (r_not hS188 rfl rfl) fun a190 hS190 => ?_
        refine st_val hS190 rfl rfl rfl (r_pickF hS190 rfl rfl rfl hb150) fun a192 hS192 => hk _ _ ?_
        exact ⟨g189, hS192.re ⟨rfl, rfl, rfl, (by rw [← e191]; rfl), trivial⟩, h121, h79, h83, hF⟩
    rintro a193 w168 ⟨g168, hS193, h121, h79, h83, hF⟩
    refine st_val hS193 rfl rfl rfl (r_move hS193 rfl rfl) fun a194 hS194 => ?_
    refine g_joinR 6 (fun a w213 => ∃ (g213 : Nat → Nat), Sl 91 a [(10, .slice A77 r75.1.length cap78), (11, .slice A81 r75.2.1.length cap82), (68, .bool t211)] ∧ OwS (kint .i64) 3 w213 g213 (N + 8) A77 cap78 r75.1 ∧ OwS (kint .i64) 3 w213 g213 (N + 10) A81 cap82 r75.2.1 ∧ Fr (fun q => N ≤ q) w g w213 g213) ?_ (fun hk => ?_)
    rotate_left
    · rcases Bool.eq_false_or_eq_true (t166) with hb195 | hb195
      · have H := ite_t hb195 ht212
        have e214 := Option.some.inj H
        refine st_off hS194 (want_off hS194 rfl rfl rfl hb195) rfl rfl fun a215 hS215 => st_off hS215 (want_off hS215 rfl rfl rfl hb195) rfl rfl fun a216 hS216 => st_off hS216 (want_off hS216 rfl rfl rfl hb195) rfl rfl fun a217 hS217 => st_off hS217 (want_off hS217 rfl rfl rfl hb195) rfl rfl fun a218 hS218 => st_off hS218 (want_off hS218 rfl rfl rfl hb195) rfl rfl fun a219 hS219 => st_val hS219 rfl rfl rfl (r_pickT hS219 rfl rfl rfl hb195) fun a220 hS220 => hk _ _ ?_
        exact ⟨g168, hS220.re ⟨rfl, rfl, (by rw [← e214]; rfl), trivial⟩, h79, h83, hF⟩
      · have H := ite_f hb195 ht212
        obtain ⟨r223, hr224, H⟩ := bind_el H
        obtain ⟨r231, hr232, H⟩ := bind_el H
        have e236 := Option.some.inj H
        refine st_valW hS194 (want_on hS194 rfl rfl rfl hb195) rfl rfl (r_move hS194 rfl rfl) fun a221 hS221 => st_valW hS221 (want_on hS221 rfl rfl rfl hb195) rfl rfl (r_move hS221 rfl rfl) fun a222 hS222 => ?_
        refine st_enterW hS222 (want_on hS222 rfl rfl rfl hb195) rfl rfl (r_call hS222 rfl rfl (by kernel_rfl)) (law27_reverse.calls (C0 := (fun q => q = N + 12)) (p0 := r117.1) (g := g168) (N + 20) (N + 18) (OwD.rdf (fun _ _ _ _ _ _ h => h) h121) (fun q (hq : q = N + 12) => by omega) (by omega) hr224) ?_
        rintro _ a229 w230 ⟨g230, A225, cap226, rfl, h227, F230⟩ hS229
        replace h121 := OwS.fr h121 F230 (fun c' hc (hm : (N + 18 ≤ c' ∧ c' < N + 18 + 2) ∨ N + 20 ≤ c') => by omega)
        replace h79 := OwS.fr h79 F230 (fun c' hc (hm : (N + 18 ≤ c' ∧ c' < N + 18 + 2) ∨ N + 20 ≤ c') => by omega)
        replace h83 := OwS.fr h83 F230 (fun c' hc (hm : (N + 18 ≤ c' ∧ c' < N + 18 + 2) ∨ N + 20 ≤ c') => by omega)
        replace hF := hF.trans F230 (fun c' (hm : (N + 18 ≤ c' ∧ c' < N + 18 + 2) ∨ N + 20 ≤ c') => by show N ≤ c'; omega)
        refine st_enterW hS229 (want_on hS229 rfl rfl rfl hb195) rfl rfl (r_call hS229 rfl rfl (by kernel_rfl)) (help_Equal_int.calls (C0 := (fun q => q = N + 10)) (C1 := (fun q => q = N + 18)) (p0 := r75.2.1) (p1 := r223) (g := g230) (N + 20)  (OwD.rdf (fun _ _ _ _ _ _ h => h) h83) (fun q (hq : q = N + 10) => by omega) (OwD.rdf (fun _ _ _ _ _ _ h => h) h227) (fun q (hq : q = N + 18) => by omega) hr232) ?_
        rintro _ a233 w234 ⟨g234, rfl, F234⟩ hS233
        replace h121 := OwS.fr h121 F234 (fun c' hc (hm : N + 20 ≤ c') => by omega)
        replace h227 := OwS.fr h227 F234 (fun c' hc (hm : N + 20 ≤ c') => by omega)
        replace h79 := OwS.fr h79 F234 (fun c' hc (hm : N + 20 ≤ c') => by omega)
        replace h83 := OwS.fr h83 F234 (fun c' hc (hm : N + 20 ≤ c') => by omega)
        replace hF := hF.trans F234 (fun c' (hm : N + 20 ≤ c') => by show N ≤ c'; omega)
        refine st_valW hS233 (want_on hS233 rfl rfl rfl hb195) rfl rfl (r_not hS233 rfl rfl) fun a235 hS235 => ?_
        refine st_val hS235 rfl rfl rfl (r_pickF hS235 rfl rfl rfl hb195) fun a237 hS237 => hk _ _ ?_
        exact ⟨g234, hS237.re ⟨rfl, rfl, (by rw [← e236]; rfl), trivial⟩, h79, h83, hF⟩
    rintro a238 w213 ⟨g213, hS238, h79, h83, hF⟩
    refine wpList_nil (hK _ _ ?_)
    replace hS : Sl 91 _ [(10, .slice A77 r75.1.length cap78), (11, .slice A81 r75.2.1.length cap82), (68, .bool t211)] := hS238.re ⟨rfl, rfl, rfl, trivial⟩
    clear hK K
    try clear hS136 hS137 hS138 hS148 hS149 hS193 hS194 hS238
    obtain ⟨a, ha⟩ : ∃ a', a' = a238 := ⟨_, rfl⟩
    rw [← ha] at hS ⊢; clear ha
    refine c_cond hS rfl (fun hb239 => ?_) (fun hb239 => ?_)
    · replace H := ite_t hb239 H
      refine c_pure [(6, .bool false)] (fun R hR => st_val hS rfl rfl rfl (r_assign hS rfl rfl) fun a240 hS240 => wpList_nil (hR _ (hS240.re ⟨rfl, trivial⟩))) ?_
      clear hS
      clear a
      intro a hS
      refine wp_ret ?_
      have e := Option.some.inj H
      subst e
      repeat (with_reducible first | refine then_ret ?_ | refine inBlock_ret ?_)
      exact c_ret1 hS Try.results7 rfl ⟨_, rfl, g213, rfl, hF⟩
    · replace H := ite_f hb239 H
      refine wp_skip ?_
      change Code.wp _ _ _ _ _
      obtain ⟨o243, H, Hl244⟩ := bind_el H
      refine c_cut (fun a w241 => ∃ (g241 : Nat → Nat), o243 = .nxt () ∧ Sl 91 a [] ∧ Fr (fun q => N ≤ q) w g w241 g241) ?_ ?_
      · refine c_pure [(10, .slice A77 r75.1.length cap78), (11, .slice A81 r75.2.1.length cap82), (16, .int .i64 0)] (fun R hR => st_val hS rfl rfl rfl (r_assign hS rfl rfl) fun a245 hS245 => wpList_nil (hR _ (hS245.re ⟨rfl, rfl, rfl, trivial⟩))) ?_
        clear hS
        clear a
        intro a hS
        refine wp_block ?_
        refine wp_loop_ghost (fun kq => fun a w246 => ∃ (m0_0 : Int), ∃ (g246 : Nat → Nat), law27_DeviceChangeIsReversible.l0 r75 kq m0_0 = some o243 ∧ Sl 91 a [(10, .slice A77 r75.1.length cap78), (11, .slice A81 r75.2.1.length cap82), (16, .int .i64 m0_0)] ∧ OwS (kint .i64) 3 w246 g246 (N + 8) A77 cap78 r75.1 ∧ OwS (kint .i64) 3 w246 g246 (N + 10) A81 cap82 r75.2.1 ∧ Fr (fun q => N ≤ q) w g w246 g246) FUEL ?_ ?_
        · exact ⟨0, g213, H, hS.re ⟨rfl, rfl, rfl, trivial⟩, h79, h83, hF⟩
        · clear H
          clear h79 h83 hF
          clear hS
          rintro k247 a w246 ⟨m0_0, g246, hpre0, hS, h79, h83, hF⟩
          have H := hpre0
          clear hpre0
          cases k247 with
          | zero => exact absurd H (by simp [law27_DeviceChangeIsReversible.l0])
          | succ k247 =>
            rw [law27_DeviceChangeIsReversible.l0] at H
            refine wp_seq ?_
            refine c_pure [(10, .slice A77 r75.1.length cap78), (11, .slice A81 r75.2.1.length cap82), (16, .int .i64 m0_0), (72, .bool (decide (m0_0 < (r75.1.length : Int))))] (fun R hR => st_val hS rfl rfl rfl (r_move hS rfl rfl) fun a248 hS248 => st_val hS248 rfl rfl rfl (r_move hS248 rfl rfl) fun a249 hS249 => st_val hS249 rfl rfl rfl (r_len (e := 3) (sz := 1) (by_ := 8) hS249 rfl rfl (by kernel_rfl)) fun a250 hS250 => st_val hS250 rfl rfl rfl (r_bin hS250 rfl rfl rfl b_lss) fun a251 hS251 => wpList_nil (hR _ (hS251.re ⟨rfl, rfl, rfl, rfl, trivial⟩))) ?_
            clear hS
            clear a
            intro a hS
            refine c_cond hS rfl (fun hb252 => ?_) (fun hb252 => ?_)
            · replace H := ite_t hb252 H
              refine wp_skip ?_
              change Code.wp _ _ _ _ _
              obtain ⟨o255, H, Hl256⟩ := bind_el H
              refine c_cut (fun a w253 => ∃ (g253 : Nat → Nat), o255 = .nxt () ∧ Sl 91 a [(10, .slice A77 r75.1.length cap78), (11, .slice A81 r75.2.1.length cap82), (16, .int .i64 m0_0)] ∧ OwS (kint .i64) 3 w253 g253 (N + 8) A77 cap78 r75.1 ∧ OwS (kint .i64) 3 w253 g253 (N + 10) A81 cap82 r75.2.1 ∧ Fr (fun q => N ≤ q) w g w253 g253) ?_ ?_
              · refine wp_block ?_
                refine c_pure [(10, .slice A77 r75.1.length cap78), (11, .slice A81 r75.2.1.length cap82), (16, .int .i64 m0_0), (17, .int .i64 0)] (fun R hR => st_val hS rfl rfl rfl (r_assign hS rfl rfl) fun a257 hS257 => wpList_nil (hR _ (hS257.re ⟨rfl, rfl, rfl, rfl, trivial⟩))) ?_
                clear hS
                clear a
                intro a hS
                refine wp_block ?_
                refine wp_loop_ghost (fun kq => fun a w258 => ∃ (m1_0 : Int), ∃ (g258 : Nat → Nat), law27_DeviceChangeIsReversible.l1 r75 m0_0 kq m1_0 = some o255 ∧ Sl 91 a [(10, .slice A77 r75.1.length cap78), (11, .slice A81 r75.2.1.length cap82), (16, .int .i64 m0_0), (17, .int .i64 m1_0)] ∧ OwS (kint .i64) 3 w258 g258 (N + 8) A77 cap78 r75.1 ∧ OwS (kint .i64) 3 w258 g258 (N + 10) A81 cap82 r75.2.1 ∧ Fr (fun q => N ≤ q) w g w258 g258) FUEL ?_ ?_
                · exact ⟨0, g246, H, hS.re ⟨rfl, rfl, rfl, rfl, trivial⟩, h79, h83, hF⟩
                · clear H
                  clear h79 h83 hF
                  clear hS
                  rintro k259 a w258 ⟨m1_0, g258, hpre0, hS, h79, h83, hF⟩
                  have H := hpre0
                  clear hpre0
                  cases k259 with
                  | zero => exact absurd H (by simp [law27_DeviceChangeIsReversible.l1])
                  | succ k259 =>
                    rw [law27_DeviceChangeIsReversible.l1] at H
                    refine wp_seq ?_
                    refine c_pure [(10, .slice A77 r75.1.length cap78), (11, .slice A81 r75.2.1.length cap82), (16, .int .i64 m0_0), (17, .int .i64 m1_0), (78, .bool (decide (m1_0 < (r75.2.1.length : Int))))] (fun R hR => st_val hS rfl rfl rfl (r_move hS rfl rfl) fun a260 hS260 => st_val hS260 rfl rfl rfl (r_move hS260 rfl rfl) fun a261 hS261 => st_val hS261 rfl rfl rfl (r_len (e := 3) (sz := 1) (by_ := 8) hS261 rfl rfl (by kernel_rfl)) fun a262 hS262 => st_val hS262 rfl rfl rfl (r_bin hS262 rfl rfl rfl b_lss) fun a263 hS263 => wpList_nil (hR _ (hS263.re ⟨rfl, rfl, rfl, rfl, rfl, trivial⟩))) ?_
                    clear hS
                    clear a
                    intro a hS
                    refine c_cond hS rfl (fun hb264 => ?_) (fun hb264 => ?_)
                    · replace H := ite_t hb264 H
                      refine wp_skip ?_
                      change Code.wp _ _ _ _ _
                      refine wp_seq ?_
                      refine wp_block ?_
                      obtain ⟨x268, hx269, H⟩ := bind_el H
                      obtain ⟨x274, hx275, H⟩ := bind_el H
                      refine c_draw (fun K hK => d_start (fun q => False) g258 [] 9 #[false, false, false, false, false, false, false, false, false] (by kernel_rfl) rfl rfl (fun w265 hw265 => ?_))
                      have F265 : Fr (fun _ => False) w258 g258 w265 g258 := by rw [hw265]; exact Fr.drew _ _ _
                      replace h79 := OwS.fr h79 F265 (fun _ _ h => h)
                      replace h83 := OwS.fr h83 F265 (fun _ _ h => h)
                      replace hF := hF.trans F265 (fun _ h => h.elim)
                      have hC : Fr (fun q => False) w265 g258 w265 g258 := Fr.refl _ _ _
                      refine d_pure hS 0 #[true, false, false, false, false, false, false, false, false] rfl rfl rfl rfl (by kernel_rfl) (fun _ _ _ h => h) (fun _ => (r_move hS rfl rfl)) fun a266 hS266 => d_pure hS266 1 #[true, true, false, false, false, false, false, false, false] rfl rfl rfl rfl (by kernel_rfl) (fun _ _ _ h => h) (fun _ => (r_move hS266 rfl rfl)) fun a267 hS267 => d_pure hS267 2 #[true, true, true, false, false, false, false, false, false] rfl rfl rfl rfl (by kernel_rfl) (fun _ _ _ h => h) (fun _ => (r_index (e := 3) (sz := 1) (by_ := 8) hS267 rfl rfl rfl (by kernel_rfl) (RdS.some_ (OwS.rd h79) hx269) (idx_lo hx269) (idx_hi hx269))) fun a270 hS270 => d_take hS270 3 #[true, true, true, true, false, false, false, false, false] rfl rfl rfl rfl (by kernel_rfl) (fun _ _ _ h => h) ⟨_, hC⟩ (fun w' g' Fz => (r_load1 (n := 1) hS270 rfl rfl (by kernel_rfl) (RdS.cell (i := m0_0) (sz := 1) (j := 0) (OwS.rd (OwS.fr h79 Fz (fun _ _ h => h))) hx269 rfl))) fun a271 hS271 => d_pure hS271 4 #[true, true, true, true, true, false, false, false, false] rfl rfl rfl rfl (by kernel_rfl) (fun _ _ _ h => h) (fun _ => (r_move hS271 rfl rfl)) fun a272 hS272 => d_pure hS272 5 #[true, true, true, true, true, true, false, false, false] rfl rfl rfl rfl (by kernel_rfl) (fun _ _ _ h => h) (fun _ => (r_move hS272 rfl rfl)) fun a273 hS273 => d_pure hS273 6 #[true, true, true, true, true, true, true, false, false] rfl rfl rfl rfl (by kernel_rfl) (fun _ _ _ h => h) (fun _ => (r_index (e := 3) (sz := 1) (by_ := 8) hS273 rfl rfl rfl (by kernel_rfl) (RdS.some_ (OwS.rd h83) hx275) (idx_lo hx275) (idx_hi hx275))) fun a276 hS276 => d_take hS276 7 #[true, true, true, true, true, true, true, true, false] rfl rfl rfl rfl (by kernel_rfl) (fun _ _ _ h => h) ⟨_, hC⟩ (fun w' g' Fz => (r_load1 (n := 1) hS276 rfl rfl (by kernel_rfl) (RdS.cell (i := m1_0) (sz := 1) (j := 0) (OwS.rd (OwS.fr h83 Fz (fun _ _ h => h))) hx275 rfl))) fun a277 hS277 => d_pure hS277 8 #[true, true, true, true, true, true, true, true, true] rfl rfl rfl rfl (by kernel_rfl) (fun _ _ _ h => h) (fun _ => (r_bin hS277 rfl rfl rfl b_eql)) fun a278 hS278 => d_done (by kernel_rfl) (hK _ _ ?_)
                      replace hS : Sl 91 _ [(10, .slice A77 r75.1.length cap78), (11, .slice A81 r75.2.1.length cap82), (16, .int .i64 m0_0), (17, .int .i64 m1_0), (89, .bool (x268 == x274))] := hS278.re ⟨rfl, rfl, rfl, rfl, rfl, trivial⟩
                      clear hK K hC
                      try clear hS266 hS267 hS270 hS271 hS272 hS273 hS276 hS277 hS278
                      obtain ⟨a, ha⟩ : ∃ a', a' = a278 := ⟨_, rfl⟩
                      rw [← ha] at hS ⊢; clear ha
                      refine c_cond hS rfl (fun hb279 => ?_) (fun hb279 => ?_)
                      · replace H := ite_t hb279 H
                        refine c_pure [(6, .bool false)] (fun R hR => st_val hS rfl rfl rfl (r_assign hS rfl rfl) fun a280 hS280 => wpList_nil (hR _ (hS280.re ⟨rfl, trivial⟩))) ?_
                        clear hS
                        clear a
                        intro a hS
                        refine wp_ret ?_
                        have e := Option.some.inj H
                        subst e
                        replace H := Fl.go_out Hl256
                        have e := Option.some.inj H
                        subst e
                        replace H := Fl.go_out Hl244
                        have e := Option.some.inj H
                        subst e
                        repeat (with_reducible first | refine then_ret ?_ | refine inBlock_ret ?_)
                        exact c_ret1 hS Try.results7 rfl ⟨_, rfl, g258, rfl, hF⟩
                      · replace H := ite_f hb279 H
                        refine wp_skip ?_
                        change Code.wp _ _ _ _ _
                        refine c_pure1 [(10, .slice A77 r75.1.length cap78), (11, .slice A81 r75.2.1.length cap82), (16, .int .i64 m0_0), (17, .int .i64 (wi (m1_0 + 1)))] (fun R hR => st_val hS rfl rfl rfl (r_move hS rfl rfl) fun a281 hS281 => st_val hS281 rfl rfl rfl (r_bin hS281 rfl rfl rfl b_add) fun a282 hS282 => st_val hS282 rfl rfl rfl (r_assign hS282 rfl rfl) fun a283 hS283 => wpList_nil (hR _ (hS283.re ⟨rfl, rfl, rfl, rfl, trivial⟩))) ?_
                        clear hS
                        clear a
                        intro a hS
                        refine ⟨k259, Nat.lt_succ_self _, ?_⟩
                        exact ⟨wi (m1_0 + 1), g258, H, hS.re ⟨rfl, rfl, rfl, rfl, trivial⟩, h79, h83, hF⟩
                    · replace H := ite_f hb264 H
                      refine wp_exit ?_
                      have e := Option.some.inj H
                      exact ⟨g258, e.symm, hS.re ⟨rfl, rfl, rfl, trivial⟩, h79, h83, hF⟩
              · clear H
                clear h79 h83 hF
                clear hS
                rintro a w253 ⟨g253, hpre0, hS, h79, h83, hF⟩
                subst hpre0
                have H := Fl.go_nxt Hl256
                clear Hl256
                refine c_pure1 [(10, .slice A77 r75.1.length cap78), (11, .slice A81 r75.2.1.length cap82), (16, .int .i64 (wi (m0_0 + 1)))] (fun R hR => st_val hS rfl rfl rfl (r_move hS rfl rfl) fun a284 hS284 => st_val hS284 rfl rfl rfl (r_bin hS284 rfl rfl rfl b_add) fun a285 hS285 => st_val hS285 rfl rfl rfl (r_assign hS285 rfl rfl) fun a286 hS286 => wpList_nil (hR _ (hS286.re ⟨rfl, rfl, rfl, trivial⟩))) ?_
                clear hS
                clear a
                intro a hS
                refine ⟨k247, Nat.lt_succ_self _, ?_⟩
                exact ⟨wi (m0_0 + 1), g253, H, hS.re ⟨rfl, rfl, rfl, trivial⟩, h79, h83, hF⟩
            · replace H := ite_f hb252 H
              refine wp_exit ?_
              have e := Option.some.inj H
              exact ⟨g246, e.symm, hS.re trivial, hF⟩
      · clear H
        clear h79 h83 hF
        clear hS
        rintro a w241 ⟨g241, hpre0, hS, hF⟩
        subst hpre0
        have H := Fl.go_nxt Hl244
        clear Hl244
        obtain ⟨r287, hr288, H⟩ := bind_el H
        refine c_region (fun K hK => ?_)
        refine st_enter hS rfl rfl rfl (r_call hS rfl rfl (by kernel_rfl)) (law27_awake.calls (g := g241) (N + 20)   hr288) ?_
        rintro _ a289 w290 ⟨g290, rfl, F290⟩ hS289
        replace hF := hF.trans F290 (fun c' (hm : N + 20 ≤ c') => by show N ≤ c'; omega)
        refine st_val hS289 rfl rfl rfl (r_assign hS289 rfl rfl) fun a291 hS291 => wpList_nil (hK _ _ ?_)
        replace hS : Sl 91 _ [(6, .bool r287)] := hS291.re ⟨rfl, trivial⟩
        clear hK K
        try clear hS289 hS291
        obtain ⟨a, ha⟩ : ∃ a', a' = a291 := ⟨_, rfl⟩
        rw [← ha] at hS ⊢; clear ha
        refine wp_ret ?_
        have e := Option.some.inj H
        subst e
        repeat (with_reducible first | refine then_ret ?_ | refine inBlock_ret ?_)
        exact c_ret1 hS Try.results7 rfl ⟨_, rfl, g290, rfl, hF⟩


end Go.Proofs.Ytfhhklkmbcnhnaa.Sim
