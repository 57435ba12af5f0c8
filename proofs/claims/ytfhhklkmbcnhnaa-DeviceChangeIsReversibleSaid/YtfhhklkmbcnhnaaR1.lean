/-
  Printed by a program of this session (wip/tools): plain functions with the same answers as the Go functions, and the proofs of it.
-/
import Derived.Test.YtfhhklkmbcnhnaaProg
import Derived.Test.YtfhhklkmbcnhnaaTy
namespace Go.Proofs.Ytfhhklkmbcnhnaa.Sim
open Go
set_option linter.unusedVariables false
set_option linter.unusedSimpArgs false

/-! ### help_Mod: function 15 -/
def help_Mod.f (p0 : Int) (p1 : Int) : Option (Int) := if (wu (p1)) = 0 then none else some (wi ((Int.tmod (wu (p0)) (wu (p1)))))
set_option maxRecDepth 100000 in
set_option maxHeartbeats 4000000 in
theorem help_Mod.calls {p0 : Int} {p1 : Int} {w : World} {g : Nat → Nat} {out : Int} (N : Nat)  (H : help_Mod.f p0 p1 = some out) :
    Calls Try.prog 15 #[.int .i64 p0, .int .i64 p1] w (fun e w' => ∃ v, e = .returned v ∧ ∃ (g' : Nat → Nat), v = .int .i64 out ∧ Fr (fun q => N ≤ q) w g w' g') := by
  unfold help_Mod.f at H
  refine calls_enter Try.func15 rfl Try.ntmps15 rfl (fun a hS => ?_)
  replace hS : Sl 11 a [(0, .int .i64 p0), (1, .int .i64 p1)] := hS
  have hF : Fr (fun q => N ≤ q) w g w g := Fr.refl _ _ _
  refine c_pure [(0, .int .i64 p0), (1, .int .i64 p1)] (fun R hR => st_val hS rfl rfl rfl (r_assign hS rfl rfl) fun a1 hS1 => wpList_nil (hR _ (hS1.re ⟨rfl, rfl, trivial⟩))) ?_
  clear hS
  clear a
  intro a hS
  obtain ⟨hq6, H⟩ := nz_el H
  refine c_pure [(4, .int .i64 (wi ((Int.tmod (wu (p0)) (wu (p1))))))] (fun R hR => st_val hS rfl rfl rfl (r_move hS rfl rfl) fun a2 hS2 => st_val hS2 rfl rfl rfl (r_convert (k' := .u64) hS2 rfl rfl (by kernel_rfl)) fun a3 hS3 => st_val hS3 rfl rfl rfl (r_move hS3 rfl rfl) fun a4 hS4 => st_val hS4 rfl rfl rfl (r_convert (k' := .u64) hS4 rfl rfl (by kernel_rfl)) fun a5 hS5 => st_val hS5 rfl rfl rfl (r_bin hS5 rfl rfl rfl (b_rem hq6)) fun a7 hS7 => st_val hS7 rfl rfl rfl (r_convert (k' := .i64) hS7 rfl rfl (by kernel_rfl)) fun a8 hS8 => st_val hS8 rfl rfl rfl (r_assign hS8 rfl rfl) fun a9 hS9 => wpList_nil (hR _ (hS9.re ⟨rfl, trivial⟩))) ?_
  clear hS
  clear a
  intro a hS
  refine wp_ret ?_
  have e := Option.some.inj H
  subst e
  repeat (with_reducible first | refine then_ret ?_ | refine inBlock_ret ?_)
  exact c_ret1 hS Try.results15 rfl ⟨_, rfl, g, rfl, hF⟩

/-! ### device_ascending: function 42 -/
def device_ascending.l0 (p0 : List Int) : Nat → Int → Option (Fl (Bool) (Unit))
  | 0, _ => none
  | k8 + 1, m0_0 => if decide (m0_0 < (p0.length : Int)) = true then ((idx p0 m0_0).bind fun x17 => (idx p0 (wi (m0_0 - 1))).bind fun x24 => if decide (x17 ≤ x24) = true then (some (.out false)) else (device_ascending.l0 p0 k8 (wi (m0_0 + 1)))) else (some (.nxt ()))
def device_ascending.f (p0 : List Int) : Option (Bool) := (device_ascending.l0 p0 FUEL 1 : Option (Fl (Bool) (Unit))).bind fun o4 => o4.go fun _ => some true
set_option maxRecDepth 100000 in
set_option maxHeartbeats 4000000 in
theorem device_ascending.calls {p0 : List Int} {A0 : Option Addr} {cap0 : Nat} {C0 : Nat → Prop} {w : World} {g : Nat → Nat} {out : Bool} (N : Nat) (hp0 : RdS (kint .i64) w g C0 A0 cap0 p0) (hC0 : ∀ c, C0 c → c < N) (H : device_ascending.f p0 = some out) :
    Calls Try.prog 42 #[.slice A0 p0.length cap0] w (fun e w' => ∃ v, e = .returned v ∧ ∃ (g' : Nat → Nat), v = .bool out ∧ Fr (fun q => N ≤ q) w g w' g') := by
  unfold device_ascending.f at H
  refine calls_enter Try.func42 rfl Try.ntmps42 rfl (fun a hS => ?_)
  replace hS : Sl 20 a [(0, .slice A0 p0.length cap0)] := hS
  have hF : Fr (fun q => N ≤ q) w g w g := Fr.refl _ _ _
  refine c_pure [(0, .slice A0 p0.length cap0)] (fun R hR => st_val hS rfl rfl rfl (r_assign hS rfl rfl) fun a1 hS1 => wpList_nil (hR _ (hS1.re ⟨rfl, trivial⟩))) ?_
  clear hS
  clear a
  intro a hS
  obtain ⟨o4, H, Hl5⟩ := bind_el H
  refine c_cut (fun a w2 => ∃ (g2 : Nat → Nat), o4 = .nxt () ∧ Sl 20 a [] ∧ Fr (fun q => N ≤ q) w g w2 g2) ?_ ?_
  · refine c_pure [(0, .slice A0 p0.length cap0), (3, .int .i64 1)] (fun R hR => st_val hS rfl rfl rfl (r_assign hS rfl rfl) fun a6 hS6 => wpList_nil (hR _ (hS6.re ⟨rfl, rfl, trivial⟩))) ?_
    clear hS
    clear a
    intro a hS
    refine wp_block ?_
    refine wp_loop_ghost (fun kq => fun a w7 => ∃ (m0_0 : Int), ∃ (g7 : Nat → Nat), device_ascending.l0 p0 kq m0_0 = some o4 ∧ Sl 20 a [(0, .slice A0 p0.length cap0), (3, .int .i64 m0_0)] ∧ RdS (kint .i64) w7 g7 C0 A0 cap0 p0 ∧ Fr (fun q => N ≤ q) w g w7 g7) FUEL ?_ ?_
    · exact ⟨1, g, H, hS.re ⟨rfl, rfl, trivial⟩, hp0, hF⟩
    · clear H
      clear hp0 hF
      clear hS
      rintro k8 a w7 ⟨m0_0, g7, hpre0, hS, hp0, hF⟩
      have H := hpre0
      clear hpre0
      cases k8 with
      | zero => exact absurd H (by simp [device_ascending.l0])
      | succ k8 =>
        rw [device_ascending.l0] at H
        refine wp_seq ?_
        refine c_pure [(0, .slice A0 p0.length cap0), (3, .int .i64 m0_0), (7, .bool (decide (m0_0 < (p0.length : Int))))] (fun R hR => st_val hS rfl rfl rfl (r_move hS rfl rfl) fun a9 hS9 => st_val hS9 rfl rfl rfl (r_move hS9 rfl rfl) fun a10 hS10 => st_val hS10 rfl rfl rfl (r_len (e := 3) (sz := 1) (by_ := 8) hS10 rfl rfl (by kernel_rfl)) fun a11 hS11 => st_val hS11 rfl rfl rfl (r_bin hS11 rfl rfl rfl b_lss) fun a12 hS12 => wpList_nil (hR _ (hS12.re ⟨rfl, rfl, rfl, trivial⟩))) ?_
        clear hS
        clear a
        intro a hS
        refine c_cond hS rfl (fun hb13 => ?_) (fun hb13 => ?_)
        · replace H := ite_t hb13 H
          refine wp_skip ?_
          change Code.wp _ _ _ _ _
          refine wp_seq ?_
          refine wp_block ?_
          obtain ⟨x17, hx18, H⟩ := bind_el H
          obtain ⟨x24, hx25, H⟩ := bind_el H
          refine c_draw (fun K hK => d_start (fun q => False) g7 [] 10 #[false, false, false, false, false, false, false, false, false, false] (by kernel_rfl) rfl rfl (fun w14 hw14 => ?_))
          have F14 : Fr (fun _ => False) w7 g7 w14 g7 := by rw [hw14]; exact Fr.drew _ _ _
          replace hp0 := RdS.fr hp0 F14 (by decide) (fun _ _ h => h)
          replace hF := hF.trans F14 (fun _ h => h.elim)
          have hC : Fr (fun q => False) w14 g7 w14 g7 := Fr.refl _ _ _
          refine d_pure hS 0 #[true, false, false, false, false, false, false, false, false, false] rfl rfl rfl rfl (by kernel_rfl) (fun _ _ _ h => h) (fun _ => (r_move hS rfl rfl)) fun a15 hS15 => d_pure hS15 1 #[true, true, false, false, false, false, false, false, false, false] rfl rfl rfl rfl (by kernel_rfl) (fun _ _ _ h => h) (fun _ => (r_move hS15 rfl rfl)) fun a16 hS16 => d_pure hS16 2 #[true, true, true, false, false, false, false, false, false, false] rfl rfl rfl rfl (by kernel_rfl) (fun _ _ _ h => h) (fun _ => (r_index (e := 3) (sz := 1) (by_ := 8) hS16 rfl rfl rfl (by kernel_rfl) (RdS.some_ hp0 hx18) (idx_lo hx18) (idx_hi hx18))) fun a19 hS19 => d_take hS19 3 #[true, true, true, true, false, false, false, false, false, false] rfl rfl rfl rfl (by kernel_rfl) (fun _ _ _ h => h) ⟨_, hC⟩ (fun w' g' Fz => (r_load1 (n := 1) hS19 rfl rfl (by kernel_rfl) (RdS.cell (i := m0_0) (sz := 1) (j := 0) (RdS.fr hp0 Fz (by decide) (fun _ _ h => h)) hx18 rfl))) fun a20 hS20 => d_pure hS20 4 #[true, true, true, true, true, false, false, false, false, false] rfl rfl rfl rfl (by kernel_rfl) (fun _ _ _ h => h) (fun _ => (r_move hS20 rfl rfl)) fun a21 hS21 => d_pure hS21 5 #[true, true, true, true, true, true, false, false, false, false] rfl rfl rfl rfl (by kernel_rfl) (fun _ _ _ h => h) (fun _ => (r_move hS21 rfl rfl)) fun a22 hS22 => d_pure hS22 6 #[true, true, true, true, true, true, true, false, false, false] rfl rfl rfl rfl (by kernel_rfl) (fun _ _ _ h => h) (fun _ => (r_bin hS22 rfl rfl rfl b_sub)) fun a23 hS23 => d_pure hS23 7 #[true, true, true, true, true, true, true, true, false, false] rfl rfl rfl rfl (by kernel_rfl) (fun _ _ _ h => h) (fun _ => (r_index (e := 3) (sz := 1) (by_ := 8) hS23 rfl rfl rfl (by kernel_rfl) (RdS.some_ hp0 hx25) (idx_lo hx25) (idx_hi hx25))) fun a26 hS26 => d_take hS26 8 #[true, true, true, true, true, true, true, true, true, false] rfl rfl rfl rfl (by kernel_rfl) (fun _ _ _ h => h) ⟨_, hC⟩ (fun w' g' Fz => (r_load1 (n := 1) hS26 rfl rfl (by kernel_rfl) (RdS.cell (i := wi (m0_0 - 1)) (sz := 1) (j := 0) (RdS.fr hp0 Fz (by decide) (fun _ _ h => h)) hx25 rfl))) fun a27 hS27 => d_pure hS27 9 #[true, true, true, true, true, true, true, true, true, true] rfl rfl rfl rfl (by kernel_rfl) (fun _ _ _ h => h) (fun _ => (r_bin hS27 rfl rfl rfl b_leq)) fun a28 hS28 => d_done (by kernel_rfl) (hK _ _ ?_)
          replace hS : Sl 20 _ [(0, .slice A0 p0.length cap0), (3, .int .i64 m0_0), (19, .bool (decide (x17 ≤ x24)))] := hS28.re ⟨rfl, rfl, rfl, trivial⟩
          clear hK K hC
          try clear hS15 hS16 hS19 hS20 hS21 hS22 hS23 hS26 hS27 hS28
          obtain ⟨a, ha⟩ : ∃ a', a' = a28 := ⟨_, rfl⟩
          rw [← ha] at hS ⊢; clear ha
          refine c_cond hS rfl (fun hb29 => ?_) (fun hb29 => ?_)
          · replace H := ite_t hb29 H
            refine c_pure [(2, .bool false)] (fun R hR => st_val hS rfl rfl rfl (r_assign hS rfl rfl) fun a30 hS30 => wpList_nil (hR _ (hS30.re ⟨rfl, trivial⟩))) ?_
            clear hS
            clear a
            intro a hS
            refine wp_ret ?_
            have e := Option.some.inj H
            subst e
            replace H := Fl.go_out Hl5
            have e := Option.some.inj H
            subst e
            repeat (with_reducible first | refine then_ret ?_ | refine inBlock_ret ?_)
            exact c_ret1 hS Try.results42 rfl ⟨_, rfl, g7, rfl, hF⟩
          · replace H := ite_f hb29 H
            refine wp_skip ?_
            change Code.wp _ _ _ _ _
            refine c_pure1 [(0, .slice A0 p0.length cap0), (3, .int .i64 (wi (m0_0 + 1)))] (fun R hR => st_val hS rfl rfl rfl (r_move hS rfl rfl) fun a31 hS31 => st_val hS31 rfl rfl rfl (r_bin hS31 rfl rfl rfl b_add) fun a32 hS32 => st_val hS32 rfl rfl rfl (r_assign hS32 rfl rfl) fun a33 hS33 => wpList_nil (hR _ (hS33.re ⟨rfl, rfl, trivial⟩))) ?_
            clear hS
            clear a
            intro a hS
            refine ⟨k8, Nat.lt_succ_self _, ?_⟩
            exact ⟨wi (m0_0 + 1), g7, H, hS.re ⟨rfl, rfl, trivial⟩, hp0, hF⟩
        · replace H := ite_f hb13 H
          refine wp_exit ?_
          have e := Option.some.inj H
          exact ⟨g7, e.symm, hS.re trivial, hF⟩
  · clear H
    clear hp0 hF
    clear hS
    rintro a w2 ⟨g2, hpre0, hS, hF⟩
    subst hpre0
    have H := Fl.go_nxt Hl5
    clear Hl5
    refine c_pure [(2, .bool true)] (fun R hR => st_val hS rfl rfl rfl (r_assign hS rfl rfl) fun a34 hS34 => wpList_nil (hR _ (hS34.re ⟨rfl, trivial⟩))) ?_
    clear hS
    clear a
    intro a hS
    refine wp_ret ?_
    have e := Option.some.inj H
    subst e
    repeat (with_reducible first | refine then_ret ?_ | refine inBlock_ret ?_)
    exact c_ret1 hS Try.results42 rfl ⟨_, rfl, g2, rfl, hF⟩

/-! ### device_isState: function 41 -/
def device_isState.f (p0 : Int) : Option (Bool) := some ((decide (0 ≤ p0)) && (decide (p0 ≤ 4)))
set_option maxRecDepth 100000 in
set_option maxHeartbeats 4000000 in
theorem device_isState.calls {p0 : Int} {w : World} {g : Nat → Nat} {out : Bool} (N : Nat)  (H : device_isState.f p0 = some out) :
    Calls Try.prog 41 #[.int .i64 p0] w (fun e w' => ∃ v, e = .returned v ∧ ∃ (g' : Nat → Nat), v = .bool out ∧ Fr (fun q => N ≤ q) w g w' g') := by
  unfold device_isState.f at H
  refine calls_enter Try.func41 rfl Try.ntmps41 rfl (fun a hS => ?_)
  replace hS : Sl 9 a [(0, .int .i64 p0)] := hS
  have hF : Fr (fun q => N ≤ q) w g w g := Fr.refl _ _ _
  refine c_pure [(0, .int .i64 p0)] (fun R hR => st_val hS rfl rfl rfl (r_assign hS rfl rfl) fun a1 hS1 => wpList_nil (hR _ (hS1.re ⟨rfl, trivial⟩))) ?_
  clear hS
  clear a
  intro a hS
  refine c_region (fun K hK => ?_)
  refine st_val hS rfl rfl rfl (r_move hS rfl rfl) fun a2 hS2 => st_val hS2 rfl rfl rfl (r_bin hS2 rfl rfl rfl b_geq) fun a3 hS3 => st_val hS3 rfl rfl rfl (r_move hS3 rfl rfl) fun a4 hS4 => ?_
  refine g_join (N := 9) 3 [(8, .bool ((decide (0 ≤ p0)) && (decide (p0 ≤ 4))))] ?_ (fun hk => ?_)
  rotate_left
  · rcases Bool.eq_false_or_eq_true (decide (0 ≤ p0)) with hb5 | hb5
    · refine st_valW hS4 (want_on hS4 rfl rfl rfl hb5) rfl rfl (r_move hS4 rfl rfl) fun a8 hS8 => st_valW hS8 (want_on hS8 rfl rfl rfl hb5) rfl rfl (r_bin hS8 rfl rfl rfl b_leq) fun a9 hS9 => st_val hS9 rfl rfl rfl (r_pickT hS9 rfl rfl rfl hb5) fun a10 hS10 => hk _ (hS10.re ⟨(by rw [hb5]; rfl), trivial⟩)
    · refine st_off hS4 (want_off hS4 rfl rfl rfl hb5) rfl rfl fun a11 hS11 => st_off hS11 (want_off hS11 rfl rfl rfl hb5) rfl rfl fun a12 hS12 => st_val hS12 rfl rfl rfl (r_pickF hS12 rfl rfl rfl hb5) fun a13 hS13 => hk _ (hS13.re ⟨(by rw [hb5]; rfl), trivial⟩)
  intro a14 hS14
  refine st_val hS14 rfl rfl rfl (r_assign hS14 rfl rfl) fun a15 hS15 => wpList_nil (hK _ _ ?_)
  replace hS : Sl 9 _ [(2, .bool ((decide (0 ≤ p0)) && (decide (p0 ≤ 4))))] := hS15.re ⟨rfl, trivial⟩
  clear hK K
  try clear hS2 hS3 hS4 hS14 hS15
  obtain ⟨a, ha⟩ : ∃ a', a' = a15 := ⟨_, rfl⟩
  rw [← ha] at hS ⊢; clear ha
  refine wp_ret ?_
  have e := Option.some.inj H
  subst e
  repeat (with_reducible first | refine then_ret ?_ | refine inBlock_ret ?_)
  exact c_ret1 hS Try.results41 rfl ⟨_, rfl, g, rfl, hF⟩

/-! ### device_needs: function 43 -/
def device_needs.f (p0 : api_PowerDevice) (p1 : Int) : Option ((List Int)) := if (p1 == 4) = true then (some []) else ((idx (Ar4.l p0.Rails) p1).bind fun x13 => some x13)
set_option maxRecDepth 100000 in
set_option maxHeartbeats 4000000 in
theorem device_needs.calls {p0 : api_PowerDevice} {C0 : Nat → Prop} {A0_0 : Option Addr} {cap0_0 : Nat} {A0_1 : Option Addr} {cap0_1 : Nat} {A0_2 : Option Addr} {cap0_2 : Nat} {A0_3 : Option Addr} {cap0_3 : Nat} {p1 : Int} {w : World} {g : Nat → Nat} {out : (List Int)} (N : Nat) (hp0_0 : RdS (kint .i64) w g C0 A0_0 cap0_0 p0.Rails.a0) (hp0_1 : RdS (kint .i64) w g C0 A0_1 cap0_1 p0.Rails.a1) (hp0_2 : RdS (kint .i64) w g C0 A0_2 cap0_2 p0.Rails.a2) (hp0_3 : RdS (kint .i64) w g C0 A0_3 cap0_3 p0.Rails.a3) (hC0 : ∀ c, C0 c → c < N) (H : device_needs.f p0 p1 = some out) :
    Calls Try.prog 43 #[.agg #[.int .i64 p0.Parent, .slice A0_0 p0.Rails.a0.length cap0_0, .slice A0_1 p0.Rails.a1.length cap0_1, .slice A0_2 p0.Rails.a2.length cap0_2, .slice A0_3 p0.Rails.a3.length cap0_3, .int .i64 p0.Deepest.a0, .int .i64 p0.Deepest.a1, .int .i64 p0.Deepest.a2, .int .i64 p0.Deepest.a3, .int .i64 p0.Deepest.a4, .int .i64 p0.Deepest.a5, .int .i64 p0.WakeDevice, .int .i64 p0.WakeSystem], .int .i64 p1] w (fun e w' => ∃ v, e = .returned v ∧ ∃ (g' : Nat → Nat) (A_r0 : Option Addr) (cap_r0 : Nat), v = .slice A_r0 out.length cap_r0 ∧ RdS (kint .i64) w' g' C0 A_r0 cap_r0 out ∧ Fr (fun q => N ≤ q) w g w' g') := by
  unfold device_needs.f at H
  refine calls_enter Try.func43 rfl Try.ntmps43 rfl (fun a hS => ?_)
  replace hS : Sl 11 a [(0, .agg #[.int .i64 p0.Parent, .slice A0_0 p0.Rails.a0.length cap0_0, .slice A0_1 p0.Rails.a1.length cap0_1, .slice A0_2 p0.Rails.a2.length cap0_2, .slice A0_3 p0.Rails.a3.length cap0_3, .int .i64 p0.Deepest.a0, .int .i64 p0.Deepest.a1, .int .i64 p0.Deepest.a2, .int .i64 p0.Deepest.a3, .int .i64 p0.Deepest.a4, .int .i64 p0.Deepest.a5, .int .i64 p0.WakeDevice, .int .i64 p0.WakeSystem]), (1, .int .i64 p1)] := hS
  have hF : Fr (fun q => N ≤ q) w g w g := Fr.refl _ _ _
  refine c_region (fun K hK => ?_)
  refine st_eff hS rfl rfl rfl (e_box (cs := [.int .i64 p0.Parent, .slice A0_0 p0.Rails.a0.length cap0_0, .slice A0_1 p0.Rails.a1.length cap0_1, .slice A0_2 p0.Rails.a2.length cap0_2, .slice A0_3 p0.Rails.a3.length cap0_3, .int .i64 p0.Deepest.a0, .int .i64 p0.Deepest.a1, .int .i64 p0.Deepest.a2, .int .i64 p0.Deepest.a3, .int .i64 p0.Deepest.a4, .int .i64 p0.Deepest.a5, .int .i64 p0.WakeDevice, .int .i64 p0.WakeSystem]) (N + 0) g hS rfl rfl rfl) ?_
  rintro _ a4 w5 g5 ⟨⟨b1, rfl, h2⟩, F5⟩ hS4
  replace hp0_0 := RdS.fr hp0_0 F5 (by decide) (fun _ _ h => h)
  replace hp0_1 := RdS.fr hp0_1 F5 (by decide) (fun _ _ h => h)
  replace hp0_2 := RdS.fr hp0_2 F5 (by decide) (fun _ _ h => h)
  replace hp0_3 := RdS.fr hp0_3 F5 (by decide) (fun _ _ h => h)
  replace hF := hF.trans F5 (fun _ h => h.elim)
  refine st_val hS4 rfl rfl rfl (r_assign hS4 rfl rfl) fun a6 hS6 => wpList_nil (hK _ _ ?_)
  replace hS : Sl 11 _ [(1, .int .i64 p1), (2, .pointer (some ⟨b1, 0, none⟩))] := hS6.re ⟨rfl, rfl, trivial⟩
  clear hK K
  try clear hS4 hS6
  obtain ⟨a, ha⟩ : ∃ a', a' = a6 := ⟨_, rfl⟩
  rw [← ha] at hS ⊢; clear ha
  refine wp_seq ?_
  refine c_pure [(1, .int .i64 p1), (2, .pointer (some ⟨b1, 0, none⟩)), (6, .bool (p1 == 4))] (fun R hR => st_val hS rfl rfl rfl (r_move hS rfl rfl) fun a7 hS7 => st_val hS7 rfl rfl rfl (r_bin hS7 rfl rfl rfl b_eql) fun a8 hS8 => wpList_nil (hR _ (hS8.re ⟨rfl, rfl, rfl, trivial⟩))) ?_
  clear hS
  clear a
  intro a hS
  refine c_cond hS rfl (fun hb9 => ?_) (fun hb9 => ?_)
  · replace H := ite_t hb9 H
    refine c_pure [(4, .slice none 0 0)] (fun R hR => st_val hS rfl rfl rfl (r_assign hS rfl rfl) fun a10 hS10 => wpList_nil (hR _ (hS10.re ⟨rfl, trivial⟩))) ?_
    clear hS
    clear a
    intro a hS
    refine wp_ret ?_
    have e := Option.some.inj H
    subst e
    repeat (with_reducible first | refine then_ret ?_ | refine inBlock_ret ?_)
    exact c_ret1 hS Try.results43 rfl ⟨_, rfl, g5, none, 0, rfl, RdS.nil (kint .i64) w5 g5 C0, hF⟩
  · replace H := ite_f hb9 H
    refine wp_skip ?_
    change Code.wp _ _ _ _ _
    obtain ⟨x13, hx14, H⟩ := bind_el H
    refine c_region (fun K hK => ?_)
    refine st_val hS rfl rfl rfl (r_move hS rfl rfl) fun a11 hS11 => st_val hS11 rfl rfl rfl (r_fieldB (off := 1) hS11 rfl rfl (by kernel_rfl)) fun a12 hS12 => ?_
    obtain ⟨A16, cap17, he15, h18⟩ : ∃ (A16 : Option Addr) (cap17 : Nat), (([.int .i64 p0.Parent, .slice A0_0 p0.Rails.a0.length cap0_0, .slice A0_1 p0.Rails.a1.length cap0_1, .slice A0_2 p0.Rails.a2.length cap0_2, .slice A0_3 p0.Rails.a3.length cap0_3, .int .i64 p0.Deepest.a0, .int .i64 p0.Deepest.a1, .int .i64 p0.Deepest.a2, .int .i64 p0.Deepest.a3, .int .i64 p0.Deepest.a4, .int .i64 p0.Deepest.a5, .int .i64 p0.WakeDevice, .int .i64 p0.WakeSystem] : List Value).drop (1 + p1.toNat * 1)).take 1 = [.slice A16 x13.length cap17] ∧ RdS (kint .i64) w5 g5 C0 A16 cap17 x13 := by
      rcases Ar4.cases hx14 with ⟨e, e2⟩ | ⟨e, e2⟩ | ⟨e, e2⟩ | ⟨e, e2⟩
      · subst e2; exact ⟨A0_0, cap0_0, (by rw [e] <;> rfl), hp0_0⟩
      · subst e2; exact ⟨A0_1, cap0_1, (by rw [e] <;> rfl), hp0_1⟩
      · subst e2; exact ⟨A0_2, cap0_2, (by rw [e] <;> rfl), hp0_2⟩
      · subst e2; exact ⟨A0_3, cap0_3, (by rw [e] <;> rfl), hp0_3⟩
    refine st_val hS12 rfl rfl rfl (r_ixB (n := 4) (e := 29) (sz := 1) (bb := false) hS12 rfl rfl rfl (by kernel_rfl) (idx_lo hx14) (Ar4.lt hx14)) fun a21 hS21 => st_val hS21 rfl rfl rfl (r_load1 (n := 1) hS21 rfl rfl (by kernel_rfl) (Bx.at_ (j := 0) h2 he15 rfl)) fun a22 hS22 => st_val hS22 rfl rfl rfl (r_assign hS22 rfl rfl) fun a23 hS23 => wpList_nil (hK _ _ ?_)
    replace hS : Sl 11 _ [(4, .slice A16 x13.length cap17)] := hS23.re ⟨rfl, trivial⟩
    clear hK K
    try clear hS11 hS12 hS21 hS22 hS23
    obtain ⟨a, ha⟩ : ∃ a', a' = a23 := ⟨_, rfl⟩
    rw [← ha] at hS ⊢; clear ha
    refine wp_ret ?_
    have e := Option.some.inj H
    subst e
    repeat (with_reducible first | refine then_ret ?_ | refine inBlock_ret ?_)
    exact c_ret1 hS Try.results43 rfl ⟨_, rfl, g5, A16, cap17, rfl, h18, hF⟩

/-! ### ref27_needs: function 46 -/
def ref27_needs.f (p0 : api_PowerDevice) (p1 : Int) : Option ((List Int)) := if (p1 == 4) = true then (some []) else ((idx (Ar4.l p0.Rails) p1).bind fun x13 => some x13)
set_option maxRecDepth 100000 in
set_option maxHeartbeats 4000000 in
theorem ref27_needs.calls {p0 : api_PowerDevice} {C0 : Nat → Prop} {A0_0 : Option Addr} {cap0_0 : Nat} {A0_1 : Option Addr} {cap0_1 : Nat} {A0_2 : Option Addr} {cap0_2 : Nat} {A0_3 : Option Addr} {cap0_3 : Nat} {p1 : Int} {w : World} {g : Nat → Nat} {out : (List Int)} (N : Nat) (hp0_0 : RdS (kint .i64) w g C0 A0_0 cap0_0 p0.Rails.a0) (hp0_1 : RdS (kint .i64) w g C0 A0_1 cap0_1 p0.Rails.a1) (hp0_2 : RdS (kint .i64) w g C0 A0_2 cap0_2 p0.Rails.a2) (hp0_3 : RdS (kint .i64) w g C0 A0_3 cap0_3 p0.Rails.a3) (hC0 : ∀ c, C0 c → c < N) (H : ref27_needs.f p0 p1 = some out) :
    Calls Try.prog 46 #[.agg #[.int .i64 p0.Parent, .slice A0_0 p0.Rails.a0.length cap0_0, .slice A0_1 p0.Rails.a1.length cap0_1, .slice A0_2 p0.Rails.a2.length cap0_2, .slice A0_3 p0.Rails.a3.length cap0_3, .int .i64 p0.Deepest.a0, .int .i64 p0.Deepest.a1, .int .i64 p0.Deepest.a2, .int .i64 p0.Deepest.a3, .int .i64 p0.Deepest.a4, .int .i64 p0.Deepest.a5, .int .i64 p0.WakeDevice, .int .i64 p0.WakeSystem], .int .i64 p1] w (fun e w' => ∃ v, e = .returned v ∧ ∃ (g' : Nat → Nat) (A_r0 : Option Addr) (cap_r0 : Nat), v = .slice A_r0 out.length cap_r0 ∧ RdS (kint .i64) w' g' C0 A_r0 cap_r0 out ∧ Fr (fun q => N ≤ q) w g w' g') := by
  unfold ref27_needs.f at H
  refine calls_enter Try.func46 rfl Try.ntmps46 rfl (fun a hS => ?_)
  replace hS : Sl 11 a [(0, .agg #[.int .i64 p0.Parent, .slice A0_0 p0.Rails.a0.length cap0_0, .slice A0_1 p0.Rails.a1.length cap0_1, .slice A0_2 p0.Rails.a2.length cap0_2, .slice A0_3 p0.Rails.a3.length cap0_3, .int .i64 p0.Deepest.a0, .int .i64 p0.Deepest.a1, .int .i64 p0.Deepest.a2, .int .i64 p0.Deepest.a3, .int .i64 p0.Deepest.a4, .int .i64 p0.Deepest.a5, .int .i64 p0.WakeDevice, .int .i64 p0.WakeSystem]), (1, .int .i64 p1)] := hS
  have hF : Fr (fun q => N ≤ q) w g w g := Fr.refl _ _ _
  refine c_region (fun K hK => ?_)
  refine st_eff hS rfl rfl rfl (e_box (cs := [.int .i64 p0.Parent, .slice A0_0 p0.Rails.a0.length cap0_0, .slice A0_1 p0.Rails.a1.length cap0_1, .slice A0_2 p0.Rails.a2.length cap0_2, .slice A0_3 p0.Rails.a3.length cap0_3, .int .i64 p0.Deepest.a0, .int .i64 p0.Deepest.a1, .int .i64 p0.Deepest.a2, .int .i64 p0.Deepest.a3, .int .i64 p0.Deepest.a4, .int .i64 p0.Deepest.a5, .int .i64 p0.WakeDevice, .int .i64 p0.WakeSystem]) (N + 0) g hS rfl rfl rfl) ?_
  rintro _ a4 w5 g5 ⟨⟨b1, rfl, h2⟩, F5⟩ hS4
  replace hp0_0 := RdS.fr hp0_0 F5 (by decide) (fun _ _ h => h)
  replace hp0_1 := RdS.fr hp0_1 F5 (by decide) (fun _ _ h => h)
  replace hp0_2 := RdS.fr hp0_2 F5 (by decide) (fun _ _ h => h)
  replace hp0_3 := RdS.fr hp0_3 F5 (by decide) (fun _ _ h => h)
  replace hF := hF.trans F5 (fun _ h => h.elim)
  refine st_val hS4 rfl rfl rfl (r_assign hS4 rfl rfl) fun a6 hS6 => wpList_nil (hK _ _ ?_)
  replace hS : Sl 11 _ [(1, .int .i64 p1), (2, .pointer (some ⟨b1, 0, none⟩))] := hS6.re ⟨rfl, rfl, trivial⟩
  clear hK K
  try clear hS4 hS6
  obtain ⟨a, ha⟩ : ∃ a', a' = a6 := ⟨_, rfl⟩
  rw [← ha] at hS ⊢; clear ha
  refine wp_seq ?_
  refine c_pure [(1, .int .i64 p1), (2, .pointer (some ⟨b1, 0, none⟩)), (6, .bool (p1 == 4))] (fun R hR => st_val hS rfl rfl rfl (r_move hS rfl rfl) fun a7 hS7 => st_val hS7 rfl rfl rfl (r_bin hS7 rfl rfl rfl b_eql) fun a8 hS8 => wpList_nil (hR _ (hS8.re ⟨rfl, rfl, rfl, trivial⟩))) ?_
  clear hS
  clear a
  intro a hS
  refine c_cond hS rfl (fun hb9 => ?_) (fun hb9 => ?_)
  · replace H := ite_t hb9 H
    refine c_pure [(4, .slice none 0 0)] (fun R hR => st_val hS rfl rfl rfl (r_assign hS rfl rfl) fun a10 hS10 => wpList_nil (hR _ (hS10.re ⟨rfl, trivial⟩))) ?_
    clear hS
    clear a
    intro a hS
    refine wp_ret ?_
    have e := Option.some.inj H
    subst e
    repeat (with_reducible first | refine then_ret ?_ | refine inBlock_ret ?_)
    exact c_ret1 hS Try.results46 rfl ⟨_, rfl, g5, none, 0, rfl, RdS.nil (kint .i64) w5 g5 C0, hF⟩
  · replace H := ite_f hb9 H
    refine wp_skip ?_
    change Code.wp _ _ _ _ _
    obtain ⟨x13, hx14, H⟩ := bind_el H
    refine c_region (fun K hK => ?_)
    refine st_val hS rfl rfl rfl (r_move hS rfl rfl) fun a11 hS11 => st_val hS11 rfl rfl rfl (r_fieldB (off := 1) hS11 rfl rfl (by kernel_rfl)) fun a12 hS12 => ?_
    obtain ⟨A16, cap17, he15, h18⟩ : ∃ (A16 : Option Addr) (cap17 : Nat), (([.int .i64 p0.Parent, .slice A0_0 p0.Rails.a0.length cap0_0, .slice A0_1 p0.Rails.a1.length cap0_1, .slice A0_2 p0.Rails.a2.length cap0_2, .slice A0_3 p0.Rails.a3.length cap0_3, .int .i64 p0.Deepest.a0, .int .i64 p0.Deepest.a1, .int .i64 p0.Deepest.a2, .int .i64 p0.Deepest.a3, .int .i64 p0.Deepest.a4, .int .i64 p0.Deepest.a5, .int .i64 p0.WakeDevice, .int .i64 p0.WakeSystem] : List Value).drop (1 + p1.toNat * 1)).take 1 = [.slice A16 x13.length cap17] ∧ RdS (kint .i64) w5 g5 C0 A16 cap17 x13 := by
      rcases Ar4.cases hx14 with ⟨e, e2⟩ | ⟨e, e2⟩ | ⟨e, e2⟩ | ⟨e, e2⟩
      · subst e2; exact ⟨A0_0, cap0_0, (by rw [e] <;> rfl), hp0_0⟩
      · subst e2; exact ⟨A0_1, cap0_1, (by rw [e] <;> rfl), hp0_1⟩
      · subst e2; exact ⟨A0_2, cap0_2, (by rw [e] <;> rfl), hp0_2⟩
      · subst e2; exact ⟨A0_3, cap0_3, (by rw [e] <;> rfl), hp0_3⟩
    refine st_val hS12 rfl rfl rfl (r_ixB (n := 4) (e := 29) (sz := 1) (bb := false) hS12 rfl rfl rfl (by kernel_rfl) (idx_lo hx14) (Ar4.lt hx14)) fun a21 hS21 => st_val hS21 rfl rfl rfl (r_load1 (n := 1) hS21 rfl rfl (by kernel_rfl) (Bx.at_ (j := 0) h2 he15 rfl)) fun a22 hS22 => st_val hS22 rfl rfl rfl (r_assign hS22 rfl rfl) fun a23 hS23 => wpList_nil (hK _ _ ?_)
    replace hS : Sl 11 _ [(4, .slice A16 x13.length cap17)] := hS23.re ⟨rfl, trivial⟩
    clear hK K
    try clear hS11 hS12 hS21 hS22 hS23
    obtain ⟨a, ha⟩ : ∃ a', a' = a23 := ⟨_, rfl⟩
    rw [← ha] at hS ⊢; clear ha
    refine wp_ret ?_
    have e := Option.some.inj H
    subst e
    repeat (with_reducible first | refine then_ret ?_ | refine inBlock_ret ?_)
    exact c_ret1 hS Try.results46 rfl ⟨_, rfl, g5, A16, cap17, rfl, h18, hF⟩

/-! ### slices_Index_int_int: function 73 -/
def slices_Index_int_int.l0 (p0 : List Int) (p1 : Int) : Nat → Int → Option (Fl (Int) (Unit))
  | 0, _ => none
  | k8 + 1, m0_0 => if decide (m0_0 < (p0.length : Int)) = true then ((idx p0 m0_0).bind fun x16 => if (p1 == x16) = true then (some (.out m0_0)) else (slices_Index_int_int.l0 p0 p1 k8 (wi (m0_0 + 1)))) else (some (.nxt ()))
def slices_Index_int_int.f (p0 : List Int) (p1 : Int) : Option (Int) := (slices_Index_int_int.l0 p0 p1 FUEL 0 : Option (Fl (Int) (Unit))).bind fun o3 => o3.go fun _ => some (-1)
set_option maxRecDepth 100000 in
set_option maxHeartbeats 4000000 in
theorem slices_Index_int_int.calls {p0 : List Int} {A0 : Option Addr} {cap0 : Nat} {C0 : Nat → Prop} {p1 : Int} {w : World} {g : Nat → Nat} {out : Int} (N : Nat) (hp0 : RdS (kint .i64) w g C0 A0 cap0 p0) (hC0 : ∀ c, C0 c → c < N) (H : slices_Index_int_int.f p0 p1 = some out) :
    Calls Try.prog 73 #[.slice A0 p0.length cap0, .int .i64 p1] w (fun e w' => ∃ v, e = .returned v ∧ ∃ (g' : Nat → Nat), v = .int .i64 out ∧ Fr (fun q => N ≤ q) w g w' g') := by
  unfold slices_Index_int_int.f at H
  refine calls_enter Try.func73 rfl Try.ntmps73 rfl (fun a hS => ?_)
  replace hS : Sl 19 a [(0, .slice A0 p0.length cap0), (1, .int .i64 p1)] := hS
  have hF : Fr (fun q => N ≤ q) w g w g := Fr.refl _ _ _
  refine c_pure [(0, .slice A0 p0.length cap0), (1, .int .i64 p1)] (fun R hR => st_val hS rfl rfl rfl (r_assign hS rfl rfl) fun a1 hS1 => wpList_nil (hR _ (hS1.re ⟨rfl, rfl, trivial⟩))) ?_
  clear hS
  clear a
  intro a hS
  obtain ⟨o3, H, Hl4⟩ := bind_el H
  refine c_cut (fun a w' => o3 = .nxt () ∧ w = w' ∧ Sl 19 a []) ?_ ?_
  · refine c_pure [(0, .slice A0 p0.length cap0), (1, .int .i64 p1), (7, .int .i64 (p0.length : Int)), (8, .int .i64 0)] (fun R hR => st_val hS rfl rfl rfl (r_move hS rfl rfl) fun a5 hS5 => st_val hS5 rfl rfl rfl (r_len (e := 3) (sz := 1) (by_ := 8) hS5 rfl rfl (by kernel_rfl)) fun a6 hS6 => st_val hS6 rfl rfl rfl (r_move hS6 rfl rfl) fun a7 hS7 => wpList_nil (hR _ (hS7.re ⟨rfl, rfl, rfl, rfl, trivial⟩))) ?_
    clear hS
    clear a
    intro a hS
    refine wp_block ?_
    refine wp_loop_ghost (fun kq => fun a w' => ∃ (m0_0 : Int), slices_Index_int_int.l0 p0 p1 kq m0_0 = some o3 ∧ w = w' ∧ Sl 19 a [(0, .slice A0 p0.length cap0), (1, .int .i64 p1), (7, .int .i64 (p0.length : Int)), (8, .int .i64 m0_0)]) FUEL ?_ ?_
    · exact ⟨0, H, rfl, hS.re ⟨rfl, rfl, rfl, rfl, trivial⟩⟩
    · clear H
      clear hS
      rintro k8 a w' ⟨m0_0, hpre0, hw, hS⟩
      subst hw
      have H := hpre0
      clear hpre0
      cases k8 with
      | zero => exact absurd H (by simp [slices_Index_int_int.l0])
      | succ k8 =>
        rw [slices_Index_int_int.l0] at H
        refine c_pure [(0, .slice A0 p0.length cap0), (1, .int .i64 p1), (7, .int .i64 (p0.length : Int)), (8, .int .i64 m0_0), (9, .bool (decide (m0_0 < (p0.length : Int))))] (fun R hR => st_val hS rfl rfl rfl (r_bin hS rfl rfl rfl b_lss) fun a9 hS9 => wpList_nil (hR _ (hS9.re ⟨rfl, rfl, rfl, rfl, rfl, trivial⟩))) ?_
        clear hS
        clear a
        intro a hS
        refine c_if hS rfl (fun hb10 => ?_) (fun hb10 => ?_)
        · replace H := ite_t hb10 H
          refine wp_skip ?_
          change Code.wp _ _ _ _ _
          refine wp_seq ?_
          refine wp_block ?_
          refine c_pure [(0, .slice A0 p0.length cap0), (1, .int .i64 p1), (5, .int .i64 m0_0), (7, .int .i64 (p0.length : Int)), (8, .int .i64 m0_0)] (fun R hR => st_val hS rfl rfl rfl (r_move hS rfl rfl) fun a11 hS11 => st_val hS11 rfl rfl rfl (r_assign hS11 rfl rfl) fun a12 hS12 => wpList_nil (hR _ (hS12.re ⟨rfl, rfl, rfl, rfl, rfl, trivial⟩))) ?_
          clear hS
          clear a
          intro a hS
          obtain ⟨x16, hx17, H⟩ := bind_el H
          refine c_pure [(0, .slice A0 p0.length cap0), (1, .int .i64 p1), (5, .int .i64 m0_0), (7, .int .i64 (p0.length : Int)), (8, .int .i64 m0_0), (16, .bool (p1 == x16))] (fun R hR => st_val hS rfl rfl rfl (r_move hS rfl rfl) fun a13 hS13 => st_val hS13 rfl rfl rfl (r_move hS13 rfl rfl) fun a14 hS14 => st_val hS14 rfl rfl rfl (r_move hS14 rfl rfl) fun a15 hS15 => st_val hS15 rfl rfl rfl (r_index (e := 3) (sz := 1) (by_ := 8) hS15 rfl rfl rfl (by kernel_rfl) (RdS.some_ hp0 hx17) (idx_lo hx17) (idx_hi hx17)) fun a18 hS18 => st_val hS18 rfl rfl rfl (r_load1 (n := 1) hS18 rfl rfl (by kernel_rfl) (RdS.cell (i := m0_0) (sz := 1) (j := 0) hp0 hx17 rfl)) fun a19 hS19 => st_val hS19 rfl rfl rfl (r_bin hS19 rfl rfl rfl b_eql) fun a20 hS20 => wpList_nil (hR _ (hS20.re ⟨rfl, rfl, rfl, rfl, rfl, rfl, trivial⟩))) ?_
          clear hS
          clear a
          intro a hS
          refine c_cond hS rfl (fun hb21 => ?_) (fun hb21 => ?_)
          · replace H := ite_t hb21 H
            refine c_pure [(4, .int .i64 m0_0)] (fun R hR => st_val hS rfl rfl rfl (r_move hS rfl rfl) fun a22 hS22 => st_val hS22 rfl rfl rfl (r_assign hS22 rfl rfl) fun a23 hS23 => wpList_nil (hR _ (hS23.re ⟨rfl, trivial⟩))) ?_
            clear hS
            clear a
            intro a hS
            refine wp_ret ?_
            have e := Option.some.inj H
            subst e
            replace H := Fl.go_out Hl4
            have e := Option.some.inj H
            subst e
            repeat (with_reducible first | refine then_ret ?_ | refine inBlock_ret ?_)
            exact c_ret1 hS Try.results73 rfl ⟨_, rfl, g, rfl, hF⟩
          · replace H := ite_f hb21 H
            refine wp_skip ?_
            change Code.wp _ _ _ _ _
            refine c_pure1 [(0, .slice A0 p0.length cap0), (1, .int .i64 p1), (7, .int .i64 (p0.length : Int)), (8, .int .i64 (wi (m0_0 + 1)))] (fun R hR => st_val hS rfl rfl rfl (r_bin hS rfl rfl rfl b_add) fun a24 hS24 => st_val hS24 rfl rfl rfl (r_move hS24 rfl rfl) fun a25 hS25 => wpList_nil (hR _ (hS25.re ⟨rfl, rfl, rfl, rfl, trivial⟩))) ?_
            clear hS
            clear a
            intro a hS
            refine ⟨k8, Nat.lt_succ_self _, ?_⟩
            exact ⟨wi (m0_0 + 1), H, rfl, hS.re ⟨rfl, rfl, rfl, rfl, trivial⟩⟩
        · replace H := ite_f hb10 H
          refine wp_exit ?_
          have e := Option.some.inj H
          exact ⟨e.symm, rfl, hS.re trivial⟩
  · clear H
    clear hS
    rintro a w' ⟨hpre0, hw, hS⟩
    subst hpre0
    subst hw
    have H := Fl.go_nxt Hl4
    clear Hl4
    refine c_pure [(4, .int .i64 (-1))] (fun R hR => st_val hS rfl rfl rfl (r_assign hS rfl rfl) fun a26 hS26 => wpList_nil (hR _ (hS26.re ⟨rfl, trivial⟩))) ?_
    clear hS
    clear a
    intro a hS
    refine wp_ret ?_
    have e := Option.some.inj H
    subst e
    repeat (with_reducible first | refine then_ret ?_ | refine inBlock_ret ?_)
    exact c_ret1 hS Try.results73 rfl ⟨_, rfl, g, rfl, hF⟩

/-! ### slices_Contains_int_int: function 61 -/
def slices_Contains_int_int.f (p0 : List Int) (p1 : Int) : Option (Bool) := (slices_Index_int_int.f p0 p1).bind fun r4 => some (decide (0 ≤ r4))
set_option maxRecDepth 100000 in
set_option maxHeartbeats 4000000 in
theorem slices_Contains_int_int.calls {p0 : List Int} {A0 : Option Addr} {cap0 : Nat} {C0 : Nat → Prop} {p1 : Int} {w : World} {g : Nat → Nat} {out : Bool} (N : Nat) (hp0 : RdS (kint .i64) w g C0 A0 cap0 p0) (hC0 : ∀ c, C0 c → c < N) (H : slices_Contains_int_int.f p0 p1 = some out) :
    Calls Try.prog 61 #[.slice A0 p0.length cap0, .int .i64 p1] w (fun e w' => ∃ v, e = .returned v ∧ ∃ (g' : Nat → Nat), v = .bool out ∧ Fr (fun q => N ≤ q) w g w' g') := by
  unfold slices_Contains_int_int.f at H
  refine calls_enter Try.func61 rfl Try.ntmps61 rfl (fun a hS => ?_)
  replace hS : Sl 9 a [(0, .slice A0 p0.length cap0), (1, .int .i64 p1)] := hS
  have hF : Fr (fun q => N ≤ q) w g w g := Fr.refl _ _ _
  refine c_pure [(0, .slice A0 p0.length cap0), (1, .int .i64 p1)] (fun R hR => st_val hS rfl rfl rfl (r_assign hS rfl rfl) fun a1 hS1 => wpList_nil (hR _ (hS1.re ⟨rfl, rfl, trivial⟩))) ?_
  clear hS
  clear a
  intro a hS
  obtain ⟨r4, hr5, H⟩ := bind_el H
  refine c_region (fun K hK => ?_)
  refine st_val hS rfl rfl rfl (r_move hS rfl rfl) fun a2 hS2 => st_val hS2 rfl rfl rfl (r_move hS2 rfl rfl) fun a3 hS3 => ?_
  refine st_enter hS3 rfl rfl rfl (r_call hS3 rfl rfl (by kernel_rfl)) (slices_Index_int_int.calls (C0 := C0) (p0 := p0) (p1 := p1) (g := g) (N + 0)  hp0 (fun q (hq : C0 q) => by have := hC0 q hq; omega) hr5) ?_
  rintro _ a6 w7 ⟨g7, rfl, F7⟩ hS6
  replace hp0 := RdS.fr hp0 F7 (by decide) (fun q (hq : C0 q) (hm : N + 0 ≤ q) => by have := hC0 q hq; omega)
  replace hF := hF.trans F7 (fun c' (hm : N + 0 ≤ c') => by show N ≤ c'; omega)
  refine st_val hS6 rfl rfl rfl (r_bin hS6 rfl rfl rfl b_geq) fun a8 hS8 => st_val hS8 rfl rfl rfl (r_assign hS8 rfl rfl) fun a9 hS9 => wpList_nil (hK _ _ ?_)
  replace hS : Sl 9 _ [(4, .bool (decide (0 ≤ r4)))] := hS9.re ⟨rfl, trivial⟩
  clear hK K
  try clear hS2 hS3 hS6 hS8 hS9
  obtain ⟨a, ha⟩ : ∃ a', a' = a9 := ⟨_, rfl⟩
  rw [← ha] at hS ⊢; clear ha
  refine wp_ret ?_
  have e := Option.some.inj H
  subst e
  repeat (with_reducible first | refine then_ret ?_ | refine inBlock_ret ?_)
  exact c_ret1 hS Try.results61 rfl ⟨_, rfl, g7, rfl, hF⟩

/-! ### device_without: function 44 -/
def device_without.l0 (p0 : List Int) (p1 : List Int) : Nat → (List Int) → Int → Option ((List Int))
  | 0, _, _ => none
  | k17 + 1, m0_0, m0_1 => if decide (m0_1 < (p0.length : Int)) = true then (((idx p0 m0_1).bind fun x27 => (slices_Contains_int_int.f p1 x27).bind fun r34 => if (!r34) = true then ((app m0_0 [x27]).bind fun y47 => some y47) else (some m0_0) : Option ((List Int))).bind fun v24 => device_without.l0 p0 p1 k17 v24 (wi (m0_1 + 1))) else (some m0_0)
def device_without.f (p0 : List Int) (p1 : List Int) : Option ((List Int)) := (device_without.l0 p0 p1 FUEL [] 0 : Option ((List Int))).bind fun v7 => some v7
set_option maxRecDepth 100000 in
set_option maxHeartbeats 4000000 in
theorem device_without.calls {p0 : List Int} {A0 : Option Addr} {cap0 : Nat} {C0 : Nat → Prop} {p1 : List Int} {A1 : Option Addr} {cap1 : Nat} {C1 : Nat → Prop} {w : World} {g : Nat → Nat} {out : (List Int)} (N : Nat) (r0 : Nat) (hp0 : RdS (kint .i64) w g C0 A0 cap0 p0) (hC0 : ∀ c, C0 c → c < N) (hp1 : RdS (kint .i64) w g C1 A1 cap1 p1) (hC1 : ∀ c, C1 c → c < N) (hr0 : r0 + 2 ≤ N) (H : device_without.f p0 p1 = some out) :
    Calls Try.prog 44 #[.slice A0 p0.length cap0, .slice A1 p1.length cap1] w (fun e w' => ∃ v, e = .returned v ∧ ∃ (g' : Nat → Nat) (A_r0 : Option Addr) (cap_r0 : Nat), v = .slice A_r0 out.length cap_r0 ∧ OwS (kint .i64) 3 w' g' r0 A_r0 cap_r0 out ∧ Fr (fun q => (r0 ≤ q ∧ q < r0 + 2) ∨ N ≤ q) w g w' g') := by
  unfold device_without.f at H
  refine calls_enter Try.func44 rfl Try.ntmps44 rfl (fun a hS => ?_)
  replace hS : Sl 24 a [(0, .slice A0 p0.length cap0), (1, .slice A1 p1.length cap1)] := hS
  have hF : Fr (fun q => (r0 ≤ q ∧ q < r0 + 2) ∨ N ≤ q) w g w g := Fr.refl _ _ _
  refine c_pure [(0, .slice A0 p0.length cap0), (1, .slice A1 p1.length cap1)] (fun R hR => st_val hS rfl rfl rfl (r_assign hS rfl rfl) fun a1 hS1 => wpList_nil (hR _ (hS1.re ⟨rfl, rfl, trivial⟩))) ?_
  clear hS
  clear a
  intro a hS
  refine c_pure [(0, .slice A0 p0.length cap0), (1, .slice A1 p1.length cap1), (5, .slice none 0 0)] (fun R hR => st_val hS rfl rfl rfl (r_assign hS rfl rfl) fun a2 hS2 => wpList_nil (hR _ (hS2.re ⟨rfl, rfl, rfl, trivial⟩))) ?_
  clear hS
  clear a
  intro a hS
  obtain ⟨v7, H, Hl9⟩ := bind_el H
  refine c_cut (fun a w3 => ∃ (g3 : Nat → Nat), ∃ (A4 : Option Addr), ∃ (cap5 : Nat), Sl 24 a [(5, .slice A4 v7.length cap5)] ∧ OwS (kint .i64) 3 w3 g3 (N + 2) A4 cap5 v7 ∧ Fr (fun q => (r0 ≤ q ∧ q < r0 + 2) ∨ N ≤ q) w g w3 g3) ?_ ?_
  · refine c_pure [(1, .slice A1 p1.length cap1), (5, .slice none 0 0), (8, .slice A0 p0.length cap0), (9, .int .i64 (p0.length : Int)), (10, .int .i64 0)] (fun R hR => st_val hS rfl rfl rfl (r_move hS rfl rfl) fun a10 hS10 => st_val hS10 rfl rfl rfl (r_len (e := 3) (sz := 1) (by_ := 8) hS10 rfl rfl (by kernel_rfl)) fun a11 hS11 => st_val hS11 rfl rfl rfl (r_move hS11 rfl rfl) fun a12 hS12 => wpList_nil (hR _ (hS12.re ⟨rfl, rfl, rfl, rfl, rfl, trivial⟩))) ?_
    clear hS
    clear a
    intro a hS
    refine wp_block ?_
    refine wp_loop_ghost (fun kq => fun a w13 => ∃ (m0_0 : List Int), ∃ (m0_1 : Int), ∃ (g13 : Nat → Nat), ∃ (A14 : Option Addr), ∃ (cap15 : Nat), device_without.l0 p0 p1 kq m0_0 m0_1 = some v7 ∧ Sl 24 a [(1, .slice A1 p1.length cap1), (5, .slice A14 m0_0.length cap15), (8, .slice A0 p0.length cap0), (9, .int .i64 (p0.length : Int)), (10, .int .i64 m0_1)] ∧ OwS (kint .i64) 3 w13 g13 (N + 2) A14 cap15 m0_0 ∧ RdS (kint .i64) w13 g13 C0 A0 cap0 p0 ∧ RdS (kint .i64) w13 g13 C1 A1 cap1 p1 ∧ Fr (fun q => (r0 ≤ q ∧ q < r0 + 2) ∨ N ≤ q) w g w13 g13) FUEL ?_ ?_
    · exact ⟨[], 0, g, none, 0, H, hS.re ⟨rfl, rfl, rfl, rfl, rfl, trivial⟩, OwS.nil (kint .i64) 3 w g (N + 2), hp0, hp1, hF⟩
    · clear H
      clear hp0 hp1 hF
      clear hS
      rintro k17 a w13 ⟨m0_0, m0_1, g13, A14, cap15, hpre0, hS, h16, hp0, hp1, hF⟩
      have H := hpre0
      clear hpre0
      cases k17 with
      | zero => exact absurd H (by simp [device_without.l0])
      | succ k17 =>
        rw [device_without.l0] at H
        refine c_pure [(1, .slice A1 p1.length cap1), (5, .slice A14 m0_0.length cap15), (8, .slice A0 p0.length cap0), (9, .int .i64 (p0.length : Int)), (10, .int .i64 m0_1), (11, .bool (decide (m0_1 < (p0.length : Int))))] (fun R hR => st_val hS rfl rfl rfl (r_bin hS rfl rfl rfl b_lss) fun a18 hS18 => wpList_nil (hR _ (hS18.re ⟨rfl, rfl, rfl, rfl, rfl, rfl, trivial⟩))) ?_
        clear hS
        clear a
        intro a hS
        refine c_if hS rfl (fun hb19 => ?_) (fun hb19 => ?_)
        · replace H := ite_t hb19 H
          refine wp_skip ?_
          change Code.wp _ _ _ _ _
          obtain ⟨v24, H, Hl26⟩ := bind_el H
          refine c_cut (fun a w20 => ∃ (g20 : Nat → Nat), ∃ (A21 : Option Addr), ∃ (cap22 : Nat), Sl 24 a [(1, .slice A1 p1.length cap1), (5, .slice A21 v24.length cap22), (8, .slice A0 p0.length cap0), (9, .int .i64 (p0.length : Int)), (10, .int .i64 m0_1)] ∧ OwS (kint .i64) 3 w20 g20 (N + 2) A21 cap22 v24 ∧ RdS (kint .i64) w20 g20 C0 A0 cap0 p0 ∧ RdS (kint .i64) w20 g20 C1 A1 cap1 p1 ∧ Fr (fun q => (r0 ≤ q ∧ q < r0 + 2) ∨ N ≤ q) w g w20 g20) ?_ ?_
          · refine wp_block ?_
            obtain ⟨x27, hx28, H⟩ := bind_el H
            refine c_pure [(1, .slice A1 p1.length cap1), (5, .slice A14 m0_0.length cap15), (7, .int .i64 x27), (8, .slice A0 p0.length cap0), (9, .int .i64 (p0.length : Int)), (10, .int .i64 m0_1)] (fun R hR => st_val hS rfl rfl rfl (r_index (e := 3) (sz := 1) (by_ := 8) hS rfl rfl rfl (by kernel_rfl) (RdS.some_ hp0 hx28) (idx_lo hx28) (idx_hi hx28)) fun a29 hS29 => st_val hS29 rfl rfl rfl (r_load1 (n := 1) hS29 rfl rfl (by kernel_rfl) (RdS.cell (i := m0_1) (sz := 1) (j := 0) hp0 hx28 rfl)) fun a30 hS30 => st_val hS30 rfl rfl rfl (r_assign hS30 rfl rfl) fun a31 hS31 => wpList_nil (hR _ (hS31.re ⟨rfl, rfl, rfl, rfl, rfl, rfl, trivial⟩))) ?_
            clear hS
            clear a
            intro a hS
            obtain ⟨r34, hr35, H⟩ := bind_el H
            refine c_region (fun K hK => ?_)
            refine st_val hS rfl rfl rfl (r_move hS rfl rfl) fun a32 hS32 => st_val hS32 rfl rfl rfl (r_move hS32 rfl rfl) fun a33 hS33 => ?_
            refine st_enter hS33 rfl rfl rfl (r_call hS33 rfl rfl (by kernel_rfl)) (slices_Contains_int_int.calls (C0 := C1) (p0 := p1) (p1 := x27) (g := g13) (N + 4)  hp1 (fun q (hq : C1 q) => by have := hC1 q hq; omega) hr35) ?_
            rintro _ a36 w37 ⟨g37, rfl, F37⟩ hS36
            replace h16 := OwS.fr h16 F37 (fun c' hc (hm : N + 4 ≤ c') => by omega)
            replace hp0 := RdS.fr hp0 F37 (by decide) (fun q (hq : C0 q) (hm : N + 4 ≤ q) => by have := hC0 q hq; omega)
            replace hp1 := RdS.fr hp1 F37 (by decide) (fun q (hq : C1 q) (hm : N + 4 ≤ q) => by have := hC1 q hq; omega)
            replace hF := hF.trans F37 (fun c' (hm : N + 4 ≤ c') => by show (r0 ≤ c' ∧ c' < r0 + 2) ∨ N ≤ c'; omega)
            refine st_val hS36 rfl rfl rfl (r_not hS36 rfl rfl) fun a38 hS38 => wpList_nil (hK _ _ ?_)
            replace hS : Sl 24 _ [(1, .slice A1 p1.length cap1), (5, .slice A14 m0_0.length cap15), (7, .int .i64 x27), (8, .slice A0 p0.length cap0), (9, .int .i64 (p0.length : Int)), (10, .int .i64 m0_1), (17, .bool (!r34))] := hS38.re ⟨rfl, rfl, rfl, rfl, rfl, rfl, rfl, trivial⟩
            clear hK K
            try clear hS32 hS33 hS36 hS38
            obtain ⟨a, ha⟩ : ∃ a', a' = a38 := ⟨_, rfl⟩
            rw [← ha] at hS ⊢; clear ha
            refine c_cond hS rfl (fun hb39 => ?_) (fun hb39 => ?_)
            · replace H := ite_t hb39 H
              obtain ⟨y47, hy48, H⟩ := bind_el H
              refine c_region1 (fun K hK => ?_)
              refine st_val hS rfl rfl rfl (r_move hS rfl rfl) fun a40 hS40 => st_val hS40 rfl rfl rfl (r_move hS40 rfl rfl) fun a41 hS41 => ?_
              refine st_eff hS41 rfl rfl rfl (e_lit (e := 3) (parts := [(0, .int .i64 x27)]) (cs := [.int .i64 x27]) (kint .i64) [x27] (N + 0) g37 hS41 rfl rfl (fun _ => by kernel_rfl) rfl (by decide) (Rows.cons (cs := [.int .i64 x27]) rfl Rows.nil)) ?_
              rintro _ a45 w46 g46 ⟨⟨A42, rfl, h43⟩, F46⟩ hS45
              replace h16 := OwS.fr h16 F46 (fun _ _ h => h)
              replace hp0 := RdS.fr hp0 F46 (by decide) (fun _ _ h => h)
              replace hp1 := RdS.fr hp1 F46 (by decide) (fun _ _ h => h)
              replace hF := hF.trans F46 (fun _ h => h.elim)
              refine st_eff hS45 rfl rfl rfl (e_append (e := 3) (sz := 1) (by_ := 8) (z := [.int .i64 0]) (kd := (kint .i64)) g46 hS45 rfl rfl rfl rfl (by kernel_rfl) (by kernel_rfl) rfl rfl rfl rfl h16 (OwD.rdx h43) (fun _ _ _ h => h) hy48) ?_
              rintro _ a53 w54 g54 ⟨⟨A49, cap50, rfl, h51⟩, F54⟩ hS53
              replace h43 := OwS.fr h43 F54 (fun c' hc (hm : c' = N + 2) => by omega)
              replace hp0 := RdS.fr hp0 F54 (by decide) (fun q (hq : C0 q) (hm : q = N + 2) => by have := hC0 q hq; omega)
              replace hp1 := RdS.fr hp1 F54 (by decide) (fun q (hq : C1 q) (hm : q = N + 2) => by have := hC1 q hq; omega)
              replace hF := hF.trans F54 (fun c' (hm : c' = N + 2) => by show (r0 ≤ c' ∧ c' < r0 + 2) ∨ N ≤ c'; omega)
              refine st_val hS53 rfl rfl rfl (r_assign hS53 rfl rfl) fun a55 hS55 => wpList_nil (hK _ _ ?_)
              replace hS : Sl 24 _ [(1, .slice A1 p1.length cap1), (5, .slice A49 y47.length cap50), (8, .slice A0 p0.length cap0), (9, .int .i64 (p0.length : Int)), (10, .int .i64 m0_1)] := hS55.re ⟨rfl, rfl, rfl, rfl, rfl, trivial⟩
              clear hK K
              try clear hS40 hS41 hS45 hS53 hS55
              obtain ⟨a, ha⟩ : ∃ a', a' = a55 := ⟨_, rfl⟩
              rw [← ha] at hS ⊢; clear ha
              have e := Option.some.inj H
              subst e
              exact ⟨g54, A49, cap50, hS.re ⟨rfl, rfl, rfl, rfl, rfl, trivial⟩, h51, hp0, hp1, hF⟩
            · replace H := ite_f hb39 H
              refine wp_skip ?_
              have e := Option.some.inj H
              subst e
              exact ⟨g37, A14, cap15, hS.re ⟨rfl, rfl, rfl, rfl, rfl, trivial⟩, h16, hp0, hp1, hF⟩
          · clear H
            clear hp0 hp1 h16 hF
            clear hS
            rintro a w20 ⟨g20, A21, cap22, hS, h23, hp0, hp1, hF⟩
            have H := Hl26
            clear Hl26
            refine c_pure1 [(1, .slice A1 p1.length cap1), (5, .slice A21 v24.length cap22), (8, .slice A0 p0.length cap0), (9, .int .i64 (p0.length : Int)), (10, .int .i64 (wi (m0_1 + 1)))] (fun R hR => st_val hS rfl rfl rfl (r_bin hS rfl rfl rfl b_add) fun a56 hS56 => st_val hS56 rfl rfl rfl (r_move hS56 rfl rfl) fun a57 hS57 => wpList_nil (hR _ (hS57.re ⟨rfl, rfl, rfl, rfl, rfl, trivial⟩))) ?_
            clear hS
            clear a
            intro a hS
            refine ⟨k17, Nat.lt_succ_self _, ?_⟩
            exact ⟨v24, wi (m0_1 + 1), g20, A21, cap22, H, hS.re ⟨rfl, rfl, rfl, rfl, rfl, trivial⟩, h23, hp0, hp1, hF⟩
        · replace H := ite_f hb19 H
          refine wp_exit ?_
          have e := Option.some.inj H
          subst e
          exact ⟨g13, A14, cap15, hS.re ⟨rfl, trivial⟩, h16, hF⟩
  · clear H
    clear hp0 hp1 hF
    clear hS
    rintro a w3 ⟨g3, A4, cap5, hS, h6, hF⟩
    have H := Hl9
    clear Hl9
    refine c_pure [(4, .slice A4 v7.length cap5)] (fun R hR => st_val hS rfl rfl rfl (r_move hS rfl rfl) fun a58 hS58 => st_val hS58 rfl rfl rfl (r_assign hS58 rfl rfl) fun a59 hS59 => wpList_nil (hR _ (hS59.re ⟨rfl, trivial⟩))) ?_
    clear hS
    clear a
    intro a hS
    refine wp_ret ?_
    have e := Option.some.inj H
    subst e
    have F60 := Fr.recol2 w3 g3 (N + 2) r0
    replace h6 := h6.recol2 r0
    replace hF := hF.trans F60 (fun c' (hm : c' = N + 2 ∨ c' = N + 2 + 1) => by show (r0 ≤ c' ∧ c' < r0 + 2) ∨ N ≤ c'; omega)
    repeat (with_reducible first | refine then_ret ?_ | refine inBlock_ret ?_)
    exact c_ret1 hS Try.results44 rfl ⟨_, rfl, (recol2 g3 (N + 2) r0), A4, cap5, rfl, h6, hF⟩

/-! ### slices_Reverse_int_int: function 45 -/
def slices_Reverse_int_int.l0 : Nat → (List Int) → Int → Int → Option ((List Int))
  | 0, _, _, _ => none
  | k7 + 1, m0_0, m0_1, m0_2 => if decide (m0_1 < m0_2) = true then ((idx m0_0 m0_2).bind fun x12 => (idx m0_0 m0_1).bind fun x14 => (idx (upd m0_0 m0_1 x12) m0_2).bind fun x16 => slices_Reverse_int_int.l0 k7 (upd (upd m0_0 m0_1 x12) m0_2 x14) (wi (m0_1 + 1)) (wi (m0_2 - 1))) else (some m0_0)
def slices_Reverse_int_int.f (p0 : List Int) : Option ((List Int)) := slices_Reverse_int_int.l0 FUEL p0 0 (wi ((p0.length : Int) - 1))
set_option maxRecDepth 100000 in
set_option maxHeartbeats 4000000 in
theorem slices_Reverse_int_int.calls {p0 : List Int} {A0 : Option Addr} {cap0 : Nat} {c0 : Nat} {w : World} {g : Nat → Nat} {out : (List Int)} (N : Nat) (hp0 : OwS (kint .i64) 3 w g c0 A0 cap0 p0) (hc0 : c0 + 2 ≤ N) (H : slices_Reverse_int_int.f p0 = some out) :
    Calls Try.prog 45 #[.slice A0 p0.length cap0] w (fun e w' => ∃ v, e = .returned v ∧ ∃ (g' : Nat → Nat), v = .tuple #[] ∧ OwS (kint .i64) 3 w' g' c0 A0 cap0 out ∧ out.length = p0.length ∧ Fr (fun q => (c0 ≤ q ∧ q < c0 + 2) ∨ N ≤ q) w g w' g') := by
  unfold slices_Reverse_int_int.f at H
  refine calls_enter Try.func45 rfl Try.ntmps45 rfl (fun a hS => ?_)
  replace hS : Sl 28 a [(0, .slice A0 p0.length cap0)] := hS
  have hF : Fr (fun q => (c0 ≤ q ∧ q < c0 + 2) ∨ N ≤ q) w g w g := Fr.refl _ _ _
  have hl0 : p0.length = p0.length := rfl
  refine c_pure [(0, .slice A0 p0.length cap0), (2, .int .i64 0), (3, .int .i64 (wi ((p0.length : Int) - 1)))] (fun R hR => st_val hS rfl rfl rfl (r_move hS rfl rfl) fun a1 hS1 => st_val hS1 rfl rfl rfl (r_len (e := 3) (sz := 1) (by_ := 8) hS1 rfl rfl (by kernel_rfl)) fun a2 hS2 => st_val hS2 rfl rfl rfl (r_bin hS2 rfl rfl rfl b_sub) fun a3 hS3 => st_val hS3 rfl rfl rfl (r_assign hS3 rfl rfl) fun a4 hS4 => st_val hS4 rfl rfl rfl (r_assign hS4 rfl rfl) fun a5 hS5 => wpList_nil (hR _ (hS5.re ⟨rfl, rfl, rfl, trivial⟩))) ?_
  clear hS
  clear a
  intro a hS
  refine wp_block ?_
  refine wp_loop_ghost (fun kq => fun a w6 => ∃ (m0_0 : List Int), ∃ (m0_1 : Int), ∃ (m0_2 : Int), ∃ (g6 : Nat → Nat), slices_Reverse_int_int.l0 kq m0_0 m0_1 m0_2 = some out ∧ Sl 28 a [(0, .slice A0 m0_0.length cap0), (2, .int .i64 m0_1), (3, .int .i64 m0_2)] ∧ OwS (kint .i64) 3 w6 g6 (c0) A0 cap0 m0_0 ∧ m0_0.length = p0.length ∧ Fr (fun q => (c0 ≤ q ∧ q < c0 + 2) ∨ N ≤ q) w g w6 g6) FUEL ?_ ?_
  · exact ⟨p0, 0, wi ((p0.length : Int) - 1), g, H, hS.re ⟨rfl, rfl, rfl, trivial⟩, hp0, (by first | exact hl0 | (simp only [upd_length]; exact hl0)), hF⟩
  · clear H
    clear hp0 hl0 hF
    clear hS
    rintro k7 a w6 ⟨m0_0, m0_1, m0_2, g6, hpre0, hS, hp0, hl0, hF⟩
    have H := hpre0
    clear hpre0
    cases k7 with
    | zero => exact absurd H (by simp [slices_Reverse_int_int.l0])
    | succ k7 =>
      rw [slices_Reverse_int_int.l0] at H
      refine wp_seq ?_
      refine c_pure [(0, .slice A0 m0_0.length cap0), (2, .int .i64 m0_1), (3, .int .i64 m0_2), (9, .bool (decide (m0_1 < m0_2)))] (fun R hR => st_val hS rfl rfl rfl (r_move hS rfl rfl) fun a8 hS8 => st_val hS8 rfl rfl rfl (r_move hS8 rfl rfl) fun a9 hS9 => st_val hS9 rfl rfl rfl (r_bin hS9 rfl rfl rfl b_lss) fun a10 hS10 => wpList_nil (hR _ (hS10.re ⟨rfl, rfl, rfl, rfl, trivial⟩))) ?_
      clear hS
      clear a
      intro a hS
      refine c_cond hS rfl (fun hb11 => ?_) (fun hb11 => ?_)
      · replace H := ite_t hb11 H
        refine wp_skip ?_
        change Code.wp _ _ _ _ _
        refine wp_seq ?_
        refine wp_block ?_
        obtain ⟨x12, hx13, H⟩ := bind_el H
        obtain ⟨x14, hx15, H⟩ := bind_el H
        obtain ⟨x16, hx17, H⟩ := bind_el H
        refine c_draw1 (fun K hK => d_start (fun q => False) g6 [13, 15] 16 #[false, false, false, false, false, false, false, false, false, false, false, false, false, false, false, false] (by kernel_rfl) rfl rfl (fun w18 hw18 => ?_))
        have F18 : Fr (fun _ => False) w6 g6 w18 g6 := by rw [hw18]; exact Fr.drew _ _ _
        replace hp0 := OwS.fr hp0 F18 (fun _ _ h => h)
        replace hF := hF.trans F18 (fun _ h => h.elim)
        have hC : Fr (fun q => False) w18 g6 w18 g6 := Fr.refl _ _ _
        refine d_pure hS 0 #[true, false, false, false, false, false, false, false, false, false, false, false, false, false, false, false] rfl rfl rfl rfl (by kernel_rfl) (fun _ _ _ h => h) (fun _ => (r_move hS rfl rfl)) fun a19 hS19 => d_pure hS19 1 #[true, true, false, false, false, false, false, false, false, false, false, false, false, false, false, false] rfl rfl rfl rfl (by kernel_rfl) (fun _ _ _ h => h) (fun _ => (r_move hS19 rfl rfl)) fun a20 hS20 => d_pure hS20 2 #[true, true, true, false, false, false, false, false, false, false, false, false, false, false, false, false] rfl rfl rfl rfl (by kernel_rfl) (fun _ _ _ h => h) (fun _ => (r_move hS20 rfl rfl)) fun a21 hS21 => d_pure hS21 3 #[true, true, true, true, false, false, false, false, false, false, false, false, false, false, false, false] rfl rfl rfl rfl (by kernel_rfl) (fun _ _ _ h => h) (fun _ => (r_move hS21 rfl rfl)) fun a22 hS22 => d_pure hS22 4 #[true, true, true, true, true, false, false, false, false, false, false, false, false, false, false, false] rfl rfl rfl rfl (by kernel_rfl) (fun _ _ _ h => h) (fun _ => (r_move hS22 rfl rfl)) fun a23 hS23 => d_pure hS23 5 #[true, true, true, true, true, true, false, false, false, false, false, false, false, false, false, false] rfl rfl rfl rfl (by kernel_rfl) (fun _ _ _ h => h) (fun _ => (r_move hS23 rfl rfl)) fun a24 hS24 => d_pure hS24 6 #[true, true, true, true, true, true, true, false, false, false, false, false, false, false, false, false] rfl rfl rfl rfl (by kernel_rfl) (fun _ _ _ h => h) (fun _ => (r_index (e := 3) (sz := 1) (by_ := 8) hS24 rfl rfl rfl (by kernel_rfl) (RdS.some_ (OwS.rd hp0) hx13) (idx_lo hx13) (idx_hi hx13))) fun a25 hS25 => d_take hS25 7 #[true, true, true, true, true, true, true, true, false, false, false, false, false, false, false, false] rfl rfl rfl rfl (by kernel_rfl) (fun _ _ _ h => h) ⟨_, hC⟩ (fun w' g' Fz => (r_load1 (n := 1) hS25 rfl rfl (by kernel_rfl) (RdS.cell (i := m0_2) (sz := 1) (j := 0) (OwS.rd (OwS.fr hp0 Fz (fun _ _ h => h))) hx13 rfl))) fun a26 hS26 => d_pure hS26 8 #[true, true, true, true, true, true, true, true, true, false, false, false, false, false, false, false] rfl rfl rfl rfl (by kernel_rfl) (fun _ _ _ h => h) (fun _ => (r_move hS26 rfl rfl)) fun a27 hS27 => d_pure hS27 9 #[true, true, true, true, true, true, true, true, true, true, false, false, false, false, false, false] rfl rfl rfl rfl (by kernel_rfl) (fun _ _ _ h => h) (fun _ => (r_move hS27 rfl rfl)) fun a28 hS28 => d_pure hS28 10 #[true, true, true, true, true, true, true, true, true, true, true, false, false, false, false, false] rfl rfl rfl rfl (by kernel_rfl) (fun _ _ _ h => h) (fun _ => (r_index (e := 3) (sz := 1) (by_ := 8) hS28 rfl rfl rfl (by kernel_rfl) (RdS.some_ (OwS.rd hp0) hx15) (idx_lo hx15) (idx_hi hx15))) fun a29 hS29 => d_take hS29 11 #[true, true, true, true, true, true, true, true, true, true, true, true, false, false, false, false] rfl rfl rfl rfl (by kernel_rfl) (fun _ _ _ h => h) ⟨_, hC⟩ (fun w' g' Fz => (r_load1 (n := 1) hS29 rfl rfl (by kernel_rfl) (RdS.cell (i := m0_1) (sz := 1) (j := 0) (OwS.rd (OwS.fr hp0 Fz (fun _ _ h => h))) hx15 rfl))) fun a30 hS30 => d_pure hS30 12 #[true, true, true, true, true, true, true, true, true, true, true, true, true, false, false, false] rfl rfl rfl rfl (by kernel_rfl) (fun _ _ _ h => h) (fun _ => (r_index (e := 3) (sz := 1) (by_ := 8) hS30 rfl rfl rfl (by kernel_rfl) (RdS.some_ (OwS.rd hp0) hx15) (idx_lo hx15) (idx_hi hx15))) fun a31 hS31 => ?_
        refine d_one 13 #[true, true, true, true, true, true, true, true, true, true, true, true, true, true, false, false] rfl (by kernel_rfl) (arm_effS hS31 rfl rfl (e_storeE (n := 1) (bb := false) (kd := (kint .i64)) (j := 0) (x' := x12) (us := [.int .i64 x12]) g6 hS31 rfl rfl rfl rfl (by kernel_rfl) rfl rfl (by intro v hv; simp only [List.mem_cons, List.not_mem_nil, or_false] at hv; rcases hv with rfl <;> rfl) hp0 hx15 rfl (fun _ _ cs hR => by rw [show cs = _ from hR]; rfl)) (.inl (by decide)) ?_)
        rintro a32 w33 g33 ⟨hp0, F33⟩ hS32
        replace hF := hF.trans F33 (fun c' (hm : c' = c0) => by show (c0 ≤ c' ∧ c' < c0 + 2) ∨ N ≤ c'; omega)
        have hT : Sl 28 a32 [(0, .slice A0 m0_0.length cap0), (2, .int .i64 m0_1), (3, .int .i64 m0_2), (16, .slice A0 m0_0.length cap0), (17, .int .i64 m0_2), (25, .int .i64 x14)] := hS32.re ⟨rfl, rfl, rfl, rfl, rfl, rfl, trivial⟩
        replace hS32 : Sl 28 a32 [(0, .slice A0 (upd m0_0 m0_1 x12).length cap0), (2, .int .i64 m0_1), (3, .int .i64 m0_2), (16, .slice A0 (upd m0_0 m0_1 x12).length cap0), (17, .int .i64 m0_2), (25, .int .i64 x14)] := by simpa only [upd_length] using hT
        clear hT
        refine d_pure hS32 14 #[true, true, true, true, true, true, true, true, true, true, true, true, true, true, true, false] rfl rfl rfl rfl (by kernel_rfl) (fun _ _ _ h => h) (fun _ => (r_index (e := 3) (sz := 1) (by_ := 8) hS32 rfl rfl rfl (by kernel_rfl) (RdS.some_ (OwS.rd hp0) hx17) (idx_lo hx17) (idx_hi hx17))) fun a34 hS34 => ?_
        refine d_one 15 #[true, true, true, true, true, true, true, true, true, true, true, true, true, true, true, true] rfl (by kernel_rfl) (arm_effS hS34 rfl rfl (e_storeE (n := 1) (bb := false) (kd := (kint .i64)) (j := 0) (x' := x14) (us := [.int .i64 x14]) g33 hS34 rfl rfl rfl rfl (by kernel_rfl) rfl rfl (by intro v hv; simp only [List.mem_cons, List.not_mem_nil, or_false] at hv; rcases hv with rfl <;> rfl) hp0 hx17 rfl (fun _ _ cs hR => by rw [show cs = _ from hR]; rfl)) (.inl (by decide)) ?_)
        rintro a35 w36 g36 ⟨hp0, F36⟩ hS35
        replace hF := hF.trans F36 (fun c' (hm : c' = c0) => by show (c0 ≤ c' ∧ c' < c0 + 2) ∨ N ≤ c'; omega)
        have hT : Sl 28 a35 [(0, .slice A0 (upd m0_0 m0_1 x12).length cap0), (2, .int .i64 m0_1), (3, .int .i64 m0_2)] := hS35.re ⟨rfl, rfl, rfl, trivial⟩
        replace hS35 : Sl 28 a35 [(0, .slice A0 (upd (upd m0_0 m0_1 x12) m0_2 x14).length cap0), (2, .int .i64 m0_1), (3, .int .i64 m0_2)] := by simpa only [upd_length] using hT
        clear hT
        refine d_done (by kernel_rfl) (hK _ _ ?_)
        replace hS : Sl 28 _ [(0, .slice A0 (upd (upd m0_0 m0_1 x12) m0_2 x14).length cap0), (2, .int .i64 m0_1), (3, .int .i64 m0_2)] := hS35.re ⟨rfl, rfl, rfl, trivial⟩
        clear hK K hC
        try clear hS19 hS20 hS21 hS22 hS23 hS24 hS25 hS26 hS27 hS28 hS29 hS30 hS31 hS32 hS34 hS35
        obtain ⟨a, ha⟩ : ∃ a', a' = a35 := ⟨_, rfl⟩
        rw [← ha] at hS ⊢; clear ha
        change Code.wp _ _ _ _ _
        refine c_pure1 [(0, .slice A0 (upd (upd m0_0 m0_1 x12) m0_2 x14).length cap0), (2, .int .i64 (wi (m0_1 + 1))), (3, .int .i64 (wi (m0_2 - 1)))] (fun R hR => st_val hS rfl rfl rfl (r_move hS rfl rfl) fun a37 hS37 => st_val hS37 rfl rfl rfl (r_bin hS37 rfl rfl rfl b_add) fun a38 hS38 => st_val hS38 rfl rfl rfl (r_move hS38 rfl rfl) fun a39 hS39 => st_val hS39 rfl rfl rfl (r_bin hS39 rfl rfl rfl b_sub) fun a40 hS40 => st_val hS40 rfl rfl rfl (r_assign hS40 rfl rfl) fun a41 hS41 => st_val hS41 rfl rfl rfl (r_assign hS41 rfl rfl) fun a42 hS42 => wpList_nil (hR _ (hS42.re ⟨rfl, rfl, rfl, trivial⟩))) ?_
        clear hS
        clear a
        intro a hS
        refine ⟨k7, Nat.lt_succ_self _, ?_⟩
        exact ⟨(upd (upd m0_0 m0_1 x12) m0_2 x14), wi (m0_1 + 1), wi (m0_2 - 1), g36, H, hS.re ⟨rfl, rfl, rfl, trivial⟩, hp0, (by first | exact hl0 | (simp only [upd_length]; exact hl0)), hF⟩
      · replace H := ite_f hb11 H
        refine wp_exit ?_
        have e := Option.some.inj H
        subst e
        repeat (with_reducible first | refine inBlock_exit ?_ | refine then_exit ?_ | refine inBlock_out (by decide) ?_ | refine inBlock_normal ?_)
        exact c_end0 hS Try.results45 ⟨_, rfl, g6, rfl, hp0, (by first | exact hl0 | (simp only [upd_length]; exact hl0)), hF⟩

/-! ### device_Change: function 21 -/
def device_Change.f (p0 : api_PowerDevice) (p1 : Int) (p2 : Int) : Option ((List Int) × (List Int) × Int) := (device_isState.f p1).bind fun r10 => (if (!r10) = true then some true else (device_isState.f p2).bind fun r18 => some (!r18)).bind fun t23 => (if t23 = true then some true else (device_needs.f p0 p1).bind fun r44 => (device_ascending.f r44).bind fun r52 => some (!r52)).bind fun t57 => (if t57 = true then some true else (device_needs.f p0 p2).bind fun r89 => (device_ascending.f r89).bind fun r97 => some (!r97)).bind fun t102 => if t102 = true then (some ([], [], 1)) else ((device_needs.f p0 p2).bind fun r134 => (device_needs.f p0 p1).bind fun r140 => (device_without.f r134 r140).bind fun r146 => (device_needs.f p0 p1).bind fun r176 => (device_needs.f p0 p2).bind fun r182 => (device_without.f r176 r182).bind fun r188 => (slices_Reverse_int_int.f r188).bind fun r219 => some (r146, r219, 0))
set_option maxRecDepth 100000 in
set_option maxHeartbeats 4000000 in
theorem device_Change.calls {p0 : api_PowerDevice} {C0 : Nat → Prop} {A0_0 : Option Addr} {cap0_0 : Nat} {A0_1 : Option Addr} {cap0_1 : Nat} {A0_2 : Option Addr} {cap0_2 : Nat} {A0_3 : Option Addr} {cap0_3 : Nat} {p1 : Int} {p2 : Int} {w : World} {g : Nat → Nat} {out : (List Int) × (List Int) × Int} (N : Nat) (r0 : Nat) (r1 : Nat) (hp0_0 : RdS (kint .i64) w g C0 A0_0 cap0_0 p0.Rails.a0) (hp0_1 : RdS (kint .i64) w g C0 A0_1 cap0_1 p0.Rails.a1) (hp0_2 : RdS (kint .i64) w g C0 A0_2 cap0_2 p0.Rails.a2) (hp0_3 : RdS (kint .i64) w g C0 A0_3 cap0_3 p0.Rails.a3) (hC0 : ∀ c, C0 c → c < N) (hr0 : r0 + 2 ≤ N) (hr1 : r1 + 2 ≤ N) (ht1_0 : r1 + 2 ≤ r0 ∨ r0 + 2 ≤ r1) (H : device_Change.f p0 p1 p2 = some out) :
    Calls Try.prog 21 #[.agg #[.int .i64 p0.Parent, .slice A0_0 p0.Rails.a0.length cap0_0, .slice A0_1 p0.Rails.a1.length cap0_1, .slice A0_2 p0.Rails.a2.length cap0_2, .slice A0_3 p0.Rails.a3.length cap0_3, .int .i64 p0.Deepest.a0, .int .i64 p0.Deepest.a1, .int .i64 p0.Deepest.a2, .int .i64 p0.Deepest.a3, .int .i64 p0.Deepest.a4, .int .i64 p0.Deepest.a5, .int .i64 p0.WakeDevice, .int .i64 p0.WakeSystem], .int .i64 p1, .int .i64 p2] w (fun e w' => ∃ v, e = .returned v ∧ ∃ (g' : Nat → Nat) (A_r0 : Option Addr) (cap_r0 : Nat) (A_r1 : Option Addr) (cap_r1 : Nat), v = .tuple #[.slice A_r0 out.1.length cap_r0, .slice A_r1 out.2.1.length cap_r1, .int .i64 out.2.2] ∧ OwS (kint .i64) 3 w' g' r0 A_r0 cap_r0 out.1 ∧ OwS (kint .i64) 3 w' g' r1 A_r1 cap_r1 out.2.1 ∧ Fr (fun q => (r0 ≤ q ∧ q < r0 + 2) ∨ (r1 ≤ q ∧ q < r1 + 2) ∨ N ≤ q) w g w' g') := by
  unfold device_Change.f at H
  refine calls_enter Try.func21 rfl Try.ntmps21 rfl (fun a hS => ?_)
  replace hS : Sl 49 a [(0, .agg #[.int .i64 p0.Parent, .slice A0_0 p0.Rails.a0.length cap0_0, .slice A0_1 p0.Rails.a1.length cap0_1, .slice A0_2 p0.Rails.a2.length cap0_2, .slice A0_3 p0.Rails.a3.length cap0_3, .int .i64 p0.Deepest.a0, .int .i64 p0.Deepest.a1, .int .i64 p0.Deepest.a2, .int .i64 p0.Deepest.a3, .int .i64 p0.Deepest.a4, .int .i64 p0.Deepest.a5, .int .i64 p0.WakeDevice, .int .i64 p0.WakeSystem]), (1, .int .i64 p1), (2, .int .i64 p2)] := hS
  have hF : Fr (fun q => (r0 ≤ q ∧ q < r0 + 2) ∨ (r1 ≤ q ∧ q < r1 + 2) ∨ N ≤ q) w g w g := Fr.refl _ _ _
  refine c_region (fun K hK => ?_)
  refine st_eff hS rfl rfl rfl (e_box (cs := [.int .i64 p0.Parent, .slice A0_0 p0.Rails.a0.length cap0_0, .slice A0_1 p0.Rails.a1.length cap0_1, .slice A0_2 p0.Rails.a2.length cap0_2, .slice A0_3 p0.Rails.a3.length cap0_3, .int .i64 p0.Deepest.a0, .int .i64 p0.Deepest.a1, .int .i64 p0.Deepest.a2, .int .i64 p0.Deepest.a3, .int .i64 p0.Deepest.a4, .int .i64 p0.Deepest.a5, .int .i64 p0.WakeDevice, .int .i64 p0.WakeSystem]) (N + 0) g hS rfl rfl rfl) ?_
  rintro _ a4 w5 g5 ⟨⟨b1, rfl, h2⟩, F5⟩ hS4
  replace hp0_0 := RdS.fr hp0_0 F5 (by decide) (fun _ _ h => h)
  replace hp0_1 := RdS.fr hp0_1 F5 (by decide) (fun _ _ h => h)
  replace hp0_2 := RdS.fr hp0_2 F5 (by decide) (fun _ _ h => h)
  replace hp0_3 := RdS.fr hp0_3 F5 (by decide) (fun _ _ h => h)
  replace hF := hF.trans F5 (fun _ h => h.elim)
  refine st_val hS4 rfl rfl rfl (r_assign hS4 rfl rfl) fun a6 hS6 => st_val hS6 rfl rfl rfl (r_assign hS6 rfl rfl) fun a7 hS7 => st_val hS7 rfl rfl rfl (r_assign hS7 rfl rfl) fun a8 hS8 => wpList_nil (hK _ _ ?_)
  replace hS : Sl 49 _ [(1, .int .i64 p1), (2, .int .i64 p2), (3, .pointer (some ⟨b1, 0, none⟩))] := hS8.re ⟨rfl, rfl, rfl, trivial⟩
  clear hK K
  try clear hS4 hS6 hS7 hS8
  obtain ⟨a, ha⟩ : ∃ a', a' = a8 := ⟨_, rfl⟩
  rw [← ha] at hS ⊢; clear ha
  refine wp_seq ?_
  obtain ⟨r10, hr11, H⟩ := bind_el H
  obtain ⟨t23, ht24, H⟩ := bind_el H
  obtain ⟨t57, ht58, H⟩ := bind_el H
  obtain ⟨t102, ht103, H⟩ := bind_el H
  refine c_region (fun K hK => ?_)
  refine st_val hS rfl rfl rfl (r_move hS rfl rfl) fun a9 hS9 => ?_
  refine st_enter hS9 rfl rfl rfl (r_call hS9 rfl rfl (by kernel_rfl)) (device_isState.calls (p0 := p1) (g := g5) (N + 6)   hr11) ?_
  rintro _ a12 w13 ⟨g13, rfl, F13⟩ hS12
  replace h2 := h2.fr F13 (fun (hm : N + 6 ≤ N + 0) => by omega)
  replace hp0_0 := RdS.fr hp0_0 F13 (by decide) (fun q (hq : C0 q) (hm : N + 6 ≤ q) => by have := hC0 q hq; omega)
  replace hp0_1 := RdS.fr hp0_1 F13 (by decide) (fun q (hq : C0 q) (hm : N + 6 ≤ q) => by have := hC0 q hq; omega)
  replace hp0_2 := RdS.fr hp0_2 F13 (by decide) (fun q (hq : C0 q) (hm : N + 6 ≤ q) => by have := hC0 q hq; omega)
  replace hp0_3 := RdS.fr hp0_3 F13 (by decide) (fun q (hq : C0 q) (hm : N + 6 ≤ q) => by have := hC0 q hq; omega)
  replace hF := hF.trans F13 (fun c' (hm : N + 6 ≤ c') => by show (r0 ≤ c' ∧ c' < r0 + 2) ∨ (r1 ≤ c' ∧ c' < r1 + 2) ∨ N ≤ c'; omega)
  refine st_val hS12 rfl rfl rfl (r_not hS12 rfl rfl) fun a14 hS14 => st_val hS14 rfl rfl rfl (r_move hS14 rfl rfl) fun a15 hS15 => ?_
  refine g_joinR 4 (fun a w25 => ∃ (g25 : Nat → Nat), Sl 49 a [(1, .int .i64 p1), (2, .int .i64 p2), (3, .pointer (some ⟨b1, 0, none⟩)), (16, .bool t23)] ∧ Bx w25 g25 (N + 0) b1 33 [.int .i64 p0.Parent, .slice A0_0 p0.Rails.a0.length cap0_0, .slice A0_1 p0.Rails.a1.length cap0_1, .slice A0_2 p0.Rails.a2.length cap0_2, .slice A0_3 p0.Rails.a3.length cap0_3, .int .i64 p0.Deepest.a0, .int .i64 p0.Deepest.a1, .int .i64 p0.Deepest.a2, .int .i64 p0.Deepest.a3, .int .i64 p0.Deepest.a4, .int .i64 p0.Deepest.a5, .int .i64 p0.WakeDevice, .int .i64 p0.WakeSystem] ∧ RdS (kint .i64) w25 g25 C0 A0_0 cap0_0 p0.Rails.a0 ∧ RdS (kint .i64) w25 g25 C0 A0_1 cap0_1 p0.Rails.a1 ∧ RdS (kint .i64) w25 g25 C0 A0_2 cap0_2 p0.Rails.a2 ∧ RdS (kint .i64) w25 g25 C0 A0_3 cap0_3 p0.Rails.a3 ∧ Fr (fun q => (r0 ≤ q ∧ q < r0 + 2) ∨ (r1 ≤ q ∧ q < r1 + 2) ∨ N ≤ q) w g w25 g25) ?_ (fun hk => ?_)
  rotate_left
  · rcases Bool.eq_false_or_eq_true ((!r10)) with hb16 | hb16
    · have H := ite_t hb16 ht24
      have e26 := Option.some.inj H
      refine st_off hS15 (want_off hS15 rfl rfl rfl hb16) rfl rfl fun a27 hS27 => st_off hS27 (want_off hS27 rfl rfl rfl hb16) rfl rfl fun a28 hS28 => st_off hS28 (want_off hS28 rfl rfl rfl hb16) rfl rfl fun a29 hS29 => st_val hS29 rfl rfl rfl (r_pickT hS29 rfl rfl rfl hb16) fun a30 hS30 => hk _ _ ?_
      exact ⟨g13, hS30.re ⟨rfl, rfl, rfl, (by rw [← e26]; rfl), trivial⟩, h2, hp0_0, hp0_1, hp0_2, hp0_3, hF⟩
    · have H := ite_f hb16 ht24
      obtain ⟨r32, hr33, H⟩ := bind_el H
      have e37 := Option.some.inj H
      refine st_valW hS15 (want_on hS15 rfl rfl rfl hb16) rfl rfl (r_move hS15 rfl rfl) fun a31 hS31 => ?_
      refine st_enterW hS31 (want_on hS31 rfl rfl rfl hb16) rfl rfl (r_call hS31 rfl rfl (by kernel_rfl)) (device_isState.calls (p0 := p2) (g := g13) (N + 6)   hr33) ?_
      rintro _ a34 w35 ⟨g35, rfl, F35⟩ hS34
      replace h2 := h2.fr F35 (fun (hm : N + 6 ≤ N + 0) => by omega)
      replace hp0_0 := RdS.fr hp0_0 F35 (by decide) (fun q (hq : C0 q) (hm : N + 6 ≤ q) => by have := hC0 q hq; omega)
      replace hp0_1 := RdS.fr hp0_1 F35 (by decide) (fun q (hq : C0 q) (hm : N + 6 ≤ q) => by have := hC0 q hq; omega)
      replace hp0_2 := RdS.fr hp0_2 F35 (by decide) (fun q (hq : C0 q) (hm : N + 6 ≤ q) => by have := hC0 q hq; omega)
      replace hp0_3 := RdS.fr hp0_3 F35 (by decide) (fun q (hq : C0 q) (hm : N + 6 ≤ q) => by have := hC0 q hq; omega)
      replace hF := hF.trans F35 (fun c' (hm : N + 6 ≤ c') => by show (r0 ≤ c' ∧ c' < r0 + 2) ∨ (r1 ≤ c' ∧ c' < r1 + 2) ∨ N ≤ c'; omega)
      refine st_valW hS34 (want_on hS34 rfl rfl rfl hb16) rfl rfl (r_not hS34 rfl rfl) fun a36 hS36 => ?_
      refine st_val hS36 rfl rfl rfl (r_pickF hS36 rfl rfl rfl hb16) fun a38 hS38 => hk _ _ ?_
      exact ⟨g35, hS38.re ⟨rfl, rfl, rfl, (by rw [← e37]; rfl), trivial⟩, h2, hp0_0, hp0_1, hp0_2, hp0_3, hF⟩
  rintro a39 w25 ⟨g25, hS39, h2, hp0_0, hp0_1, hp0_2, hp0_3, hF⟩
  refine st_val hS39 rfl rfl rfl (r_move hS39 rfl rfl) fun a40 hS40 => ?_
  refine g_joinR 6 (fun a w59 => ∃ (g59 : Nat → Nat), Sl 49 a [(1, .int .i64 p1), (2, .int .i64 p2), (3, .pointer (some ⟨b1, 0, none⟩)), (23, .bool t57)] ∧ Bx w59 g59 (N + 0) b1 33 [.int .i64 p0.Parent, .slice A0_0 p0.Rails.a0.length cap0_0, .slice A0_1 p0.Rails.a1.length cap0_1, .slice A0_2 p0.Rails.a2.length cap0_2, .slice A0_3 p0.Rails.a3.length cap0_3, .int .i64 p0.Deepest.a0, .int .i64 p0.Deepest.a1, .int .i64 p0.Deepest.a2, .int .i64 p0.Deepest.a3, .int .i64 p0.Deepest.a4, .int .i64 p0.Deepest.a5, .int .i64 p0.WakeDevice, .int .i64 p0.WakeSystem] ∧ RdS (kint .i64) w59 g59 C0 A0_0 cap0_0 p0.Rails.a0 ∧ RdS (kint .i64) w59 g59 C0 A0_1 cap0_1 p0.Rails.a1 ∧ RdS (kint .i64) w59 g59 C0 A0_2 cap0_2 p0.Rails.a2 ∧ RdS (kint .i64) w59 g59 C0 A0_3 cap0_3 p0.Rails.a3 ∧ Fr (fun q => (r0 ≤ q ∧ q < r0 + 2) ∨ (r1 ≤ q ∧ q < r1 + 2) ∨ N ≤ q) w g w59 g59) ?_ (fun hk => ?_)
  rotate_left
  · rcases Bool.eq_false_or_eq_true (t23) with hb41 | hb41
    · have H := ite_t hb41 ht58
      have e60 := Option.some.inj H
      refine st_off hS40 (want_off hS40 rfl rfl rfl hb41) rfl rfl fun a61 hS61 => st_off hS61 (want_off hS61 rfl rfl rfl hb41) rfl rfl fun a62 hS62 => st_off hS62 (want_off hS62 rfl rfl rfl hb41) rfl rfl fun a63 hS63 => st_off hS63 (want_off hS63 rfl rfl rfl hb41) rfl rfl fun a64 hS64 => st_off hS64 (want_off hS64 rfl rfl rfl hb41) rfl rfl fun a65 hS65 => st_val hS65 rfl rfl rfl (r_pickT hS65 rfl rfl rfl hb41) fun a66 hS66 => hk _ _ ?_
      exact ⟨g25, hS66.re ⟨rfl, rfl, rfl, (by rw [← e60]; rfl), trivial⟩, h2, hp0_0, hp0_1, hp0_2, hp0_3, hF⟩
    · have H := ite_f hb41 ht58
      obtain ⟨r69, hr70, H⟩ := bind_el H
      obtain ⟨r77, hr78, H⟩ := bind_el H
      have e82 := Option.some.inj H
      refine st_valW hS40 (want_on hS40 rfl rfl rfl hb41) rfl rfl (r_loadN (n := 13) (cs := [.int .i64 p0.Parent, .slice A0_0 p0.Rails.a0.length cap0_0, .slice A0_1 p0.Rails.a1.length cap0_1, .slice A0_2 p0.Rails.a2.length cap0_2, .slice A0_3 p0.Rails.a3.length cap0_3, .int .i64 p0.Deepest.a0, .int .i64 p0.Deepest.a1, .int .i64 p0.Deepest.a2, .int .i64 p0.Deepest.a3, .int .i64 p0.Deepest.a4, .int .i64 p0.Deepest.a5, .int .i64 p0.WakeDevice, .int .i64 p0.WakeSystem]) hS40 rfl rfl (by kernel_rfl) rfl (Bx.cells_off h2 0 13)) fun a67 hS67 => st_valW hS67 (want_on hS67 rfl rfl rfl hb41) rfl rfl (r_move hS67 rfl rfl) fun a68 hS68 => ?_
      refine st_enterW hS68 (want_on hS68 rfl rfl rfl hb41) rfl rfl (r_call hS68 rfl rfl (by kernel_rfl)) (device_needs.calls (C0 := C0) (p0 := p0) (p1 := p1) (g := g25) (N + 6)  hp0_0 hp0_1 hp0_2 hp0_3 (fun q (hq : C0 q) => by have := hC0 q hq; omega) hr70) ?_
      rintro _ a75 w76 ⟨g76, A71, cap72, rfl, h73, F76⟩ hS75
      replace h2 := h2.fr F76 (fun (hm : N + 6 ≤ N + 0) => by omega)
      replace hp0_0 := RdS.fr hp0_0 F76 (by decide) (fun q (hq : C0 q) (hm : N + 6 ≤ q) => by have := hC0 q hq; omega)
      replace hp0_1 := RdS.fr hp0_1 F76 (by decide) (fun q (hq : C0 q) (hm : N + 6 ≤ q) => by have := hC0 q hq; omega)
      replace hp0_2 := RdS.fr hp0_2 F76 (by decide) (fun q (hq : C0 q) (hm : N + 6 ≤ q) => by have := hC0 q hq; omega)
      replace hp0_3 := RdS.fr hp0_3 F76 (by decide) (fun q (hq : C0 q) (hm : N + 6 ≤ q) => by have := hC0 q hq; omega)
      replace hF := hF.trans F76 (fun c' (hm : N + 6 ≤ c') => by show (r0 ≤ c' ∧ c' < r0 + 2) ∨ (r1 ≤ c' ∧ c' < r1 + 2) ∨ N ≤ c'; omega)
      refine st_enterW hS75 (want_on hS75 rfl rfl rfl hb41) rfl rfl (r_call hS75 rfl rfl (by kernel_rfl)) (device_ascending.calls (C0 := C0) (p0 := r69) (g := g76) (N + 6)  h73 (fun q (hq : C0 q) => by have := hC0 q hq; omega) hr78) ?_
      rintro _ a79 w80 ⟨g80, rfl, F80⟩ hS79
      replace h2 := h2.fr F80 (fun (hm : N + 6 ≤ N + 0) => by omega)
      replace h73 := RdS.fr h73 F80 (by decide) (fun q (hq : C0 q) (hm : N + 6 ≤ q) => by have := hC0 q hq; omega)
      replace hp0_0 := RdS.fr hp0_0 F80 (by decide) (fun q (hq : C0 q) (hm : N + 6 ≤ q) => by have := hC0 q hq; omega)
      replace hp0_1 := RdS.fr hp0_1 F80 (by decide) (fun q (hq : C0 q) (hm : N + 6 ≤ q) => by have := hC0 q hq; omega)
      replace hp0_2 := RdS.fr hp0_2 F80 (by decide) (fun q (hq : C0 q) (hm : N + 6 ≤ q) => by have := hC0 q hq; omega)
      replace hp0_3 := RdS.fr hp0_3 F80 (by decide) (fun q (hq : C0 q) (hm : N + 6 ≤ q) => by have := hC0 q hq; omega)
      replace hF := hF.trans F80 (fun c' (hm : N + 6 ≤ c') => by show (r0 ≤ c' ∧ c' < r0 + 2) ∨ (r1 ≤ c' ∧ c' < r1 + 2) ∨ N ≤ c'; omega)
      refine st_valW hS79 (want_on hS79 rfl rfl rfl hb41) rfl rfl (r_not hS79 rfl rfl) fun a81 hS81 => ?_
      refine st_val hS81 rfl rfl rfl (r_pickF hS81 rfl rfl rfl hb41) fun a83 hS83 => hk _ _ ?_
      exact ⟨g80, hS83.re ⟨rfl, rfl, rfl, (by rw [← e82]; rfl), trivial⟩, h2, hp0_0, hp0_1, hp0_2, hp0_3, hF⟩
  rintro a84 w59 ⟨g59, hS84, h2, hp0_0, hp0_1, hp0_2, hp0_3, hF⟩
  refine st_val hS84 rfl rfl rfl (r_move hS84 rfl rfl) fun a85 hS85 => ?_
  refine g_joinR 6 (fun a w104 => ∃ (g104 : Nat → Nat), Sl 49 a [(1, .int .i64 p1), (2, .int .i64 p2), (3, .pointer (some ⟨b1, 0, none⟩)), (30, .bool t102)] ∧ Bx w104 g104 (N + 0) b1 33 [.int .i64 p0.Parent, .slice A0_0 p0.Rails.a0.length cap0_0, .slice A0_1 p0.Rails.a1.length cap0_1, .slice A0_2 p0.Rails.a2.length cap0_2, .slice A0_3 p0.Rails.a3.length cap0_3, .int .i64 p0.Deepest.a0, .int .i64 p0.Deepest.a1, .int .i64 p0.Deepest.a2, .int .i64 p0.Deepest.a3, .int .i64 p0.Deepest.a4, .int .i64 p0.Deepest.a5, .int .i64 p0.WakeDevice, .int .i64 p0.WakeSystem] ∧ RdS (kint .i64) w104 g104 C0 A0_0 cap0_0 p0.Rails.a0 ∧ RdS (kint .i64) w104 g104 C0 A0_1 cap0_1 p0.Rails.a1 ∧ RdS (kint .i64) w104 g104 C0 A0_2 cap0_2 p0.Rails.a2 ∧ RdS (kint .i64) w104 g104 C0 A0_3 cap0_3 p0.Rails.a3 ∧ Fr (fun q => (r0 ≤ q ∧ q < r0 + 2) ∨ (r1 ≤ q ∧ q < r1 + 2) ∨ N ≤ q) w g w104 g104) ?_ (fun hk => ?_)
  rotate_left
  · rcases Bool.eq_false_or_eq_true (t57) with hb86 | hb86
    · have H := ite_t hb86 ht103
      have e105 := Option.some.inj H
      refine st_off hS85 (want_off hS85 rfl rfl rfl hb86) rfl rfl fun a106 hS106 => st_off hS106 (want_off hS106 rfl rfl rfl hb86) rfl rfl fun a107 hS107 => st_off hS107 (want_off hS107 rfl rfl rfl hb86) rfl rfl fun a108 hS108 => st_off hS108 (want_off hS108 rfl rfl rfl hb86) rfl rfl fun a109 hS109 => st_off hS109 (want_off hS109 rfl rfl rfl hb86) rfl rfl fun a110 hS110 => st_val hS110 rfl rfl rfl (r_pickT hS110 rfl rfl rfl hb86) fun a111 hS111 => hk _ _ ?_
      exact ⟨g59, hS111.re ⟨rfl, rfl, rfl, (by rw [← e105]; rfl), trivial⟩, h2, hp0_0, hp0_1, hp0_2, hp0_3, hF⟩
    · have H := ite_f hb86 ht103
      obtain ⟨r114, hr115, H⟩ := bind_el H
      obtain ⟨r122, hr123, H⟩ := bind_el H
      have e127 := Option.some.inj H
      refine st_valW hS85 (want_on hS85 rfl rfl rfl hb86) rfl rfl (r_loadN (n := 13) (cs := [.int .i64 p0.Parent, .slice A0_0 p0.Rails.a0.length cap0_0, .slice A0_1 p0.Rails.a1.length cap0_1, .slice A0_2 p0.Rails.a2.length cap0_2, .slice A0_3 p0.Rails.a3.length cap0_3, .int .i64 p0.Deepest.a0, .int .i64 p0.Deepest.a1, .int .i64 p0.Deepest.a2, .int .i64 p0.Deepest.a3, .int .i64 p0.Deepest.a4, .int .i64 p0.Deepest.a5, .int .i64 p0.WakeDevice, .int .i64 p0.WakeSystem]) hS85 rfl rfl (by kernel_rfl) rfl (Bx.cells_off h2 0 13)) fun a112 hS112 => st_valW hS112 (want_on hS112 rfl rfl rfl hb86) rfl rfl (r_move hS112 rfl rfl) fun a113 hS113 => ?_
      refine st_enterW hS113 (want_on hS113 rfl rfl rfl hb86) rfl rfl (r_call hS113 rfl rfl (by kernel_rfl)) (device_needs.calls (C0 := C0) (p0 := p0) (p1 := p2) (g := g59) (N + 6)  hp0_0 hp0_1 hp0_2 hp0_3 (fun q (hq : C0 q) => by have := hC0 q hq; omega) hr115) ?_
      rintro _ a120 w121 ⟨g121, A116, cap117, rfl, h118, F121⟩ hS120
      replace h2 := h2.fr F121 (fun (hm : N + 6 ≤ N + 0) => by omega)
      replace hp0_0 := RdS.fr hp0_0 F121 (by decide) (fun q (hq : C0 q) (hm : N + 6 ≤ q) => by have := hC0 q hq; omega)
      replace hp0_1 := RdS.fr hp0_1 F121 (by decide) (fun q (hq : C0 q) (hm : N + 6 ≤ q) => by have := hC0 q hq; omega)
      replace hp0_2 := RdS.fr hp0_2 F121 (by decide) (fun q (hq : C0 q) (hm : N + 6 ≤ q) => by have := hC0 q hq; omega)
      replace hp0_3 := RdS.fr hp0_3 F121 (by decide) (fun q (hq : C0 q) (hm : N + 6 ≤ q) => by have := hC0 q hq; omega)
      replace hF := hF.trans F121 (fun c' (hm : N + 6 ≤ c') => by show (r0 ≤ c' ∧ c' < r0 + 2) ∨ (r1 ≤ c' ∧ c' < r1 + 2) ∨ N ≤ c'; omega)
      refine st_enterW hS120 (want_on hS120 rfl rfl rfl hb86) rfl rfl (r_call hS120 rfl rfl (by kernel_rfl)) (device_ascending.calls (C0 := C0) (p0 := r114) (g := g121) (N + 6)  h118 (fun q (hq : C0 q) => by have := hC0 q hq; omega) hr123) ?_
      rintro _ a124 w125 ⟨g125, rfl, F125⟩ hS124
      replace h118 := RdS.fr h118 F125 (by decide) (fun q (hq : C0 q) (hm : N + 6 ≤ q) => by have := hC0 q hq; omega)
      replace h2 := h2.fr F125 (fun (hm : N + 6 ≤ N + 0) => by omega)
      replace hp0_0 := RdS.fr hp0_0 F125 (by decide) (fun q (hq : C0 q) (hm : N + 6 ≤ q) => by have := hC0 q hq; omega)
      replace hp0_1 := RdS.fr hp0_1 F125 (by decide) (fun q (hq : C0 q) (hm : N + 6 ≤ q) => by have := hC0 q hq; omega)
      replace hp0_2 := RdS.fr hp0_2 F125 (by decide) (fun q (hq : C0 q) (hm : N + 6 ≤ q) => by have := hC0 q hq; omega)
      replace hp0_3 := RdS.fr hp0_3 F125 (by decide) (fun q (hq : C0 q) (hm : N + 6 ≤ q) => by have := hC0 q hq; omega)
      replace hF := hF.trans F125 (fun c' (hm : N + 6 ≤ c') => by show (r0 ≤ c' ∧ c' < r0 + 2) ∨ (r1 ≤ c' ∧ c' < r1 + 2) ∨ N ≤ c'; omega)
      refine st_valW hS124 (want_on hS124 rfl rfl rfl hb86) rfl rfl (r_not hS124 rfl rfl) fun a126 hS126 => ?_
      refine st_val hS126 rfl rfl rfl (r_pickF hS126 rfl rfl rfl hb86) fun a128 hS128 => hk _ _ ?_
      exact ⟨g125, hS128.re ⟨rfl, rfl, rfl, (by rw [← e127]; rfl), trivial⟩, h2, hp0_0, hp0_1, hp0_2, hp0_3, hF⟩
  rintro a129 w104 ⟨g104, hS129, h2, hp0_0, hp0_1, hp0_2, hp0_3, hF⟩
  refine wpList_nil (hK _ _ ?_)
  replace hS : Sl 49 _ [(1, .int .i64 p1), (2, .int .i64 p2), (3, .pointer (some ⟨b1, 0, none⟩)), (30, .bool t102)] := hS129.re ⟨rfl, rfl, rfl, rfl, trivial⟩
  clear hK K
  try clear hS9 hS12 hS14 hS15 hS39 hS40 hS84 hS85 hS129
  obtain ⟨a, ha⟩ : ∃ a', a' = a129 := ⟨_, rfl⟩
  rw [← ha] at hS ⊢; clear ha
  refine c_cond hS rfl (fun hb130 => ?_) (fun hb130 => ?_)
  · replace H := ite_t hb130 H
    refine c_pure [(6, .slice none 0 0), (7, .slice none 0 0), (8, .int .i64 1)] (fun R hR => st_val hS rfl rfl rfl (r_assign hS rfl rfl) fun a131 hS131 => st_val hS131 rfl rfl rfl (r_assign hS131 rfl rfl) fun a132 hS132 => st_val hS132 rfl rfl rfl (r_assign hS132 rfl rfl) fun a133 hS133 => wpList_nil (hR _ (hS133.re ⟨rfl, rfl, rfl, trivial⟩))) ?_
    clear hS
    clear a
    intro a hS
    refine wp_ret ?_
    have e := Option.some.inj H
    subst e
    repeat (with_reducible first | refine then_ret ?_ | refine inBlock_ret ?_)
    exact c_ret3 hS Try.results21 rfl rfl rfl ⟨_, rfl, g104, none, 0, none, 0, rfl, OwS.nil (kint .i64) 3 w104 g104 r0, OwS.nil (kint .i64) 3 w104 g104 r1, hF⟩
  · replace H := ite_f hb130 H
    refine wp_skip ?_
    change Code.wp _ _ _ _ _
    obtain ⟨r134, hr135, H⟩ := bind_el H
    obtain ⟨r140, hr141, H⟩ := bind_el H
    obtain ⟨r146, hr147, H⟩ := bind_el H
    refine c_draw (fun K hK => d_start (fun q => N + 6 ≤ q ∨ (N + 2 ≤ q ∧ q < N + 2 + 2)) g104 [] 8 #[false, false, false, false, false, false, false, false] (by kernel_rfl) rfl rfl (fun w152 hw152 => ?_))
    have F152 : Fr (fun _ => False) w104 g104 w152 g104 := by rw [hw152]; exact Fr.drew _ _ _
    replace h2 := h2.fr F152 (fun h => h)
    replace hp0_0 := RdS.fr hp0_0 F152 (by decide) (fun _ _ h => h)
    replace hp0_1 := RdS.fr hp0_1 F152 (by decide) (fun _ _ h => h)
    replace hp0_2 := RdS.fr hp0_2 F152 (by decide) (fun _ _ h => h)
    replace hp0_3 := RdS.fr hp0_3 F152 (by decide) (fun _ _ h => h)
    replace hF := hF.trans F152 (fun _ h => h.elim)
    have hC : Fr (fun q => N + 6 ≤ q ∨ (N + 2 ≤ q ∧ q < N + 2 + 2)) w152 g104 w152 g104 := Fr.refl _ _ _
    refine d_take hS 0 #[true, false, false, false, false, false, false, false] rfl rfl rfl rfl (by kernel_rfl) (fun _ _ _ h => h) ⟨_, hC⟩ (fun w' g' Fz => (r_loadN (n := 13) (cs := [.int .i64 p0.Parent, .slice A0_0 p0.Rails.a0.length cap0_0, .slice A0_1 p0.Rails.a1.length cap0_1, .slice A0_2 p0.Rails.a2.length cap0_2, .slice A0_3 p0.Rails.a3.length cap0_3, .int .i64 p0.Deepest.a0, .int .i64 p0.Deepest.a1, .int .i64 p0.Deepest.a2, .int .i64 p0.Deepest.a3, .int .i64 p0.Deepest.a4, .int .i64 p0.Deepest.a5, .int .i64 p0.WakeDevice, .int .i64 p0.WakeSystem]) hS rfl rfl (by kernel_rfl) rfl (Bx.cells_off (h2.fr Fz (fun (hm : N + 6 ≤ N + 0 ∨ (N + 2 ≤ N + 0 ∧ N + 0 < N + 2 + 2)) => by omega)) 0 13))) fun a153 hS153 => d_pure hS153 1 #[true, true, false, false, false, false, false, false] rfl rfl rfl rfl (by kernel_rfl) (fun _ _ _ h => h) (fun _ => (r_move hS153 rfl rfl)) fun a154 hS154 => d_take hS154 3 #[true, true, false, true, false, false, false, false] rfl rfl rfl rfl (by kernel_rfl) (fun _ _ _ h => h) ⟨_, hC⟩ (fun w' g' Fz => (r_loadN (n := 13) (cs := [.int .i64 p0.Parent, .slice A0_0 p0.Rails.a0.length cap0_0, .slice A0_1 p0.Rails.a1.length cap0_1, .slice A0_2 p0.Rails.a2.length cap0_2, .slice A0_3 p0.Rails.a3.length cap0_3, .int .i64 p0.Deepest.a0, .int .i64 p0.Deepest.a1, .int .i64 p0.Deepest.a2, .int .i64 p0.Deepest.a3, .int .i64 p0.Deepest.a4, .int .i64 p0.Deepest.a5, .int .i64 p0.WakeDevice, .int .i64 p0.WakeSystem]) hS154 rfl rfl (by kernel_rfl) rfl (Bx.cells_off (h2.fr Fz (fun (hm : N + 6 ≤ N + 0 ∨ (N + 2 ≤ N + 0 ∧ N + 0 < N + 2 + 2)) => by omega)) 0 13))) fun a155 hS155 => d_pure hS155 4 #[true, true, false, true, true, false, false, false] rfl rfl rfl rfl (by kernel_rfl) (fun _ _ _ h => h) (fun _ => (r_move hS155 rfl rfl)) fun a156 hS156 => ?_
    refine d_one 2 #[true, true, true, true, true, false, false, false] rfl (by kernel_rfl) (arm_call hS156 rfl rfl rfl (r_call hS156 rfl rfl (by kernel_rfl)) (device_needs.calls (C0 := C0) (p0 := p0) (p1 := p2) (g := g104) (N + 6)  hp0_0 hp0_1 hp0_2 hp0_3 (fun q (hq : C0 q) => by have := hC0 q hq; omega) hr135) (fun _ _ ⟨g', _, _, _, _, Fz⟩ _ => ⟨g', hC.trans Fz (fun c' (hm : N + 6 ≤ c') => by show N + 6 ≤ c' ∨ (N + 2 ≤ c' ∧ c' < N + 2 + 2); omega)⟩) ?_)
    rintro _ a161 w162 ⟨g162, A157, cap158, rfl, h159, F162⟩ hS161
    have hC162 := hC.trans F162 (fun c' (hm : N + 6 ≤ c') => by show N + 6 ≤ c' ∨ (N + 2 ≤ c' ∧ c' < N + 2 + 2); omega)
    replace h2 := h2.fr F162 (fun (hm : N + 6 ≤ N + 0) => by omega)
    replace hp0_0 := RdS.fr hp0_0 F162 (by decide) (fun q (hq : C0 q) (hm : N + 6 ≤ q) => by have := hC0 q hq; omega)
    replace hp0_1 := RdS.fr hp0_1 F162 (by decide) (fun q (hq : C0 q) (hm : N + 6 ≤ q) => by have := hC0 q hq; omega)
    replace hp0_2 := RdS.fr hp0_2 F162 (by decide) (fun q (hq : C0 q) (hm : N + 6 ≤ q) => by have := hC0 q hq; omega)
    replace hp0_3 := RdS.fr hp0_3 F162 (by decide) (fun q (hq : C0 q) (hm : N + 6 ≤ q) => by have := hC0 q hq; omega)
    replace hF := hF.trans F162 (fun c' (hm : N + 6 ≤ c') => by show (r0 ≤ c' ∧ c' < r0 + 2) ∨ (r1 ≤ c' ∧ c' < r1 + 2) ∨ N ≤ c'; omega)
    refine d_one 5 #[true, true, true, true, true, true, false, false] rfl (by kernel_rfl) (arm_call hS161 rfl rfl rfl (r_call hS161 rfl rfl (by kernel_rfl)) (device_needs.calls (C0 := C0) (p0 := p0) (p1 := p1) (g := g162) (N + 6)  hp0_0 hp0_1 hp0_2 hp0_3 (fun q (hq : C0 q) => by have := hC0 q hq; omega) hr141) (fun _ _ ⟨g', _, _, _, _, Fz⟩ _ => ⟨g', hC162.trans Fz (fun c' (hm : N + 6 ≤ c') => by show N + 6 ≤ c' ∨ (N + 2 ≤ c' ∧ c' < N + 2 + 2); omega)⟩) ?_)
    rintro _ a167 w168 ⟨g168, A163, cap164, rfl, h165, F168⟩ hS167
    have hC168 := hC162.trans F168 (fun c' (hm : N + 6 ≤ c') => by show N + 6 ≤ c' ∨ (N + 2 ≤ c' ∧ c' < N + 2 + 2); omega)
    replace h159 := RdS.fr h159 F168 (by decide) (fun q (hq : C0 q) (hm : N + 6 ≤ q) => by have := hC0 q hq; omega)
    replace h2 := h2.fr F168 (fun (hm : N + 6 ≤ N + 0) => by omega)
    replace hp0_0 := RdS.fr hp0_0 F168 (by decide) (fun q (hq : C0 q) (hm : N + 6 ≤ q) => by have := hC0 q hq; omega)
    replace hp0_1 := RdS.fr hp0_1 F168 (by decide) (fun q (hq : C0 q) (hm : N + 6 ≤ q) => by have := hC0 q hq; omega)
    replace hp0_2 := RdS.fr hp0_2 F168 (by decide) (fun q (hq : C0 q) (hm : N + 6 ≤ q) => by have := hC0 q hq; omega)
    replace hp0_3 := RdS.fr hp0_3 F168 (by decide) (fun q (hq : C0 q) (hm : N + 6 ≤ q) => by have := hC0 q hq; omega)
    replace hF := hF.trans F168 (fun c' (hm : N + 6 ≤ c') => by show (r0 ≤ c' ∧ c' < r0 + 2) ∨ (r1 ≤ c' ∧ c' < r1 + 2) ∨ N ≤ c'; omega)
    refine d_one 6 #[true, true, true, true, true, true, true, false] rfl (by kernel_rfl) (arm_call hS167 rfl rfl rfl (r_call hS167 rfl rfl (by kernel_rfl)) (device_without.calls (C0 := C0) (C1 := C0) (p0 := r134) (p1 := r140) (g := g168) (N + 6) (N + 2) h159 (fun q (hq : C0 q) => by have := hC0 q hq; omega) h165 (fun q (hq : C0 q) => by have := hC0 q hq; omega) (by omega) hr147) (fun _ _ ⟨g', _, _, _, _, Fz⟩ _ => ⟨g', hC168.trans Fz (fun c' (hm : (N + 2 ≤ c' ∧ c' < N + 2 + 2) ∨ N + 6 ≤ c') => by show N + 6 ≤ c' ∨ (N + 2 ≤ c' ∧ c' < N + 2 + 2); omega)⟩) ?_)
    rintro _ a173 w174 ⟨g174, A169, cap170, rfl, h171, F174⟩ hS173
    have hC174 := hC168.trans F174 (fun c' (hm : (N + 2 ≤ c' ∧ c' < N + 2 + 2) ∨ N + 6 ≤ c') => by show N + 6 ≤ c' ∨ (N + 2 ≤ c' ∧ c' < N + 2 + 2); omega)
    replace h159 := RdS.fr h159 F174 (by decide) (fun q (hq : C0 q) (hm : (N + 2 ≤ q ∧ q < N + 2 + 2) ∨ N + 6 ≤ q) => by have := hC0 q hq; omega)
    replace h165 := RdS.fr h165 F174 (by decide) (fun q (hq : C0 q) (hm : (N + 2 ≤ q ∧ q < N + 2 + 2) ∨ N + 6 ≤ q) => by have := hC0 q hq; omega)
    replace h2 := h2.fr F174 (fun (hm : (N + 2 ≤ N + 0 ∧ N + 0 < N + 2 + 2) ∨ N + 6 ≤ N + 0) => by omega)
    replace hp0_0 := RdS.fr hp0_0 F174 (by decide) (fun q (hq : C0 q) (hm : (N + 2 ≤ q ∧ q < N + 2 + 2) ∨ N + 6 ≤ q) => by have := hC0 q hq; omega)
    replace hp0_1 := RdS.fr hp0_1 F174 (by decide) (fun q (hq : C0 q) (hm : (N + 2 ≤ q ∧ q < N + 2 + 2) ∨ N + 6 ≤ q) => by have := hC0 q hq; omega)
    replace hp0_2 := RdS.fr hp0_2 F174 (by decide) (fun q (hq : C0 q) (hm : (N + 2 ≤ q ∧ q < N + 2 + 2) ∨ N + 6 ≤ q) => by have := hC0 q hq; omega)
    replace hp0_3 := RdS.fr hp0_3 F174 (by decide) (fun q (hq : C0 q) (hm : (N + 2 ≤ q ∧ q < N + 2 + 2) ∨ N + 6 ≤ q) => by have := hC0 q hq; omega)
    replace hF := hF.trans F174 (fun c' (hm : (N + 2 ≤ c' ∧ c' < N + 2 + 2) ∨ N + 6 ≤ c') => by show (r0 ≤ c' ∧ c' < r0 + 2) ∨ (r1 ≤ c' ∧ c' < r1 + 2) ∨ N ≤ c'; omega)
    refine d_pure hS173 7 #[true, true, true, true, true, true, true, true] rfl rfl rfl rfl (by kernel_rfl) (fun _ _ _ h => h) (fun _ => (r_assign hS173 rfl rfl)) fun a175 hS175 => d_done (by kernel_rfl) (hK _ _ ?_)
    replace hS : Sl 49 _ [(1, .int .i64 p1), (2, .int .i64 p2), (3, .pointer (some ⟨b1, 0, none⟩)), (6, .slice A169 r146.length cap170)] := hS175.re ⟨rfl, rfl, rfl, rfl, trivial⟩
    clear hK K hC
    try clear hS153 hS154 hS155 hS156 hS161 hS167 hS173 hS175
    obtain ⟨a, ha⟩ : ∃ a', a' = a175 := ⟨_, rfl⟩
    rw [← ha] at hS ⊢; clear ha
    obtain ⟨r176, hr177, H⟩ := bind_el H
    obtain ⟨r182, hr183, H⟩ := bind_el H
    obtain ⟨r188, hr189, H⟩ := bind_el H
    refine c_draw (fun K hK => d_start (fun q => N + 6 ≤ q ∨ (N + 4 ≤ q ∧ q < N + 4 + 2)) g174 [] 8 #[false, false, false, false, false, false, false, false] (by kernel_rfl) rfl rfl (fun w194 hw194 => ?_))
    have F194 : Fr (fun _ => False) w174 g174 w194 g174 := by rw [hw194]; exact Fr.drew _ _ _
    replace h171 := OwS.fr h171 F194 (fun _ _ h => h)
    replace h2 := h2.fr F194 (fun h => h)
    replace hp0_0 := RdS.fr hp0_0 F194 (by decide) (fun _ _ h => h)
    replace hp0_1 := RdS.fr hp0_1 F194 (by decide) (fun _ _ h => h)
    replace hp0_2 := RdS.fr hp0_2 F194 (by decide) (fun _ _ h => h)
    replace hp0_3 := RdS.fr hp0_3 F194 (by decide) (fun _ _ h => h)
    replace hF := hF.trans F194 (fun _ h => h.elim)
    have hC : Fr (fun q => N + 6 ≤ q ∨ (N + 4 ≤ q ∧ q < N + 4 + 2)) w194 g174 w194 g174 := Fr.refl _ _ _
    refine d_take hS 0 #[true, false, false, false, false, false, false, false] rfl rfl rfl rfl (by kernel_rfl) (fun _ _ _ h => h) ⟨_, hC⟩ (fun w' g' Fz => (r_loadN (n := 13) (cs := [.int .i64 p0.Parent, .slice A0_0 p0.Rails.a0.length cap0_0, .slice A0_1 p0.Rails.a1.length cap0_1, .slice A0_2 p0.Rails.a2.length cap0_2, .slice A0_3 p0.Rails.a3.length cap0_3, .int .i64 p0.Deepest.a0, .int .i64 p0.Deepest.a1, .int .i64 p0.Deepest.a2, .int .i64 p0.Deepest.a3, .int .i64 p0.Deepest.a4, .int .i64 p0.Deepest.a5, .int .i64 p0.WakeDevice, .int .i64 p0.WakeSystem]) hS rfl rfl (by kernel_rfl) rfl (Bx.cells_off (h2.fr Fz (fun (hm : N + 6 ≤ N + 0 ∨ (N + 4 ≤ N + 0 ∧ N + 0 < N + 4 + 2)) => by omega)) 0 13))) fun a195 hS195 => d_pure hS195 1 #[true, true, false, false, false, false, false, false] rfl rfl rfl rfl (by kernel_rfl) (fun _ _ _ h => h) (fun _ => (r_move hS195 rfl rfl)) fun a196 hS196 => d_take hS196 3 #[true, true, false, true, false, false, false, false] rfl rfl rfl rfl (by kernel_rfl) (fun _ _ _ h => h) ⟨_, hC⟩ (fun w' g' Fz => (r_loadN (n := 13) (cs := [.int .i64 p0.Parent, .slice A0_0 p0.Rails.a0.length cap0_0, .slice A0_1 p0.Rails.a1.length cap0_1, .slice A0_2 p0.Rails.a2.length cap0_2, .slice A0_3 p0.Rails.a3.length cap0_3, .int .i64 p0.Deepest.a0, .int .i64 p0.Deepest.a1, .int .i64 p0.Deepest.a2, .int .i64 p0.Deepest.a3, .int .i64 p0.Deepest.a4, .int .i64 p0.Deepest.a5, .int .i64 p0.WakeDevice, .int .i64 p0.WakeSystem]) hS196 rfl rfl (by kernel_rfl) rfl (Bx.cells_off (h2.fr Fz (fun (hm : N + 6 ≤ N + 0 ∨ (N + 4 ≤ N + 0 ∧ N + 0 < N + 4 + 2)) => by omega)) 0 13))) fun a197 hS197 => d_pure hS197 4 #[true, true, false, true, true, false, false, false] rfl rfl rfl rfl (by kernel_rfl) (fun _ _ _ h => h) (fun _ => (r_move hS197 rfl rfl)) fun a198 hS198 => ?_
    refine d_one 2 #[true, true, true, true, true, false, false, false] rfl (by kernel_rfl) (arm_call hS198 rfl rfl rfl (r_call hS198 rfl rfl (by kernel_rfl)) (device_needs.calls (C0 := C0) (p0 := p0) (p1 := p1) (g := g174) (N + 6)  hp0_0 hp0_1 hp0_2 hp0_3 (fun q (hq : C0 q) => by have := hC0 q hq; omega) hr177) (fun _ _ ⟨g', _, _, _, _, Fz⟩ _ => ⟨g', hC.trans Fz (fun c' (hm : N + 6 ≤ c') => by show N + 6 ≤ c' ∨ (N + 4 ≤ c' ∧ c' < N + 4 + 2); omega)⟩) ?_)
    rintro _ a203 w204 ⟨g204, A199, cap200, rfl, h201, F204⟩ hS203
    have hC204 := hC.trans F204 (fun c' (hm : N + 6 ≤ c') => by show N + 6 ≤ c' ∨ (N + 4 ≤ c' ∧ c' < N + 4 + 2); omega)
    replace h171 := OwS.fr h171 F204 (fun c' hc (hm : N + 6 ≤ c') => by omega)
    replace h2 := h2.fr F204 (fun (hm : N + 6 ≤ N + 0) => by omega)
    replace hp0_0 := RdS.fr hp0_0 F204 (by decide) (fun q (hq : C0 q) (hm : N + 6 ≤ q) => by have := hC0 q hq; omega)
    replace hp0_1 := RdS.fr hp0_1 F204 (by decide) (fun q (hq : C0 q) (hm : N + 6 ≤ q) => by have := hC0 q hq; omega)
    replace hp0_2 := RdS.fr hp0_2 F204 (by decide) (fun q (hq : C0 q) (hm : N + 6 ≤ q) => by have := hC0 q hq; omega)
    replace hp0_3 := RdS.fr hp0_3 F204 (by decide) (fun q (hq : C0 q) (hm : N + 6 ≤ q) => by have := hC0 q hq; omega)
    replace hF := hF.trans F204 (fun c' (hm : N + 6 ≤ c') => by show (r0 ≤ c' ∧ c' < r0 + 2) ∨ (r1 ≤ c' ∧ c' < r1 + 2) ∨ N ≤ c'; omega)
    refine d_one 5 #[true, true, true, true, true, true, false, false] rfl (by kernel_rfl) (arm_call hS203 rfl rfl rfl (r_call hS203 rfl rfl (by kernel_rfl)) (device_needs.calls (C0 := C0) (p0 := p0) (p1 := p2) (g := g204) (N + 6)  hp0_0 hp0_1 hp0_2 hp0_3 (fun q (hq : C0 q) => by have := hC0 q hq; omega) hr183) (fun _ _ ⟨g', _, _, _, _, Fz⟩ _ => ⟨g', hC204.trans Fz (fun c' (hm : N + 6 ≤ c') => by show N + 6 ≤ c' ∨ (N + 4 ≤ c' ∧ c' < N + 4 + 2); omega)⟩) ?_)
    rintro _ a209 w210 ⟨g210, A205, cap206, rfl, h207, F210⟩ hS209
    have hC210 := hC204.trans F210 (fun c' (hm : N + 6 ≤ c') => by show N + 6 ≤ c' ∨ (N + 4 ≤ c' ∧ c' < N + 4 + 2); omega)
    replace h171 := OwS.fr h171 F210 (fun c' hc (hm : N + 6 ≤ c') => by omega)
    replace h201 := RdS.fr h201 F210 (by decide) (fun q (hq : C0 q) (hm : N + 6 ≤ q) => by have := hC0 q hq; omega)
    replace h2 := h2.fr F210 (fun (hm : N + 6 ≤ N + 0) => by omega)
    replace hp0_0 := RdS.fr hp0_0 F210 (by decide) (fun q (hq : C0 q) (hm : N + 6 ≤ q) => by have := hC0 q hq; omega)
    replace hp0_1 := RdS.fr hp0_1 F210 (by decide) (fun q (hq : C0 q) (hm : N + 6 ≤ q) => by have := hC0 q hq; omega)
    replace hp0_2 := RdS.fr hp0_2 F210 (by decide) (fun q (hq : C0 q) (hm : N + 6 ≤ q) => by have := hC0 q hq; omega)
    replace hp0_3 := RdS.fr hp0_3 F210 (by decide) (fun q (hq : C0 q) (hm : N + 6 ≤ q) => by have := hC0 q hq; omega)
    replace hF := hF.trans F210 (fun c' (hm : N + 6 ≤ c') => by show (r0 ≤ c' ∧ c' < r0 + 2) ∨ (r1 ≤ c' ∧ c' < r1 + 2) ∨ N ≤ c'; omega)
    refine d_one 6 #[true, true, true, true, true, true, true, false] rfl (by kernel_rfl) (arm_call hS209 rfl rfl rfl (r_call hS209 rfl rfl (by kernel_rfl)) (device_without.calls (C0 := C0) (C1 := C0) (p0 := r176) (p1 := r182) (g := g210) (N + 6) (N + 4) h201 (fun q (hq : C0 q) => by have := hC0 q hq; omega) h207 (fun q (hq : C0 q) => by have := hC0 q hq; omega) (by omega) hr189) (fun _ _ ⟨g', _, _, _, _, Fz⟩ _ => ⟨g', hC210.trans Fz (fun c' (hm : (N + 4 ≤ c' ∧ c' < N + 4 + 2) ∨ N + 6 ≤ c') => by show N + 6 ≤ c' ∨ (N + 4 ≤ c' ∧ c' < N + 4 + 2); omega)⟩) ?_)
    rintro _ a215 w216 ⟨g216, A211, cap212, rfl, h213, F216⟩ hS215
    have hC216 := hC210.trans F216 (fun c' (hm : (N + 4 ≤ c' ∧ c' < N + 4 + 2) ∨ N + 6 ≤ c') => by show N + 6 ≤ c' ∨ (N + 4 ≤ c' ∧ c' < N + 4 + 2); omega)
    replace h171 := OwS.fr h171 F216 (fun c' hc (hm : (N + 4 ≤ c' ∧ c' < N + 4 + 2) ∨ N + 6 ≤ c') => by omega)
    replace h201 := RdS.fr h201 F216 (by decide) (fun q (hq : C0 q) (hm : (N + 4 ≤ q ∧ q < N + 4 + 2) ∨ N + 6 ≤ q) => by have := hC0 q hq; omega)
    replace h207 := RdS.fr h207 F216 (by decide) (fun q (hq : C0 q) (hm : (N + 4 ≤ q ∧ q < N + 4 + 2) ∨ N + 6 ≤ q) => by have := hC0 q hq; omega)
    replace h2 := h2.fr F216 (fun (hm : (N + 4 ≤ N + 0 ∧ N + 0 < N + 4 + 2) ∨ N + 6 ≤ N + 0) => by omega)
    replace hp0_0 := RdS.fr hp0_0 F216 (by decide) (fun q (hq : C0 q) (hm : (N + 4 ≤ q ∧ q < N + 4 + 2) ∨ N + 6 ≤ q) => by have := hC0 q hq; omega)
    replace hp0_1 := RdS.fr hp0_1 F216 (by decide) (fun q (hq : C0 q) (hm : (N + 4 ≤ q ∧ q < N + 4 + 2) ∨ N + 6 ≤ q) => by have := hC0 q hq; omega)
    replace hp0_2 := RdS.fr hp0_2 F216 (by decide) (fun q (hq : C0 q) (hm : (N + 4 ≤ q ∧ q < N + 4 + 2) ∨ N + 6 ≤ q) => by have := hC0 q hq; omega)
    replace hp0_3 := RdS.fr hp0_3 F216 (by decide) (fun q (hq : C0 q) (hm : (N + 4 ≤ q ∧ q < N + 4 + 2) ∨ N + 6 ≤ q) => by have := hC0 q hq; omega)
    replace hF := hF.trans F216 (fun c' (hm : (N + 4 ≤ c' ∧ c' < N + 4 + 2) ∨ N + 6 ≤ c') => by show (r0 ≤ c' ∧ c' < r0 + 2) ∨ (r1 ≤ c' ∧ c' < r1 + 2) ∨ N ≤ c'; omega)
    refine d_pure hS215 7 #[true, true, true, true, true, true, true, true] rfl rfl rfl rfl (by kernel_rfl) (fun _ _ _ h => h) (fun _ => (r_assign hS215 rfl rfl)) fun a217 hS217 => d_done (by kernel_rfl) (hK _ _ ?_)
    replace hS : Sl 49 _ [(6, .slice A169 r146.length cap170), (7, .slice A211 r188.length cap212)] := hS217.re ⟨rfl, rfl, trivial⟩
    clear hK K hC
    try clear hS195 hS196 hS197 hS198 hS203 hS209 hS215 hS217
    obtain ⟨a, ha⟩ : ∃ a', a' = a217 := ⟨_, rfl⟩
    rw [← ha] at hS ⊢; clear ha
    obtain ⟨r219, hr220, H⟩ := bind_el H
    refine c_region (fun K hK => ?_)
    refine st_val hS rfl rfl rfl (r_move hS rfl rfl) fun a218 hS218 => ?_
    refine st_enter hS218 rfl rfl rfl (r_call hS218 rfl rfl (by kernel_rfl)) (slices_Reverse_int_int.calls (c0 := N + 4) (A0 := A211) (cap0 := cap212) (p0 := r188) (g := g216) (N + 6)  h213 (by omega) hr220) ?_
    rintro _ a222 w223 ⟨g223, rfl, h213, hl221, F223⟩ hS222
    replace h171 := OwS.fr h171 F223 (fun c' hc (hm : (N + 4 ≤ c' ∧ c' < N + 4 + 2) ∨ N + 6 ≤ c') => by omega)
    replace hF := hF.trans F223 (fun c' (hm : (N + 4 ≤ c' ∧ c' < N + 4 + 2) ∨ N + 6 ≤ c') => by show (r0 ≤ c' ∧ c' < r0 + 2) ∨ (r1 ≤ c' ∧ c' < r1 + 2) ∨ N ≤ c'; omega)
    have hT : Sl 49 a222 [(6, .slice A169 r146.length cap170), (7, .slice A211 r188.length cap212)] := hS222.re ⟨rfl, rfl, trivial⟩
    replace hS222 : Sl 49 a222 [(6, .slice A169 r146.length cap170), (7, .slice A211 r219.length cap212)] := by simpa only [hl221] using hT
    clear hT
    refine wpList_nil (hK _ _ ?_)
    replace hS : Sl 49 _ [(6, .slice A169 r146.length cap170), (7, .slice A211 r219.length cap212)] := hS222.re ⟨rfl, rfl, trivial⟩
    clear hK K
    try clear hS218 hS222
    obtain ⟨a, ha⟩ : ∃ a', a' = a222 := ⟨_, rfl⟩
    rw [← ha] at hS ⊢; clear ha
    refine c_pure [(6, .slice A169 r146.length cap170), (7, .slice A211 r219.length cap212), (8, .int .i64 0)] (fun R hR => st_val hS rfl rfl rfl (r_move hS rfl rfl) fun a224 hS224 => st_val hS224 rfl rfl rfl (r_move hS224 rfl rfl) fun a225 hS225 => st_val hS225 rfl rfl rfl (r_assign hS225 rfl rfl) fun a226 hS226 => st_val hS226 rfl rfl rfl (r_assign hS226 rfl rfl) fun a227 hS227 => st_val hS227 rfl rfl rfl (r_assign hS227 rfl rfl) fun a228 hS228 => wpList_nil (hR _ (hS228.re ⟨rfl, rfl, rfl, trivial⟩))) ?_
    clear hS
    clear a
    intro a hS
    refine wp_ret ?_
    have e := Option.some.inj H
    subst e
    have F229 := Fr.recol2 w223 g223 (N + 2) r0
    replace h171 := h171.recol2 r0
    replace h213 := OwS.fr h213 F229 (fun c' hc (hm : c' = N + 2 ∨ c' = N + 2 + 1) => by omega)
    replace hF := hF.trans F229 (fun c' (hm : c' = N + 2 ∨ c' = N + 2 + 1) => by show (r0 ≤ c' ∧ c' < r0 + 2) ∨ (r1 ≤ c' ∧ c' < r1 + 2) ∨ N ≤ c'; omega)
    have F230 := Fr.recol2 w223 (recol2 g223 (N + 2) r0) (N + 4) r1
    replace h213 := h213.recol2 r1
    replace h171 := OwS.fr h171 F230 (fun c' hc (hm : c' = N + 4 ∨ c' = N + 4 + 1) => by omega)
    replace hF := hF.trans F230 (fun c' (hm : c' = N + 4 ∨ c' = N + 4 + 1) => by show (r0 ≤ c' ∧ c' < r0 + 2) ∨ (r1 ≤ c' ∧ c' < r1 + 2) ∨ N ≤ c'; omega)
    repeat (with_reducible first | refine then_ret ?_ | refine inBlock_ret ?_)
    exact c_ret3 hS Try.results21 rfl rfl rfl ⟨_, rfl, (recol2 (recol2 g223 (N + 2) r0) (N + 4) r1), A169, cap170, A211, cap212, rfl, h171, h213, hF⟩

/-! ### ref27_ascending: function 47 -/
def ref27_ascending.l0 (p0 : List Int) : Nat → Int → Option (Fl (Bool) (Unit))
  | 0, _ => none
  | k8 + 1, m0_0 => if decide (m0_0 < (p0.length : Int)) = true then ((idx p0 m0_0).bind fun x17 => (idx p0 (wi (m0_0 - 1))).bind fun x24 => if decide (x17 ≤ x24) = true then (some (.out false)) else (ref27_ascending.l0 p0 k8 (wi (m0_0 + 1)))) else (some (.nxt ()))
def ref27_ascending.f (p0 : List Int) : Option (Bool) := (ref27_ascending.l0 p0 FUEL 1 : Option (Fl (Bool) (Unit))).bind fun o4 => o4.go fun _ => some true
set_option maxRecDepth 100000 in
set_option maxHeartbeats 4000000 in
theorem ref27_ascending.calls {p0 : List Int} {A0 : Option Addr} {cap0 : Nat} {C0 : Nat → Prop} {w : World} {g : Nat → Nat} {out : Bool} (N : Nat) (hp0 : RdS (kint .i64) w g C0 A0 cap0 p0) (hC0 : ∀ c, C0 c → c < N) (H : ref27_ascending.f p0 = some out) :
    Calls Try.prog 47 #[.slice A0 p0.length cap0] w (fun e w' => ∃ v, e = .returned v ∧ ∃ (g' : Nat → Nat), v = .bool out ∧ Fr (fun q => N ≤ q) w g w' g') := by
  unfold ref27_ascending.f at H
  refine calls_enter Try.func47 rfl Try.ntmps47 rfl (fun a hS => ?_)
  replace hS : Sl 20 a [(0, .slice A0 p0.length cap0)] := hS
  have hF : Fr (fun q => N ≤ q) w g w g := Fr.refl _ _ _
  refine c_pure [(0, .slice A0 p0.length cap0)] (fun R hR => st_val hS rfl rfl rfl (r_assign hS rfl rfl) fun a1 hS1 => wpList_nil (hR _ (hS1.re ⟨rfl, trivial⟩))) ?_
  clear hS
  clear a
  intro a hS
  obtain ⟨o4, H, Hl5⟩ := bind_el H
  refine c_cut (fun a w2 => ∃ (g2 : Nat → Nat), o4 = .nxt () ∧ Sl 20 a [] ∧ Fr (fun q => N ≤ q) w g w2 g2) ?_ ?_
  · refine c_pure [(0, .slice A0 p0.length cap0), (3, .int .i64 1)] (fun R hR => st_val hS rfl rfl rfl (r_assign hS rfl rfl) fun a6 hS6 => wpList_nil (hR _ (hS6.re ⟨rfl, rfl, trivial⟩))) ?_
    clear hS
    clear a
    intro a hS
    refine wp_block ?_
    refine wp_loop_ghost (fun kq => fun a w7 => ∃ (m0_0 : Int), ∃ (g7 : Nat → Nat), ref27_ascending.l0 p0 kq m0_0 = some o4 ∧ Sl 20 a [(0, .slice A0 p0.length cap0), (3, .int .i64 m0_0)] ∧ RdS (kint .i64) w7 g7 C0 A0 cap0 p0 ∧ Fr (fun q => N ≤ q) w g w7 g7) FUEL ?_ ?_
    · exact ⟨1, g, H, hS.re ⟨rfl, rfl, trivial⟩, hp0, hF⟩
    · clear H
      clear hp0 hF
      clear hS
      rintro k8 a w7 ⟨m0_0, g7, hpre0, hS, hp0, hF⟩
      have H := hpre0
      clear hpre0
      cases k8 with
      | zero => exact absurd H (by simp [ref27_ascending.l0])
      | succ k8 =>
        rw [ref27_ascending.l0] at H
        refine wp_seq ?_
        refine c_pure [(0, .slice A0 p0.length cap0), (3, .int .i64 m0_0), (7, .bool (decide (m0_0 < (p0.length : Int))))] (fun R hR => st_val hS rfl rfl rfl (r_move hS rfl rfl) fun a9 hS9 => st_val hS9 rfl rfl rfl (r_move hS9 rfl rfl) fun a10 hS10 => st_val hS10 rfl rfl rfl (r_len (e := 3) (sz := 1) (by_ := 8) hS10 rfl rfl (by kernel_rfl)) fun a11 hS11 => st_val hS11 rfl rfl rfl (r_bin hS11 rfl rfl rfl b_lss) fun a12 hS12 => wpList_nil (hR _ (hS12.re ⟨rfl, rfl, rfl, trivial⟩))) ?_
        clear hS
        clear a
        intro a hS
        refine c_cond hS rfl (fun hb13 => ?_) (fun hb13 => ?_)
        · replace H := ite_t hb13 H
          refine wp_skip ?_
          change Code.wp _ _ _ _ _
          refine wp_seq ?_
          refine wp_block ?_
          obtain ⟨x17, hx18, H⟩ := bind_el H
          obtain ⟨x24, hx25, H⟩ := bind_el H
          refine c_draw (fun K hK => d_start (fun q => False) g7 [] 10 #[false, false, false, false, false, false, false, false, false, false] (by kernel_rfl) rfl rfl (fun w14 hw14 => ?_))
          have F14 : Fr (fun _ => False) w7 g7 w14 g7 := by rw [hw14]; exact Fr.drew _ _ _
          replace hp0 := RdS.fr hp0 F14 (by decide) (fun _ _ h => h)
          replace hF := hF.trans F14 (fun _ h => h.elim)
          have hC : Fr (fun q => False) w14 g7 w14 g7 := Fr.refl _ _ _
          refine d_pure hS 0 #[true, false, false, false, false, false, false, false, false, false] rfl rfl rfl rfl (by kernel_rfl) (fun _ _ _ h => h) (fun _ => (r_move hS rfl rfl)) fun a15 hS15 => d_pure hS15 1 #[true, true, false, false, false, false, false, false, false, false] rfl rfl rfl rfl (by kernel_rfl) (fun _ _ _ h => h) (fun _ => (r_move hS15 rfl rfl)) fun a16 hS16 => d_pure hS16 2 #[true, true, true, false, false, false, false, false, false, false] rfl rfl rfl rfl (by kernel_rfl) (fun _ _ _ h => h) (fun _ => (r_index (e := 3) (sz := 1) (by_ := 8) hS16 rfl rfl rfl (by kernel_rfl) (RdS.some_ hp0 hx18) (idx_lo hx18) (idx_hi hx18))) fun a19 hS19 => d_take hS19 3 #[true, true, true, true, false, false, false, false, false, false] rfl rfl rfl rfl (by kernel_rfl) (fun _ _ _ h => h) ⟨_, hC⟩ (fun w' g' Fz => (r_load1 (n := 1) hS19 rfl rfl (by kernel_rfl) (RdS.cell (i := m0_0) (sz := 1) (j := 0) (RdS.fr hp0 Fz (by decide) (fun _ _ h => h)) hx18 rfl))) fun a20 hS20 => d_pure hS20 4 #[true, true, true, true, true, false, false, false, false, false] rfl rfl rfl rfl (by kernel_rfl) (fun _ _ _ h => h) (fun _ => (r_move hS20 rfl rfl)) fun a21 hS21 => d_pure hS21 5 #[true, true, true, true, true, true, false, false, false, false] rfl rfl rfl rfl (by kernel_rfl) (fun _ _ _ h => h) (fun _ => (r_move hS21 rfl rfl)) fun a22 hS22 => d_pure hS22 6 #[true, true, true, true, true, true, true, false, false, false] rfl rfl rfl rfl (by kernel_rfl) (fun _ _ _ h => h) (fun _ => (r_bin hS22 rfl rfl rfl b_sub)) fun a23 hS23 => d_pure hS23 7 #[true, true, true, true, true, true, true, true, false, false] rfl rfl rfl rfl (by kernel_rfl) (fun _ _ _ h => h) (fun _ => (r_index (e := 3) (sz := 1) (by_ := 8) hS23 rfl rfl rfl (by kernel_rfl) (RdS.some_ hp0 hx25) (idx_lo hx25) (idx_hi hx25))) fun a26 hS26 => d_take hS26 8 #[true, true, true, true, true, true, true, true, true, false] rfl rfl rfl rfl (by kernel_rfl) (fun _ _ _ h => h) ⟨_, hC⟩ (fun w' g' Fz => (r_load1 (n := 1) hS26 rfl rfl (by kernel_rfl) (RdS.cell (i := wi (m0_0 - 1)) (sz := 1) (j := 0) (RdS.fr hp0 Fz (by decide) (fun _ _ h => h)) hx25 rfl))) fun a27 hS27 => d_pure hS27 9 #[true, true, true, true, true, true, true, true, true, true] rfl rfl rfl rfl (by kernel_rfl) (fun _ _ _ h => h) (fun _ => (r_bin hS27 rfl rfl rfl b_leq)) fun a28 hS28 => d_done (by kernel_rfl) (hK _ _ ?_)
          replace hS : Sl 20 _ [(0, .slice A0 p0.length cap0), (3, .int .i64 m0_0), (19, .bool (decide (x17 ≤ x24)))] := hS28.re ⟨rfl, rfl, rfl, trivial⟩
          clear hK K hC
          try clear hS15 hS16 hS19 hS20 hS21 hS22 hS23 hS26 hS27 hS28
          obtain ⟨a, ha⟩ : ∃ a', a' = a28 := ⟨_, rfl⟩
          rw [← ha] at hS ⊢; clear ha
          refine c_cond hS rfl (fun hb29 => ?_) (fun hb29 => ?_)
          · replace H := ite_t hb29 H
            refine c_pure [(2, .bool false)] (fun R hR => st_val hS rfl rfl rfl (r_assign hS rfl rfl) fun a30 hS30 => wpList_nil (hR _ (hS30.re ⟨rfl, trivial⟩))) ?_
            clear hS
            clear a
            intro a hS
            refine wp_ret ?_
            have e := Option.some.inj H
            subst e
            replace H := Fl.go_out Hl5
            have e := Option.some.inj H
            subst e
            repeat (with_reducible first | refine then_ret ?_ | refine inBlock_ret ?_)
            exact c_ret1 hS Try.results47 rfl ⟨_, rfl, g7, rfl, hF⟩
          · replace H := ite_f hb29 H
            refine wp_skip ?_
            change Code.wp _ _ _ _ _
            refine c_pure1 [(0, .slice A0 p0.length cap0), (3, .int .i64 (wi (m0_0 + 1)))] (fun R hR => st_val hS rfl rfl rfl (r_move hS rfl rfl) fun a31 hS31 => st_val hS31 rfl rfl rfl (r_bin hS31 rfl rfl rfl b_add) fun a32 hS32 => st_val hS32 rfl rfl rfl (r_assign hS32 rfl rfl) fun a33 hS33 => wpList_nil (hR _ (hS33.re ⟨rfl, rfl, trivial⟩))) ?_
            clear hS
            clear a
            intro a hS
            refine ⟨k8, Nat.lt_succ_self _, ?_⟩
            exact ⟨wi (m0_0 + 1), g7, H, hS.re ⟨rfl, rfl, trivial⟩, hp0, hF⟩
        · replace H := ite_f hb13 H
          refine wp_exit ?_
          have e := Option.some.inj H
          exact ⟨g7, e.symm, hS.re trivial, hF⟩
  · clear H
    clear hp0 hF
    clear hS
    rintro a w2 ⟨g2, hpre0, hS, hF⟩
    subst hpre0
    have H := Fl.go_nxt Hl5
    clear Hl5
    refine c_pure [(2, .bool true)] (fun R hR => st_val hS rfl rfl rfl (r_assign hS rfl rfl) fun a34 hS34 => wpList_nil (hR _ (hS34.re ⟨rfl, trivial⟩))) ?_
    clear hS
    clear a
    intro a hS
    refine wp_ret ?_
    have e := Option.some.inj H
    subst e
    repeat (with_reducible first | refine then_ret ?_ | refine inBlock_ret ?_)
    exact c_ret1 hS Try.results47 rfl ⟨_, rfl, g2, rfl, hF⟩

/-! ### ref27_has: function 48 -/
def ref27_has.l0 (p0 : List Int) (p1 : Int) : Nat → Int → Option (Fl (Bool) (Unit))
  | 0, _ => none
  | k6 + 1, m0_0 => if decide (m0_0 < (p0.length : Int)) = true then ((idx p0 m0_0).bind fun x14 => if (x14 == p1) = true then (some (.out true)) else (ref27_has.l0 p0 p1 k6 (wi (m0_0 + 1)))) else (some (.nxt ()))
def ref27_has.f (p0 : List Int) (p1 : Int) : Option (Bool) := (ref27_has.l0 p0 p1 FUEL 0 : Option (Fl (Bool) (Unit))).bind fun o3 => o3.go fun _ => some false
set_option maxRecDepth 100000 in
set_option maxHeartbeats 4000000 in
theorem ref27_has.calls {p0 : List Int} {A0 : Option Addr} {cap0 : Nat} {C0 : Nat → Prop} {p1 : Int} {w : World} {g : Nat → Nat} {out : Bool} (N : Nat) (hp0 : RdS (kint .i64) w g C0 A0 cap0 p0) (hC0 : ∀ c, C0 c → c < N) (H : ref27_has.f p0 p1 = some out) :
    Calls Try.prog 48 #[.slice A0 p0.length cap0, .int .i64 p1] w (fun e w' => ∃ v, e = .returned v ∧ ∃ (g' : Nat → Nat), v = .bool out ∧ Fr (fun q => N ≤ q) w g w' g') := by
  unfold ref27_has.f at H
  refine calls_enter Try.func48 rfl Try.ntmps48 rfl (fun a hS => ?_)
  replace hS : Sl 18 a [(0, .slice A0 p0.length cap0), (1, .int .i64 p1)] := hS
  have hF : Fr (fun q => N ≤ q) w g w g := Fr.refl _ _ _
  refine c_pure [(0, .slice A0 p0.length cap0), (1, .int .i64 p1)] (fun R hR => st_val hS rfl rfl rfl (r_assign hS rfl rfl) fun a1 hS1 => wpList_nil (hR _ (hS1.re ⟨rfl, rfl, trivial⟩))) ?_
  clear hS
  clear a
  intro a hS
  obtain ⟨o3, H, Hl4⟩ := bind_el H
  refine c_cut (fun a w' => o3 = .nxt () ∧ w = w' ∧ Sl 18 a []) ?_ ?_
  · refine c_pure [(0, .slice A0 p0.length cap0), (1, .int .i64 p1), (5, .int .i64 0)] (fun R hR => st_val hS rfl rfl rfl (r_assign hS rfl rfl) fun a5 hS5 => wpList_nil (hR _ (hS5.re ⟨rfl, rfl, rfl, trivial⟩))) ?_
    clear hS
    clear a
    intro a hS
    refine wp_block ?_
    refine wp_loop_ghost (fun kq => fun a w' => ∃ (m0_0 : Int), ref27_has.l0 p0 p1 kq m0_0 = some o3 ∧ w = w' ∧ Sl 18 a [(0, .slice A0 p0.length cap0), (1, .int .i64 p1), (5, .int .i64 m0_0)]) FUEL ?_ ?_
    · exact ⟨0, H, rfl, hS.re ⟨rfl, rfl, rfl, trivial⟩⟩
    · clear H
      clear hS
      rintro k6 a w' ⟨m0_0, hpre0, hw, hS⟩
      subst hw
      have H := hpre0
      clear hpre0
      cases k6 with
      | zero => exact absurd H (by simp [ref27_has.l0])
      | succ k6 =>
        rw [ref27_has.l0] at H
        refine wp_seq ?_
        refine c_pure [(0, .slice A0 p0.length cap0), (1, .int .i64 p1), (5, .int .i64 m0_0), (9, .bool (decide (m0_0 < (p0.length : Int))))] (fun R hR => st_val hS rfl rfl rfl (r_move hS rfl rfl) fun a7 hS7 => st_val hS7 rfl rfl rfl (r_move hS7 rfl rfl) fun a8 hS8 => st_val hS8 rfl rfl rfl (r_len (e := 3) (sz := 1) (by_ := 8) hS8 rfl rfl (by kernel_rfl)) fun a9 hS9 => st_val hS9 rfl rfl rfl (r_bin hS9 rfl rfl rfl b_lss) fun a10 hS10 => wpList_nil (hR _ (hS10.re ⟨rfl, rfl, rfl, rfl, trivial⟩))) ?_
        clear hS
        clear a
        intro a hS
        refine c_cond hS rfl (fun hb11 => ?_) (fun hb11 => ?_)
        · replace H := ite_t hb11 H
          refine wp_skip ?_
          change Code.wp _ _ _ _ _
          refine wp_seq ?_
          refine wp_block ?_
          obtain ⟨x14, hx15, H⟩ := bind_el H
          refine c_pure [(0, .slice A0 p0.length cap0), (1, .int .i64 p1), (5, .int .i64 m0_0), (17, .bool (x14 == p1))] (fun R hR => st_val hS rfl rfl rfl (r_move hS rfl rfl) fun a12 hS12 => st_val hS12 rfl rfl rfl (r_move hS12 rfl rfl) fun a13 hS13 => st_val hS13 rfl rfl rfl (r_index (e := 3) (sz := 1) (by_ := 8) hS13 rfl rfl rfl (by kernel_rfl) (RdS.some_ hp0 hx15) (idx_lo hx15) (idx_hi hx15)) fun a16 hS16 => st_val hS16 rfl rfl rfl (r_load1 (n := 1) hS16 rfl rfl (by kernel_rfl) (RdS.cell (i := m0_0) (sz := 1) (j := 0) hp0 hx15 rfl)) fun a17 hS17 => st_val hS17 rfl rfl rfl (r_move hS17 rfl rfl) fun a18 hS18 => st_val hS18 rfl rfl rfl (r_bin hS18 rfl rfl rfl b_eql) fun a19 hS19 => wpList_nil (hR _ (hS19.re ⟨rfl, rfl, rfl, rfl, trivial⟩))) ?_
          clear hS
          clear a
          intro a hS
          refine c_cond hS rfl (fun hb20 => ?_) (fun hb20 => ?_)
          · replace H := ite_t hb20 H
            refine c_pure [(4, .bool true)] (fun R hR => st_val hS rfl rfl rfl (r_assign hS rfl rfl) fun a21 hS21 => wpList_nil (hR _ (hS21.re ⟨rfl, trivial⟩))) ?_
            clear hS
            clear a
            intro a hS
            refine wp_ret ?_
            have e := Option.some.inj H
            subst e
            replace H := Fl.go_out Hl4
            have e := Option.some.inj H
            subst e
            repeat (with_reducible first | refine then_ret ?_ | refine inBlock_ret ?_)
            exact c_ret1 hS Try.results48 rfl ⟨_, rfl, g, rfl, hF⟩
          · replace H := ite_f hb20 H
            refine wp_skip ?_
            change Code.wp _ _ _ _ _
            refine c_pure1 [(0, .slice A0 p0.length cap0), (1, .int .i64 p1), (5, .int .i64 (wi (m0_0 + 1)))] (fun R hR => st_val hS rfl rfl rfl (r_move hS rfl rfl) fun a22 hS22 => st_val hS22 rfl rfl rfl (r_bin hS22 rfl rfl rfl b_add) fun a23 hS23 => st_val hS23 rfl rfl rfl (r_assign hS23 rfl rfl) fun a24 hS24 => wpList_nil (hR _ (hS24.re ⟨rfl, rfl, rfl, trivial⟩))) ?_
            clear hS
            clear a
            intro a hS
            refine ⟨k6, Nat.lt_succ_self _, ?_⟩
            exact ⟨wi (m0_0 + 1), H, rfl, hS.re ⟨rfl, rfl, rfl, trivial⟩⟩
        · replace H := ite_f hb11 H
          refine wp_exit ?_
          have e := Option.some.inj H
          exact ⟨e.symm, rfl, hS.re trivial⟩
  · clear H
    clear hS
    rintro a w' ⟨hpre0, hw, hS⟩
    subst hpre0
    subst hw
    have H := Fl.go_nxt Hl4
    clear Hl4
    refine c_pure [(4, .bool false)] (fun R hR => st_val hS rfl rfl rfl (r_assign hS rfl rfl) fun a25 hS25 => wpList_nil (hR _ (hS25.re ⟨rfl, trivial⟩))) ?_
    clear hS
    clear a
    intro a hS
    refine wp_ret ?_
    have e := Option.some.inj H
    subst e
    repeat (with_reducible first | refine then_ret ?_ | refine inBlock_ret ?_)
    exact c_ret1 hS Try.results48 rfl ⟨_, rfl, g, rfl, hF⟩

/-! ### ref27_Change: function 22 -/
def ref27_Change.l0 (r48 : (List Int)) (r54 : (List Int)) : Nat → (List Int) → Int → Option ((List Int))
  | 0, _, _ => none
  | k128 + 1, m0_0, m0_1 => if decide (m0_1 < (r54.length : Int)) = true then (((idx r54 m0_1).bind fun x144 => (ref27_has.f r48 x144).bind fun r148 => if (!r148) = true then ((app m0_0 [x144]).bind fun y164 => some y164) else (some m0_0) : Option ((List Int))).bind fun v138 => ref27_Change.l0 r48 r54 k128 v138 (wi (m0_1 + 1))) else (some m0_0)
def ref27_Change.l1 (r48 : (List Int)) (r54 : (List Int)) : Nat → (List Int) → Int → Option ((List Int))
  | 0, _, _ => none
  | k191 + 1, m1_0, m1_1 => if decide (0 ≤ m1_1) = true then (((idx r48 m1_1).bind fun x205 => (ref27_has.f r54 x205).bind fun r209 => if (!r209) = true then ((app m1_0 [x205]).bind fun y225 => some y225) else (some m1_0) : Option ((List Int))).bind fun v199 => ref27_Change.l1 r48 r54 k191 v199 (wi (m1_1 - 1))) else (some m1_0)
def ref27_Change.f (p0 : api_PowerDevice) (p1 : Int) (p2 : Int) : Option ((List Int) × (List Int) × Int) := if ((((decide (p1 < 0)) || (decide (4 < p1))) || (decide (p2 < 0))) || (decide (4 < p2))) = true then (some ([], [], 1)) else ((ref27_needs.f p0 p1).bind fun r48 => (ref27_needs.f p0 p2).bind fun r54 => (ref27_ascending.f r48).bind fun r80 => (if (!r80) = true then some true else (ref27_ascending.f r54).bind fun r88 => some (!r88)).bind fun t93 => if t93 = true then (some ([], [], 1)) else ((ref27_Change.l0 r48 r54 FUEL [] 0 : Option ((List Int))).bind fun v120 => (ref27_Change.l1 r48 r54 FUEL [] (wi ((r48.length : Int) - 1)) : Option ((List Int))).bind fun v180 => some (v120, v180, 0)))
set_option maxRecDepth 100000 in
set_option maxHeartbeats 4000000 in
theorem ref27_Change.calls {p0 : api_PowerDevice} {C0 : Nat → Prop} {A0_0 : Option Addr} {cap0_0 : Nat} {A0_1 : Option Addr} {cap0_1 : Nat} {A0_2 : Option Addr} {cap0_2 : Nat} {A0_3 : Option Addr} {cap0_3 : Nat} {p1 : Int} {p2 : Int} {w : World} {g : Nat → Nat} {out : (List Int) × (List Int) × Int} (N : Nat) (r0 : Nat) (r1 : Nat) (hp0_0 : RdS (kint .i64) w g C0 A0_0 cap0_0 p0.Rails.a0) (hp0_1 : RdS (kint .i64) w g C0 A0_1 cap0_1 p0.Rails.a1) (hp0_2 : RdS (kint .i64) w g C0 A0_2 cap0_2 p0.Rails.a2) (hp0_3 : RdS (kint .i64) w g C0 A0_3 cap0_3 p0.Rails.a3) (hC0 : ∀ c, C0 c → c < N) (hr0 : r0 + 2 ≤ N) (hr1 : r1 + 2 ≤ N) (ht1_0 : r1 + 2 ≤ r0 ∨ r0 + 2 ≤ r1) (H : ref27_Change.f p0 p1 p2 = some out) :
    Calls Try.prog 22 #[.agg #[.int .i64 p0.Parent, .slice A0_0 p0.Rails.a0.length cap0_0, .slice A0_1 p0.Rails.a1.length cap0_1, .slice A0_2 p0.Rails.a2.length cap0_2, .slice A0_3 p0.Rails.a3.length cap0_3, .int .i64 p0.Deepest.a0, .int .i64 p0.Deepest.a1, .int .i64 p0.Deepest.a2, .int .i64 p0.Deepest.a3, .int .i64 p0.Deepest.a4, .int .i64 p0.Deepest.a5, .int .i64 p0.WakeDevice, .int .i64 p0.WakeSystem], .int .i64 p1, .int .i64 p2] w (fun e w' => ∃ v, e = .returned v ∧ ∃ (g' : Nat → Nat) (A_r0 : Option Addr) (cap_r0 : Nat) (A_r1 : Option Addr) (cap_r1 : Nat), v = .tuple #[.slice A_r0 out.1.length cap_r0, .slice A_r1 out.2.1.length cap_r1, .int .i64 out.2.2] ∧ OwS (kint .i64) 3 w' g' r0 A_r0 cap_r0 out.1 ∧ OwS (kint .i64) 3 w' g' r1 A_r1 cap_r1 out.2.1 ∧ Fr (fun q => (r0 ≤ q ∧ q < r0 + 2) ∨ (r1 ≤ q ∧ q < r1 + 2) ∨ N ≤ q) w g w' g') := by
  unfold ref27_Change.f at H
  refine calls_enter Try.func22 rfl Try.ntmps22 rfl (fun a hS => ?_)
  replace hS : Sl 86 a [(0, .agg #[.int .i64 p0.Parent, .slice A0_0 p0.Rails.a0.length cap0_0, .slice A0_1 p0.Rails.a1.length cap0_1, .slice A0_2 p0.Rails.a2.length cap0_2, .slice A0_3 p0.Rails.a3.length cap0_3, .int .i64 p0.Deepest.a0, .int .i64 p0.Deepest.a1, .int .i64 p0.Deepest.a2, .int .i64 p0.Deepest.a3, .int .i64 p0.Deepest.a4, .int .i64 p0.Deepest.a5, .int .i64 p0.WakeDevice, .int .i64 p0.WakeSystem]), (1, .int .i64 p1), (2, .int .i64 p2)] := hS
  have hF : Fr (fun q => (r0 ≤ q ∧ q < r0 + 2) ∨ (r1 ≤ q ∧ q < r1 + 2) ∨ N ≤ q) w g w g := Fr.refl _ _ _
  refine c_region (fun K hK => ?_)
  refine st_eff hS rfl rfl rfl (e_box (cs := [.int .i64 p0.Parent, .slice A0_0 p0.Rails.a0.length cap0_0, .slice A0_1 p0.Rails.a1.length cap0_1, .slice A0_2 p0.Rails.a2.length cap0_2, .slice A0_3 p0.Rails.a3.length cap0_3, .int .i64 p0.Deepest.a0, .int .i64 p0.Deepest.a1, .int .i64 p0.Deepest.a2, .int .i64 p0.Deepest.a3, .int .i64 p0.Deepest.a4, .int .i64 p0.Deepest.a5, .int .i64 p0.WakeDevice, .int .i64 p0.WakeSystem]) (N + 0) g hS rfl rfl rfl) ?_
  rintro _ a4 w5 g5 ⟨⟨b1, rfl, h2⟩, F5⟩ hS4
  replace hp0_0 := RdS.fr hp0_0 F5 (by decide) (fun _ _ h => h)
  replace hp0_1 := RdS.fr hp0_1 F5 (by decide) (fun _ _ h => h)
  replace hp0_2 := RdS.fr hp0_2 F5 (by decide) (fun _ _ h => h)
  replace hp0_3 := RdS.fr hp0_3 F5 (by decide) (fun _ _ h => h)
  replace hF := hF.trans F5 (fun _ h => h.elim)
  refine st_val hS4 rfl rfl rfl (r_assign hS4 rfl rfl) fun a6 hS6 => st_val hS6 rfl rfl rfl (r_assign hS6 rfl rfl) fun a7 hS7 => st_val hS7 rfl rfl rfl (r_assign hS7 rfl rfl) fun a8 hS8 => wpList_nil (hK _ _ ?_)
  replace hS : Sl 86 _ [(1, .int .i64 p1), (2, .int .i64 p2), (3, .pointer (some ⟨b1, 0, none⟩))] := hS8.re ⟨rfl, rfl, rfl, trivial⟩
  clear hK K
  try clear hS4 hS6 hS7 hS8
  obtain ⟨a, ha⟩ : ∃ a', a' = a8 := ⟨_, rfl⟩
  rw [← ha] at hS ⊢; clear ha
  refine wp_seq ?_
  refine c_region (fun K hK => ?_)
  refine st_val hS rfl rfl rfl (r_move hS rfl rfl) fun a9 hS9 => st_val hS9 rfl rfl rfl (r_bin hS9 rfl rfl rfl b_lss) fun a10 hS10 => st_val hS10 rfl rfl rfl (r_move hS10 rfl rfl) fun a11 hS11 => ?_
  refine g_join (N := 86) 3 [(1, .int .i64 p1), (2, .int .i64 p2), (3, .pointer (some ⟨b1, 0, none⟩)), (20, .bool ((decide (p1 < 0)) || (decide (4 < p1))))] ?_ (fun hk => ?_)
  rotate_left
  · rcases Bool.eq_false_or_eq_true (decide (p1 < 0)) with hb12 | hb12
    · refine st_off hS11 (want_off hS11 rfl rfl rfl hb12) rfl rfl fun a15 hS15 => st_off hS15 (want_off hS15 rfl rfl rfl hb12) rfl rfl fun a16 hS16 => st_val hS16 rfl rfl rfl (r_pickT hS16 rfl rfl rfl hb12) fun a17 hS17 => hk _ (hS17.re ⟨rfl, rfl, rfl, (by rw [hb12]; rfl), trivial⟩)
    · refine st_valW hS11 (want_on hS11 rfl rfl rfl hb12) rfl rfl (r_move hS11 rfl rfl) fun a18 hS18 => st_valW hS18 (want_on hS18 rfl rfl rfl hb12) rfl rfl (r_bin hS18 rfl rfl rfl b_gtr) fun a19 hS19 => st_val hS19 rfl rfl rfl (r_pickF hS19 rfl rfl rfl hb12) fun a20 hS20 => hk _ (hS20.re ⟨rfl, rfl, rfl, (by rw [hb12]; rfl), trivial⟩)
  intro a21 hS21
  refine st_val hS21 rfl rfl rfl (r_move hS21 rfl rfl) fun a22 hS22 => ?_
  refine g_join (N := 86) 3 [(1, .int .i64 p1), (2, .int .i64 p2), (3, .pointer (some ⟨b1, 0, none⟩)), (24, .bool (((decide (p1 < 0)) || (decide (4 < p1))) || (decide (p2 < 0))))] ?_ (fun hk => ?_)
  rotate_left
  · rcases Bool.eq_false_or_eq_true (((decide (p1 < 0)) || (decide (4 < p1)))) with hb23 | hb23
    · refine st_off hS22 (want_off hS22 rfl rfl rfl hb23) rfl rfl fun a26 hS26 => st_off hS26 (want_off hS26 rfl rfl rfl hb23) rfl rfl fun a27 hS27 => st_val hS27 rfl rfl rfl (r_pickT hS27 rfl rfl rfl hb23) fun a28 hS28 => hk _ (hS28.re ⟨rfl, rfl, rfl, (by rw [hb23]; rfl), trivial⟩)
    · refine st_valW hS22 (want_on hS22 rfl rfl rfl hb23) rfl rfl (r_move hS22 rfl rfl) fun a29 hS29 => st_valW hS29 (want_on hS29 rfl rfl rfl hb23) rfl rfl (r_bin hS29 rfl rfl rfl b_lss) fun a30 hS30 => st_val hS30 rfl rfl rfl (r_pickF hS30 rfl rfl rfl hb23) fun a31 hS31 => hk _ (hS31.re ⟨rfl, rfl, rfl, (by rw [hb23]; rfl), trivial⟩)
  intro a32 hS32
  refine st_val hS32 rfl rfl rfl (r_move hS32 rfl rfl) fun a33 hS33 => ?_
  refine g_join (N := 86) 3 [(1, .int .i64 p1), (2, .int .i64 p2), (3, .pointer (some ⟨b1, 0, none⟩)), (28, .bool ((((decide (p1 < 0)) || (decide (4 < p1))) || (decide (p2 < 0))) || (decide (4 < p2))))] ?_ (fun hk => ?_)
  rotate_left
  · rcases Bool.eq_false_or_eq_true ((((decide (p1 < 0)) || (decide (4 < p1))) || (decide (p2 < 0)))) with hb34 | hb34
    · refine st_off hS33 (want_off hS33 rfl rfl rfl hb34) rfl rfl fun a37 hS37 => st_off hS37 (want_off hS37 rfl rfl rfl hb34) rfl rfl fun a38 hS38 => st_val hS38 rfl rfl rfl (r_pickT hS38 rfl rfl rfl hb34) fun a39 hS39 => hk _ (hS39.re ⟨rfl, rfl, rfl, (by rw [hb34]; rfl), trivial⟩)
    · refine st_valW hS33 (want_on hS33 rfl rfl rfl hb34) rfl rfl (r_move hS33 rfl rfl) fun a40 hS40 => st_valW hS40 (want_on hS40 rfl rfl rfl hb34) rfl rfl (r_bin hS40 rfl rfl rfl b_gtr) fun a41 hS41 => st_val hS41 rfl rfl rfl (r_pickF hS41 rfl rfl rfl hb34) fun a42 hS42 => hk _ (hS42.re ⟨rfl, rfl, rfl, (by rw [hb34]; rfl), trivial⟩)
  intro a43 hS43
  refine wpList_nil (hK _ _ ?_)
  replace hS : Sl 86 _ [(1, .int .i64 p1), (2, .int .i64 p2), (3, .pointer (some ⟨b1, 0, none⟩)), (28, .bool ((((decide (p1 < 0)) || (decide (4 < p1))) || (decide (p2 < 0))) || (decide (4 < p2))))] := hS43.re ⟨rfl, rfl, rfl, rfl, trivial⟩
  clear hK K
  try clear hS9 hS10 hS11 hS21 hS22 hS32 hS33 hS43
  obtain ⟨a, ha⟩ : ∃ a', a' = a43 := ⟨_, rfl⟩
  rw [← ha] at hS ⊢; clear ha
  refine c_cond hS rfl (fun hb44 => ?_) (fun hb44 => ?_)
  · replace H := ite_t hb44 H
    refine c_pure [(6, .slice none 0 0), (7, .slice none 0 0), (8, .int .i64 1)] (fun R hR => st_val hS rfl rfl rfl (r_assign hS rfl rfl) fun a45 hS45 => st_val hS45 rfl rfl rfl (r_assign hS45 rfl rfl) fun a46 hS46 => st_val hS46 rfl rfl rfl (r_assign hS46 rfl rfl) fun a47 hS47 => wpList_nil (hR _ (hS47.re ⟨rfl, rfl, rfl, trivial⟩))) ?_
    clear hS
    clear a
    intro a hS
    refine wp_ret ?_
    have e := Option.some.inj H
    subst e
    repeat (with_reducible first | refine then_ret ?_ | refine inBlock_ret ?_)
    exact c_ret3 hS Try.results22 rfl rfl rfl ⟨_, rfl, g5, none, 0, none, 0, rfl, OwS.nil (kint .i64) 3 w5 g5 r0, OwS.nil (kint .i64) 3 w5 g5 r1, hF⟩
  · replace H := ite_f hb44 H
    refine wp_skip ?_
    change Code.wp _ _ _ _ _
    obtain ⟨r48, hr49, H⟩ := bind_el H
    obtain ⟨r54, hr55, H⟩ := bind_el H
    refine c_draw (fun K hK => d_start (fun q => N + 10 ≤ q) g5 [] 8 #[false, false, false, false, false, false, false, false] (by kernel_rfl) rfl rfl (fun w60 hw60 => ?_))
    have F60 : Fr (fun _ => False) w5 g5 w60 g5 := by rw [hw60]; exact Fr.drew _ _ _
    replace h2 := h2.fr F60 (fun h => h)
    replace hp0_0 := RdS.fr hp0_0 F60 (by decide) (fun _ _ h => h)
    replace hp0_1 := RdS.fr hp0_1 F60 (by decide) (fun _ _ h => h)
    replace hp0_2 := RdS.fr hp0_2 F60 (by decide) (fun _ _ h => h)
    replace hp0_3 := RdS.fr hp0_3 F60 (by decide) (fun _ _ h => h)
    replace hF := hF.trans F60 (fun _ h => h.elim)
    have hC : Fr (fun q => N + 10 ≤ q) w60 g5 w60 g5 := Fr.refl _ _ _
    refine d_take hS 0 #[true, false, false, false, false, false, false, false] rfl rfl rfl rfl (by kernel_rfl) (fun _ _ _ h => h) ⟨_, hC⟩ (fun w' g' Fz => (r_loadN (n := 13) (cs := [.int .i64 p0.Parent, .slice A0_0 p0.Rails.a0.length cap0_0, .slice A0_1 p0.Rails.a1.length cap0_1, .slice A0_2 p0.Rails.a2.length cap0_2, .slice A0_3 p0.Rails.a3.length cap0_3, .int .i64 p0.Deepest.a0, .int .i64 p0.Deepest.a1, .int .i64 p0.Deepest.a2, .int .i64 p0.Deepest.a3, .int .i64 p0.Deepest.a4, .int .i64 p0.Deepest.a5, .int .i64 p0.WakeDevice, .int .i64 p0.WakeSystem]) hS rfl rfl (by kernel_rfl) rfl (Bx.cells_off (h2.fr Fz (fun (hm : N + 10 ≤ N + 0) => by omega)) 0 13))) fun a61 hS61 => d_pure hS61 1 #[true, true, false, false, false, false, false, false] rfl rfl rfl rfl (by kernel_rfl) (fun _ _ _ h => h) (fun _ => (r_move hS61 rfl rfl)) fun a62 hS62 => d_take hS62 3 #[true, true, false, true, false, false, false, false] rfl rfl rfl rfl (by kernel_rfl) (fun _ _ _ h => h) ⟨_, hC⟩ (fun w' g' Fz => (r_loadN (n := 13) (cs := [.int .i64 p0.Parent, .slice A0_0 p0.Rails.a0.length cap0_0, .slice A0_1 p0.Rails.a1.length cap0_1, .slice A0_2 p0.Rails.a2.length cap0_2, .slice A0_3 p0.Rails.a3.length cap0_3, .int .i64 p0.Deepest.a0, .int .i64 p0.Deepest.a1, .int .i64 p0.Deepest.a2, .int .i64 p0.Deepest.a3, .int .i64 p0.Deepest.a4, .int .i64 p0.Deepest.a5, .int .i64 p0.WakeDevice, .int .i64 p0.WakeSystem]) hS62 rfl rfl (by kernel_rfl) rfl (Bx.cells_off (h2.fr Fz (fun (hm : N + 10 ≤ N + 0) => by omega)) 0 13))) fun a63 hS63 => d_pure hS63 4 #[true, true, false, true, true, false, false, false] rfl rfl rfl rfl (by kernel_rfl) (fun _ _ _ h => h) (fun _ => (r_move hS63 rfl rfl)) fun a64 hS64 => ?_
    refine d_one 2 #[true, true, true, true, true, false, false, false] rfl (by kernel_rfl) (arm_call hS64 rfl rfl rfl (r_call hS64 rfl rfl (by kernel_rfl)) (ref27_needs.calls (C0 := C0) (p0 := p0) (p1 := p1) (g := g5) (N + 10)  hp0_0 hp0_1 hp0_2 hp0_3 (fun q (hq : C0 q) => by have := hC0 q hq; omega) hr49) (fun _ _ ⟨g', _, _, _, _, Fz⟩ _ => ⟨g', hC.trans Fz (fun c' (hm : N + 10 ≤ c') => by show N + 10 ≤ c'; omega)⟩) ?_)
    rintro _ a69 w70 ⟨g70, A65, cap66, rfl, h67, F70⟩ hS69
    have hC70 := hC.trans F70 (fun c' (hm : N + 10 ≤ c') => by show N + 10 ≤ c'; omega)
    replace h2 := h2.fr F70 (fun (hm : N + 10 ≤ N + 0) => by omega)
    replace hp0_0 := RdS.fr hp0_0 F70 (by decide) (fun q (hq : C0 q) (hm : N + 10 ≤ q) => by have := hC0 q hq; omega)
    replace hp0_1 := RdS.fr hp0_1 F70 (by decide) (fun q (hq : C0 q) (hm : N + 10 ≤ q) => by have := hC0 q hq; omega)
    replace hp0_2 := RdS.fr hp0_2 F70 (by decide) (fun q (hq : C0 q) (hm : N + 10 ≤ q) => by have := hC0 q hq; omega)
    replace hp0_3 := RdS.fr hp0_3 F70 (by decide) (fun q (hq : C0 q) (hm : N + 10 ≤ q) => by have := hC0 q hq; omega)
    replace hF := hF.trans F70 (fun c' (hm : N + 10 ≤ c') => by show (r0 ≤ c' ∧ c' < r0 + 2) ∨ (r1 ≤ c' ∧ c' < r1 + 2) ∨ N ≤ c'; omega)
    refine d_one 5 #[true, true, true, true, true, true, false, false] rfl (by kernel_rfl) (arm_call hS69 rfl rfl rfl (r_call hS69 rfl rfl (by kernel_rfl)) (ref27_needs.calls (C0 := C0) (p0 := p0) (p1 := p2) (g := g70) (N + 10)  hp0_0 hp0_1 hp0_2 hp0_3 (fun q (hq : C0 q) => by have := hC0 q hq; omega) hr55) (fun _ _ ⟨g', _, _, _, _, Fz⟩ _ => ⟨g', hC70.trans Fz (fun c' (hm : N + 10 ≤ c') => by show N + 10 ≤ c'; omega)⟩) ?_)
    rintro _ a75 w76 ⟨g76, A71, cap72, rfl, h73, F76⟩ hS75
    have hC76 := hC70.trans F76 (fun c' (hm : N + 10 ≤ c') => by show N + 10 ≤ c'; omega)
    replace h2 := h2.fr F76 (fun (hm : N + 10 ≤ N + 0) => by omega)
    replace h67 := RdS.fr h67 F76 (by decide) (fun q (hq : C0 q) (hm : N + 10 ≤ q) => by have := hC0 q hq; omega)
    replace hp0_0 := RdS.fr hp0_0 F76 (by decide) (fun q (hq : C0 q) (hm : N + 10 ≤ q) => by have := hC0 q hq; omega)
    replace hp0_1 := RdS.fr hp0_1 F76 (by decide) (fun q (hq : C0 q) (hm : N + 10 ≤ q) => by have := hC0 q hq; omega)
    replace hp0_2 := RdS.fr hp0_2 F76 (by decide) (fun q (hq : C0 q) (hm : N + 10 ≤ q) => by have := hC0 q hq; omega)
    replace hp0_3 := RdS.fr hp0_3 F76 (by decide) (fun q (hq : C0 q) (hm : N + 10 ≤ q) => by have := hC0 q hq; omega)
    replace hF := hF.trans F76 (fun c' (hm : N + 10 ≤ c') => by show (r0 ≤ c' ∧ c' < r0 + 2) ∨ (r1 ≤ c' ∧ c' < r1 + 2) ∨ N ≤ c'; omega)
    refine d_pure hS75 6 #[true, true, true, true, true, true, true, false] rfl rfl rfl rfl (by kernel_rfl) (fun _ _ _ h => h) (fun _ => (r_assign hS75 rfl rfl)) fun a77 hS77 => d_pure hS77 7 #[true, true, true, true, true, true, true, true] rfl rfl rfl rfl (by kernel_rfl) (fun _ _ _ h => h) (fun _ => (r_assign hS77 rfl rfl)) fun a78 hS78 => d_done (by kernel_rfl) (hK _ _ ?_)
    replace hS : Sl 86 _ [(9, .slice A65 r48.length cap66), (10, .slice A71 r54.length cap72)] := hS78.re ⟨rfl, rfl, trivial⟩
    clear hK K hC
    try clear hS61 hS62 hS63 hS64 hS69 hS75 hS77 hS78
    obtain ⟨a, ha⟩ : ∃ a', a' = a78 := ⟨_, rfl⟩
    rw [← ha] at hS ⊢; clear ha
    refine wp_seq ?_
    obtain ⟨r80, hr81, H⟩ := bind_el H
    obtain ⟨t93, ht94, H⟩ := bind_el H
    refine c_region (fun K hK => ?_)
    refine st_val hS rfl rfl rfl (r_move hS rfl rfl) fun a79 hS79 => ?_
    refine st_enter hS79 rfl rfl rfl (r_call hS79 rfl rfl (by kernel_rfl)) (ref27_ascending.calls (C0 := C0) (p0 := r48) (g := g76) (N + 10)  h67 (fun q (hq : C0 q) => by have := hC0 q hq; omega) hr81) ?_
    rintro _ a82 w83 ⟨g83, rfl, F83⟩ hS82
    replace h67 := RdS.fr h67 F83 (by decide) (fun q (hq : C0 q) (hm : N + 10 ≤ q) => by have := hC0 q hq; omega)
    replace h73 := RdS.fr h73 F83 (by decide) (fun q (hq : C0 q) (hm : N + 10 ≤ q) => by have := hC0 q hq; omega)
    replace hF := hF.trans F83 (fun c' (hm : N + 10 ≤ c') => by show (r0 ≤ c' ∧ c' < r0 + 2) ∨ (r1 ≤ c' ∧ c' < r1 + 2) ∨ N ≤ c'; omega)
    refine st_val hS82 rfl rfl rfl (r_not hS82 rfl rfl) fun a84 hS84 => st_val hS84 rfl rfl rfl (r_move hS84 rfl rfl) fun a85 hS85 => ?_
    refine g_joinR 4 (fun a w95 => ∃ (g95 : Nat → Nat), Sl 86 a [(9, .slice A65 r48.length cap66), (10, .slice A71 r54.length cap72), (42, .bool t93)] ∧ RdS (kint .i64) w95 g95 C0 A65 cap66 r48 ∧ RdS (kint .i64) w95 g95 C0 A71 cap72 r54 ∧ Fr (fun q => (r0 ≤ q ∧ q < r0 + 2) ∨ (r1 ≤ q ∧ q < r1 + 2) ∨ N ≤ q) w g w95 g95) ?_ (fun hk => ?_)
    rotate_left
    · rcases Bool.eq_false_or_eq_true ((!r80)) with hb86 | hb86
      · have H := ite_t hb86 ht94
        have e96 := Option.some.inj H
        refine st_off hS85 (want_off hS85 rfl rfl rfl hb86) rfl rfl fun a97 hS97 => st_off hS97 (want_off hS97 rfl rfl rfl hb86) rfl rfl fun a98 hS98 => st_off hS98 (want_off hS98 rfl rfl rfl hb86) rfl rfl fun a99 hS99 => st_val hS99 rfl rfl rfl (r_pickT hS99 rfl rfl rfl hb86) fun a100 hS100 => hk _ _ ?_
        exact ⟨g83, hS100.re ⟨rfl, rfl, (by rw [← e96]; rfl), trivial⟩, h67, h73, hF⟩
      · have H := ite_f hb86 ht94
        obtain ⟨r102, hr103, H⟩ := bind_el H
        have e107 := Option.some.inj H
        refine st_valW hS85 (want_on hS85 rfl rfl rfl hb86) rfl rfl (r_move hS85 rfl rfl) fun a101 hS101 => ?_
        refine st_enterW hS101 (want_on hS101 rfl rfl rfl hb86) rfl rfl (r_call hS101 rfl rfl (by kernel_rfl)) (ref27_ascending.calls (C0 := C0) (p0 := r54) (g := g83) (N + 10)  h73 (fun q (hq : C0 q) => by have := hC0 q hq; omega) hr103) ?_
        rintro _ a104 w105 ⟨g105, rfl, F105⟩ hS104
        replace h67 := RdS.fr h67 F105 (by decide) (fun q (hq : C0 q) (hm : N + 10 ≤ q) => by have := hC0 q hq; omega)
        replace h73 := RdS.fr h73 F105 (by decide) (fun q (hq : C0 q) (hm : N + 10 ≤ q) => by have := hC0 q hq; omega)
        replace hF := hF.trans F105 (fun c' (hm : N + 10 ≤ c') => by show (r0 ≤ c' ∧ c' < r0 + 2) ∨ (r1 ≤ c' ∧ c' < r1 + 2) ∨ N ≤ c'; omega)
        refine st_valW hS104 (want_on hS104 rfl rfl rfl hb86) rfl rfl (r_not hS104 rfl rfl) fun a106 hS106 => ?_
        refine st_val hS106 rfl rfl rfl (r_pickF hS106 rfl rfl rfl hb86) fun a108 hS108 => hk _ _ ?_
        exact ⟨g105, hS108.re ⟨rfl, rfl, (by rw [← e107]; rfl), trivial⟩, h67, h73, hF⟩
    rintro a109 w95 ⟨g95, hS109, h67, h73, hF⟩
    refine wpList_nil (hK _ _ ?_)
    replace hS : Sl 86 _ [(9, .slice A65 r48.length cap66), (10, .slice A71 r54.length cap72), (42, .bool t93)] := hS109.re ⟨rfl, rfl, rfl, trivial⟩
    clear hK K
    try clear hS79 hS82 hS84 hS85 hS109
    obtain ⟨a, ha⟩ : ∃ a', a' = a109 := ⟨_, rfl⟩
    rw [← ha] at hS ⊢; clear ha
    refine c_cond hS rfl (fun hb110 => ?_) (fun hb110 => ?_)
    · replace H := ite_t hb110 H
      refine c_pure [(6, .slice none 0 0), (7, .slice none 0 0), (8, .int .i64 1)] (fun R hR => st_val hS rfl rfl rfl (r_assign hS rfl rfl) fun a111 hS111 => st_val hS111 rfl rfl rfl (r_assign hS111 rfl rfl) fun a112 hS112 => st_val hS112 rfl rfl rfl (r_assign hS112 rfl rfl) fun a113 hS113 => wpList_nil (hR _ (hS113.re ⟨rfl, rfl, rfl, trivial⟩))) ?_
      clear hS
      clear a
      intro a hS
      refine wp_ret ?_
      have e := Option.some.inj H
      subst e
      repeat (with_reducible first | refine then_ret ?_ | refine inBlock_ret ?_)
      exact c_ret3 hS Try.results22 rfl rfl rfl ⟨_, rfl, g95, none, 0, none, 0, rfl, OwS.nil (kint .i64) 3 w95 g95 r0, OwS.nil (kint .i64) 3 w95 g95 r1, hF⟩
    · replace H := ite_f hb110 H
      refine wp_skip ?_
      change Code.wp _ _ _ _ _
      refine c_pure [(9, .slice A65 r48.length cap66), (10, .slice A71 r54.length cap72), (11, .slice none 0 0), (12, .slice none 0 0)] (fun R hR => st_val hS rfl rfl rfl (r_assign hS rfl rfl) fun a114 hS114 => st_val hS114 rfl rfl rfl (r_assign hS114 rfl rfl) fun a115 hS115 => wpList_nil (hR _ (hS115.re ⟨rfl, rfl, rfl, rfl, trivial⟩))) ?_
      clear hS
      clear a
      intro a hS
      obtain ⟨v120, H, Hl122⟩ := bind_el H
      refine c_cut (fun a w116 => ∃ (g116 : Nat → Nat), ∃ (A117 : Option Addr), ∃ (cap118 : Nat), Sl 86 a [(9, .slice A65 r48.length cap66), (10, .slice A71 r54.length cap72), (11, .slice A117 v120.length cap118), (12, .slice none 0 0)] ∧ RdS (kint .i64) w116 g116 C0 A65 cap66 r48 ∧ RdS (kint .i64) w116 g116 C0 A71 cap72 r54 ∧ OwS (kint .i64) 3 w116 g116 (N + 4) A117 cap118 v120 ∧ Fr (fun q => (r0 ≤ q ∧ q < r0 + 2) ∨ (r1 ≤ q ∧ q < r1 + 2) ∨ N ≤ q) w g w116 g116) ?_ ?_
      · refine c_pure [(9, .slice A65 r48.length cap66), (10, .slice A71 r54.length cap72), (11, .slice none 0 0), (12, .slice none 0 0), (13, .int .i64 0)] (fun R hR => st_val hS rfl rfl rfl (r_assign hS rfl rfl) fun a123 hS123 => wpList_nil (hR _ (hS123.re ⟨rfl, rfl, rfl, rfl, rfl, trivial⟩))) ?_
        clear hS
        clear a
        intro a hS
        refine wp_block ?_
        refine wp_loop_ghost (fun kq => fun a w124 => ∃ (m0_0 : List Int), ∃ (m0_1 : Int), ∃ (g124 : Nat → Nat), ∃ (A125 : Option Addr), ∃ (cap126 : Nat), ref27_Change.l0 r48 r54 kq m0_0 m0_1 = some v120 ∧ Sl 86 a [(9, .slice A65 r48.length cap66), (10, .slice A71 r54.length cap72), (11, .slice A125 m0_0.length cap126), (12, .slice none 0 0), (13, .int .i64 m0_1)] ∧ RdS (kint .i64) w124 g124 C0 A65 cap66 r48 ∧ RdS (kint .i64) w124 g124 C0 A71 cap72 r54 ∧ OwS (kint .i64) 3 w124 g124 (N + 4) A125 cap126 m0_0 ∧ Fr (fun q => (r0 ≤ q ∧ q < r0 + 2) ∨ (r1 ≤ q ∧ q < r1 + 2) ∨ N ≤ q) w g w124 g124) FUEL ?_ ?_
        · exact ⟨[], 0, g95, none, 0, H, hS.re ⟨rfl, rfl, rfl, rfl, rfl, trivial⟩, h67, h73, OwS.nil (kint .i64) 3 w95 g95 (N + 4), hF⟩
        · clear H
          clear h67 h73 hF
          clear hS
          rintro k128 a w124 ⟨m0_0, m0_1, g124, A125, cap126, hpre0, hS, h67, h73, h127, hF⟩
          have H := hpre0
          clear hpre0
          cases k128 with
          | zero => exact absurd H (by simp [ref27_Change.l0])
          | succ k128 =>
            rw [ref27_Change.l0] at H
            refine wp_seq ?_
            refine c_pure [(9, .slice A65 r48.length cap66), (10, .slice A71 r54.length cap72), (11, .slice A125 m0_0.length cap126), (12, .slice none 0 0), (13, .int .i64 m0_1), (46, .bool (decide (m0_1 < (r54.length : Int))))] (fun R hR => st_val hS rfl rfl rfl (r_move hS rfl rfl) fun a129 hS129 => st_val hS129 rfl rfl rfl (r_move hS129 rfl rfl) fun a130 hS130 => st_val hS130 rfl rfl rfl (r_len (e := 3) (sz := 1) (by_ := 8) hS130 rfl rfl (by kernel_rfl)) fun a131 hS131 => st_val hS131 rfl rfl rfl (r_bin hS131 rfl rfl rfl b_lss) fun a132 hS132 => wpList_nil (hR _ (hS132.re ⟨rfl, rfl, rfl, rfl, rfl, rfl, trivial⟩))) ?_
            clear hS
            clear a
            intro a hS
            refine c_cond hS rfl (fun hb133 => ?_) (fun hb133 => ?_)
            · replace H := ite_t hb133 H
              refine wp_skip ?_
              change Code.wp _ _ _ _ _
              obtain ⟨v138, H, Hl140⟩ := bind_el H
              refine c_cut (fun a w134 => ∃ (g134 : Nat → Nat), ∃ (A135 : Option Addr), ∃ (cap136 : Nat), Sl 86 a [(9, .slice A65 r48.length cap66), (10, .slice A71 r54.length cap72), (11, .slice A135 v138.length cap136), (12, .slice none 0 0), (13, .int .i64 m0_1)] ∧ RdS (kint .i64) w134 g134 C0 A65 cap66 r48 ∧ RdS (kint .i64) w134 g134 C0 A71 cap72 r54 ∧ OwS (kint .i64) 3 w134 g134 (N + 4) A135 cap136 v138 ∧ Fr (fun q => (r0 ≤ q ∧ q < r0 + 2) ∨ (r1 ≤ q ∧ q < r1 + 2) ∨ N ≤ q) w g w134 g134) ?_ ?_
              · refine wp_block ?_
                obtain ⟨x144, hx145, H⟩ := bind_el H
                obtain ⟨r148, hr149, H⟩ := bind_el H
                refine c_region (fun K hK => ?_)
                refine st_val hS rfl rfl rfl (r_move hS rfl rfl) fun a141 hS141 => st_val hS141 rfl rfl rfl (r_move hS141 rfl rfl) fun a142 hS142 => st_val hS142 rfl rfl rfl (r_move hS142 rfl rfl) fun a143 hS143 => st_val hS143 rfl rfl rfl (r_index (e := 3) (sz := 1) (by_ := 8) hS143 rfl rfl rfl (by kernel_rfl) (RdS.some_ h73 hx145) (idx_lo hx145) (idx_hi hx145)) fun a146 hS146 => st_val hS146 rfl rfl rfl (r_load1 (n := 1) hS146 rfl rfl (by kernel_rfl) (RdS.cell (i := m0_1) (sz := 1) (j := 0) h73 hx145 rfl)) fun a147 hS147 => ?_
                refine st_enter hS147 rfl rfl rfl (r_call hS147 rfl rfl (by kernel_rfl)) (ref27_has.calls (C0 := C0) (p0 := r48) (p1 := x144) (g := g124) (N + 10)  h67 (fun q (hq : C0 q) => by have := hC0 q hq; omega) hr149) ?_
                rintro _ a150 w151 ⟨g151, rfl, F151⟩ hS150
                replace h67 := RdS.fr h67 F151 (by decide) (fun q (hq : C0 q) (hm : N + 10 ≤ q) => by have := hC0 q hq; omega)
                replace h73 := RdS.fr h73 F151 (by decide) (fun q (hq : C0 q) (hm : N + 10 ≤ q) => by have := hC0 q hq; omega)
                replace h127 := OwS.fr h127 F151 (fun c' hc (hm : N + 10 ≤ c') => by omega)
                replace hF := hF.trans F151 (fun c' (hm : N + 10 ≤ c') => by show (r0 ≤ c' ∧ c' < r0 + 2) ∨ (r1 ≤ c' ∧ c' < r1 + 2) ∨ N ≤ c'; omega)
                refine st_val hS150 rfl rfl rfl (r_not hS150 rfl rfl) fun a152 hS152 => wpList_nil (hK _ _ ?_)
                replace hS : Sl 86 _ [(9, .slice A65 r48.length cap66), (10, .slice A71 r54.length cap72), (11, .slice A125 m0_0.length cap126), (12, .slice none 0 0), (13, .int .i64 m0_1), (55, .bool (!r148))] := hS152.re ⟨rfl, rfl, rfl, rfl, rfl, rfl, trivial⟩
                clear hK K
                try clear hS141 hS142 hS143 hS146 hS147 hS150 hS152
                obtain ⟨a, ha⟩ : ∃ a', a' = a152 := ⟨_, rfl⟩
                rw [← ha] at hS ⊢; clear ha
                refine c_cond hS rfl (fun hb153 => ?_) (fun hb153 => ?_)
                · replace H := ite_t hb153 H
                  obtain ⟨y164, hy165, H⟩ := bind_el H
                  refine c_region1 (fun K hK => ?_)
                  refine st_val hS rfl rfl rfl (r_move hS rfl rfl) fun a154 hS154 => st_val hS154 rfl rfl rfl (r_move hS154 rfl rfl) fun a155 hS155 => st_val hS155 rfl rfl rfl (r_move hS155 rfl rfl) fun a156 hS156 => st_val hS156 rfl rfl rfl (r_index (e := 3) (sz := 1) (by_ := 8) hS156 rfl rfl rfl (by kernel_rfl) (RdS.some_ h73 hx145) (idx_lo hx145) (idx_hi hx145)) fun a157 hS157 => st_val hS157 rfl rfl rfl (r_load1 (n := 1) hS157 rfl rfl (by kernel_rfl) (RdS.cell (i := m0_1) (sz := 1) (j := 0) h73 hx145 rfl)) fun a158 hS158 => ?_
                  refine st_eff hS158 rfl rfl rfl (e_lit (e := 3) (parts := [(0, .int .i64 x144)]) (cs := [.int .i64 x144]) (kint .i64) [x144] (N + 2) g151 hS158 rfl rfl (fun _ => by kernel_rfl) rfl (by decide) (Rows.cons (cs := [.int .i64 x144]) rfl Rows.nil)) ?_
                  rintro _ a162 w163 g163 ⟨⟨A159, rfl, h160⟩, F163⟩ hS162
                  replace h67 := RdS.fr h67 F163 (by decide) (fun _ _ h => h)
                  replace h73 := RdS.fr h73 F163 (by decide) (fun _ _ h => h)
                  replace h127 := OwS.fr h127 F163 (fun _ _ h => h)
                  replace hF := hF.trans F163 (fun _ h => h.elim)
                  refine st_eff hS162 rfl rfl rfl (e_append (e := 3) (sz := 1) (by_ := 8) (z := [.int .i64 0]) (kd := (kint .i64)) g163 hS162 rfl rfl rfl rfl (by kernel_rfl) (by kernel_rfl) rfl rfl rfl rfl h127 (OwD.rdx h160) (fun _ _ _ h => h) hy165) ?_
                  rintro _ a170 w171 g171 ⟨⟨A166, cap167, rfl, h168⟩, F171⟩ hS170
                  replace h160 := OwS.fr h160 F171 (fun c' hc (hm : c' = N + 4) => by omega)
                  replace h67 := RdS.fr h67 F171 (by decide) (fun q (hq : C0 q) (hm : q = N + 4) => by have := hC0 q hq; omega)
                  replace h73 := RdS.fr h73 F171 (by decide) (fun q (hq : C0 q) (hm : q = N + 4) => by have := hC0 q hq; omega)
                  replace hF := hF.trans F171 (fun c' (hm : c' = N + 4) => by show (r0 ≤ c' ∧ c' < r0 + 2) ∨ (r1 ≤ c' ∧ c' < r1 + 2) ∨ N ≤ c'; omega)
                  refine st_val hS170 rfl rfl rfl (r_assign hS170 rfl rfl) fun a172 hS172 => wpList_nil (hK _ _ ?_)
                  replace hS : Sl 86 _ [(9, .slice A65 r48.length cap66), (10, .slice A71 r54.length cap72), (11, .slice A166 y164.length cap167), (12, .slice none 0 0), (13, .int .i64 m0_1)] := hS172.re ⟨rfl, rfl, rfl, rfl, rfl, trivial⟩
                  clear hK K
                  try clear hS154 hS155 hS156 hS157 hS158 hS162 hS170 hS172
                  obtain ⟨a, ha⟩ : ∃ a', a' = a172 := ⟨_, rfl⟩
                  rw [← ha] at hS ⊢; clear ha
                  have e := Option.some.inj H
                  subst e
                  exact ⟨g171, A166, cap167, hS.re ⟨rfl, rfl, rfl, rfl, rfl, trivial⟩, h67, h73, h168, hF⟩
                · replace H := ite_f hb153 H
                  refine wp_skip ?_
                  have e := Option.some.inj H
                  subst e
                  exact ⟨g151, A125, cap126, hS.re ⟨rfl, rfl, rfl, rfl, rfl, trivial⟩, h67, h73, h127, hF⟩
              · clear H
                clear h67 h73 h127 hF
                clear hS
                rintro a w134 ⟨g134, A135, cap136, hS, h67, h73, h137, hF⟩
                have H := Hl140
                clear Hl140
                refine c_pure1 [(9, .slice A65 r48.length cap66), (10, .slice A71 r54.length cap72), (11, .slice A135 v138.length cap136), (12, .slice none 0 0), (13, .int .i64 (wi (m0_1 + 1)))] (fun R hR => st_val hS rfl rfl rfl (r_move hS rfl rfl) fun a173 hS173 => st_val hS173 rfl rfl rfl (r_bin hS173 rfl rfl rfl b_add) fun a174 hS174 => st_val hS174 rfl rfl rfl (r_assign hS174 rfl rfl) fun a175 hS175 => wpList_nil (hR _ (hS175.re ⟨rfl, rfl, rfl, rfl, rfl, trivial⟩))) ?_
                clear hS
                clear a
                intro a hS
                refine ⟨k128, Nat.lt_succ_self _, ?_⟩
                exact ⟨v138, wi (m0_1 + 1), g134, A135, cap136, H, hS.re ⟨rfl, rfl, rfl, rfl, rfl, trivial⟩, h67, h73, h137, hF⟩
            · replace H := ite_f hb133 H
              refine wp_exit ?_
              have e := Option.some.inj H
              subst e
              exact ⟨g124, A125, cap126, hS.re ⟨rfl, rfl, rfl, rfl, trivial⟩, h67, h73, h127, hF⟩
      · clear H
        clear h67 h73 hF
        clear hS
        rintro a w116 ⟨g116, A117, cap118, hS, h67, h73, h119, hF⟩
        have H := Hl122
        clear Hl122
        obtain ⟨v180, H, Hl182⟩ := bind_el H
        refine c_cut (fun a w176 => ∃ (g176 : Nat → Nat), ∃ (A177 : Option Addr), ∃ (cap178 : Nat), Sl 86 a [(11, .slice A117 v120.length cap118), (12, .slice A177 v180.length cap178)] ∧ OwS (kint .i64) 3 w176 g176 (N + 4) A117 cap118 v120 ∧ OwS (kint .i64) 3 w176 g176 (N + 8) A177 cap178 v180 ∧ Fr (fun q => (r0 ≤ q ∧ q < r0 + 2) ∨ (r1 ≤ q ∧ q < r1 + 2) ∨ N ≤ q) w g w176 g176) ?_ ?_
        · refine c_pure [(9, .slice A65 r48.length cap66), (10, .slice A71 r54.length cap72), (11, .slice A117 v120.length cap118), (12, .slice none 0 0), (14, .int .i64 (wi ((r48.length : Int) - 1)))] (fun R hR => st_val hS rfl rfl rfl (r_move hS rfl rfl) fun a183 hS183 => st_val hS183 rfl rfl rfl (r_len (e := 3) (sz := 1) (by_ := 8) hS183 rfl rfl (by kernel_rfl)) fun a184 hS184 => st_val hS184 rfl rfl rfl (r_bin hS184 rfl rfl rfl b_sub) fun a185 hS185 => st_val hS185 rfl rfl rfl (r_assign hS185 rfl rfl) fun a186 hS186 => wpList_nil (hR _ (hS186.re ⟨rfl, rfl, rfl, rfl, rfl, trivial⟩))) ?_
          clear hS
          clear a
          intro a hS
          refine wp_block ?_
          refine wp_loop_ghost (fun kq => fun a w187 => ∃ (m1_0 : List Int), ∃ (m1_1 : Int), ∃ (g187 : Nat → Nat), ∃ (A188 : Option Addr), ∃ (cap189 : Nat), ref27_Change.l1 r48 r54 kq m1_0 m1_1 = some v180 ∧ Sl 86 a [(9, .slice A65 r48.length cap66), (10, .slice A71 r54.length cap72), (11, .slice A117 v120.length cap118), (12, .slice A188 m1_0.length cap189), (14, .int .i64 m1_1)] ∧ RdS (kint .i64) w187 g187 C0 A65 cap66 r48 ∧ RdS (kint .i64) w187 g187 C0 A71 cap72 r54 ∧ OwS (kint .i64) 3 w187 g187 (N + 4) A117 cap118 v120 ∧ OwS (kint .i64) 3 w187 g187 (N + 8) A188 cap189 m1_0 ∧ Fr (fun q => (r0 ≤ q ∧ q < r0 + 2) ∨ (r1 ≤ q ∧ q < r1 + 2) ∨ N ≤ q) w g w187 g187) FUEL ?_ ?_
          · exact ⟨[], wi ((r48.length : Int) - 1), g116, none, 0, H, hS.re ⟨rfl, rfl, rfl, rfl, rfl, trivial⟩, h67, h73, h119, OwS.nil (kint .i64) 3 w116 g116 (N + 8), hF⟩
          · clear H
            clear h67 h73 h119 hF
            clear hS
            rintro k191 a w187 ⟨m1_0, m1_1, g187, A188, cap189, hpre0, hS, h67, h73, h119, h190, hF⟩
            have H := hpre0
            clear hpre0
            cases k191 with
            | zero => exact absurd H (by simp [ref27_Change.l1])
            | succ k191 =>
              rw [ref27_Change.l1] at H
              refine wp_seq ?_
              refine c_pure [(9, .slice A65 r48.length cap66), (10, .slice A71 r54.length cap72), (11, .slice A117 v120.length cap118), (12, .slice A188 m1_0.length cap189), (14, .int .i64 m1_1), (67, .bool (decide (0 ≤ m1_1)))] (fun R hR => st_val hS rfl rfl rfl (r_move hS rfl rfl) fun a192 hS192 => st_val hS192 rfl rfl rfl (r_bin hS192 rfl rfl rfl b_geq) fun a193 hS193 => wpList_nil (hR _ (hS193.re ⟨rfl, rfl, rfl, rfl, rfl, rfl, trivial⟩))) ?_
              clear hS
              clear a
              intro a hS
              refine c_cond hS rfl (fun hb194 => ?_) (fun hb194 => ?_)
              · replace H := ite_t hb194 H
                refine wp_skip ?_
                change Code.wp _ _ _ _ _
                obtain ⟨v199, H, Hl201⟩ := bind_el H
                refine c_cut (fun a w195 => ∃ (g195 : Nat → Nat), ∃ (A196 : Option Addr), ∃ (cap197 : Nat), Sl 86 a [(9, .slice A65 r48.length cap66), (10, .slice A71 r54.length cap72), (11, .slice A117 v120.length cap118), (12, .slice A196 v199.length cap197), (14, .int .i64 m1_1)] ∧ RdS (kint .i64) w195 g195 C0 A65 cap66 r48 ∧ RdS (kint .i64) w195 g195 C0 A71 cap72 r54 ∧ OwS (kint .i64) 3 w195 g195 (N + 4) A117 cap118 v120 ∧ OwS (kint .i64) 3 w195 g195 (N + 8) A196 cap197 v199 ∧ Fr (fun q => (r0 ≤ q ∧ q < r0 + 2) ∨ (r1 ≤ q ∧ q < r1 + 2) ∨ N ≤ q) w g w195 g195) ?_ ?_
                · refine wp_block ?_
                  obtain ⟨x205, hx206, H⟩ := bind_el H
                  obtain ⟨r209, hr210, H⟩ := bind_el H
                  refine c_region (fun K hK => ?_)
                  refine st_val hS rfl rfl rfl (r_move hS rfl rfl) fun a202 hS202 => st_val hS202 rfl rfl rfl (r_move hS202 rfl rfl) fun a203 hS203 => st_val hS203 rfl rfl rfl (r_move hS203 rfl rfl) fun a204 hS204 => st_val hS204 rfl rfl rfl (r_index (e := 3) (sz := 1) (by_ := 8) hS204 rfl rfl rfl (by kernel_rfl) (RdS.some_ h67 hx206) (idx_lo hx206) (idx_hi hx206)) fun a207 hS207 => st_val hS207 rfl rfl rfl (r_load1 (n := 1) hS207 rfl rfl (by kernel_rfl) (RdS.cell (i := m1_1) (sz := 1) (j := 0) h67 hx206 rfl)) fun a208 hS208 => ?_
                  refine st_enter hS208 rfl rfl rfl (r_call hS208 rfl rfl (by kernel_rfl)) (ref27_has.calls (C0 := C0) (p0 := r54) (p1 := x205) (g := g187) (N + 10)  h73 (fun q (hq : C0 q) => by have := hC0 q hq; omega) hr210) ?_
                  rintro _ a211 w212 ⟨g212, rfl, F212⟩ hS211
                  replace h67 := RdS.fr h67 F212 (by decide) (fun q (hq : C0 q) (hm : N + 10 ≤ q) => by have := hC0 q hq; omega)
                  replace h73 := RdS.fr h73 F212 (by decide) (fun q (hq : C0 q) (hm : N + 10 ≤ q) => by have := hC0 q hq; omega)
                  replace h119 := OwS.fr h119 F212 (fun c' hc (hm : N + 10 ≤ c') => by omega)
                  replace h190 := OwS.fr h190 F212 (fun c' hc (hm : N + 10 ≤ c') => by omega)
                  replace hF := hF.trans F212 (fun c' (hm : N + 10 ≤ c') => by show (r0 ≤ c' ∧ c' < r0 + 2) ∨ (r1 ≤ c' ∧ c' < r1 + 2) ∨ N ≤ c'; omega)
                  refine st_val hS211 rfl rfl rfl (r_not hS211 rfl rfl) fun a213 hS213 => wpList_nil (hK _ _ ?_)
                  replace hS : Sl 86 _ [(9, .slice A65 r48.length cap66), (10, .slice A71 r54.length cap72), (11, .slice A117 v120.length cap118), (12, .slice A188 m1_0.length cap189), (14, .int .i64 m1_1), (76, .bool (!r209))] := hS213.re ⟨rfl, rfl, rfl, rfl, rfl, rfl, trivial⟩
                  clear hK K
                  try clear hS202 hS203 hS204 hS207 hS208 hS211 hS213
                  obtain ⟨a, ha⟩ : ∃ a', a' = a213 := ⟨_, rfl⟩
                  rw [← ha] at hS ⊢; clear ha
                  refine c_cond hS rfl (fun hb214 => ?_) (fun hb214 => ?_)
                  · replace H := ite_t hb214 H
                    obtain ⟨y225, hy226, H⟩ := bind_el H
                    refine c_region1 (fun K hK => ?_)
                    refine st_val hS rfl rfl rfl (r_move hS rfl rfl) fun a215 hS215 => st_val hS215 rfl rfl rfl (r_move hS215 rfl rfl) fun a216 hS216 => st_val hS216 rfl rfl rfl (r_move hS216 rfl rfl) fun a217 hS217 => st_val hS217 rfl rfl rfl (r_index (e := 3) (sz := 1) (by_ := 8) hS217 rfl rfl rfl (by kernel_rfl) (RdS.some_ h67 hx206) (idx_lo hx206) (idx_hi hx206)) fun a218 hS218 => st_val hS218 rfl rfl rfl (r_load1 (n := 1) hS218 rfl rfl (by kernel_rfl) (RdS.cell (i := m1_1) (sz := 1) (j := 0) h67 hx206 rfl)) fun a219 hS219 => ?_
                    refine st_eff hS219 rfl rfl rfl (e_lit (e := 3) (parts := [(0, .int .i64 x205)]) (cs := [.int .i64 x205]) (kint .i64) [x205] (N + 6) g212 hS219 rfl rfl (fun _ => by kernel_rfl) rfl (by decide) (Rows.cons (cs := [.int .i64 x205]) rfl Rows.nil)) ?_
                    rintro _ a223 w224 g224 ⟨⟨A220, rfl, h221⟩, F224⟩ hS223
                    replace h67 := RdS.fr h67 F224 (by decide) (fun _ _ h => h)
                    replace h73 := RdS.fr h73 F224 (by decide) (fun _ _ h => h)
                    replace h119 := OwS.fr h119 F224 (fun _ _ h => h)
                    replace h190 := OwS.fr h190 F224 (fun _ _ h => h)
                    replace hF := hF.trans F224 (fun _ h => h.elim)
                    refine st_eff hS223 rfl rfl rfl (e_append (e := 3) (sz := 1) (by_ := 8) (z := [.int .i64 0]) (kd := (kint .i64)) g224 hS223 rfl rfl rfl rfl (by kernel_rfl) (by kernel_rfl) rfl rfl rfl rfl h190 (OwD.rdx h221) (fun _ _ _ h => h) hy226) ?_
                    rintro _ a231 w232 g232 ⟨⟨A227, cap228, rfl, h229⟩, F232⟩ hS231
                    replace h221 := OwS.fr h221 F232 (fun c' hc (hm : c' = N + 8) => by omega)
                    replace h67 := RdS.fr h67 F232 (by decide) (fun q (hq : C0 q) (hm : q = N + 8) => by have := hC0 q hq; omega)
                    replace h73 := RdS.fr h73 F232 (by decide) (fun q (hq : C0 q) (hm : q = N + 8) => by have := hC0 q hq; omega)
                    replace h119 := OwS.fr h119 F232 (fun c' hc (hm : c' = N + 8) => by omega)
                    replace hF := hF.trans F232 (fun c' (hm : c' = N + 8) => by show (r0 ≤ c' ∧ c' < r0 + 2) ∨ (r1 ≤ c' ∧ c' < r1 + 2) ∨ N ≤ c'; omega)
                    refine st_val hS231 rfl rfl rfl (r_assign hS231 rfl rfl) fun a233 hS233 => wpList_nil (hK _ _ ?_)
                    replace hS : Sl 86 _ [(9, .slice A65 r48.length cap66), (10, .slice A71 r54.length cap72), (11, .slice A117 v120.length cap118), (12, .slice A227 y225.length cap228), (14, .int .i64 m1_1)] := hS233.re ⟨rfl, rfl, rfl, rfl, rfl, trivial⟩
                    clear hK K
                    try clear hS215 hS216 hS217 hS218 hS219 hS223 hS231 hS233
                    obtain ⟨a, ha⟩ : ∃ a', a' = a233 := ⟨_, rfl⟩
                    rw [← ha] at hS ⊢; clear ha
                    have e := Option.some.inj H
                    subst e
                    exact ⟨g232, A227, cap228, hS.re ⟨rfl, rfl, rfl, rfl, rfl, trivial⟩, h67, h73, h119, h229, hF⟩
                  · replace H := ite_f hb214 H
                    refine wp_skip ?_
                    have e := Option.some.inj H
                    subst e
                    exact ⟨g212, A188, cap189, hS.re ⟨rfl, rfl, rfl, rfl, rfl, trivial⟩, h67, h73, h119, h190, hF⟩
                · clear H
                  clear h67 h73 h119 h190 hF
                  clear hS
                  rintro a w195 ⟨g195, A196, cap197, hS, h67, h73, h119, h198, hF⟩
                  have H := Hl201
                  clear Hl201
                  refine c_pure1 [(9, .slice A65 r48.length cap66), (10, .slice A71 r54.length cap72), (11, .slice A117 v120.length cap118), (12, .slice A196 v199.length cap197), (14, .int .i64 (wi (m1_1 - 1)))] (fun R hR => st_val hS rfl rfl rfl (r_move hS rfl rfl) fun a234 hS234 => st_val hS234 rfl rfl rfl (r_bin hS234 rfl rfl rfl b_sub) fun a235 hS235 => st_val hS235 rfl rfl rfl (r_assign hS235 rfl rfl) fun a236 hS236 => wpList_nil (hR _ (hS236.re ⟨rfl, rfl, rfl, rfl, rfl, trivial⟩))) ?_
                  clear hS
                  clear a
                  intro a hS
                  refine ⟨k191, Nat.lt_succ_self _, ?_⟩
                  exact ⟨v199, wi (m1_1 - 1), g195, A196, cap197, H, hS.re ⟨rfl, rfl, rfl, rfl, rfl, trivial⟩, h67, h73, h119, h198, hF⟩
              · replace H := ite_f hb194 H
                refine wp_exit ?_
                have e := Option.some.inj H
                subst e
                exact ⟨g187, A188, cap189, hS.re ⟨rfl, rfl, trivial⟩, h119, h190, hF⟩
        · clear H
          clear h67 h73 h119 hF
          clear hS
          rintro a w176 ⟨g176, A177, cap178, hS, h119, h179, hF⟩
          have H := Hl182
          clear Hl182
          refine c_pure [(6, .slice A117 v120.length cap118), (7, .slice A177 v180.length cap178), (8, .int .i64 0)] (fun R hR => st_val hS rfl rfl rfl (r_move hS rfl rfl) fun a237 hS237 => st_val hS237 rfl rfl rfl (r_move hS237 rfl rfl) fun a238 hS238 => st_val hS238 rfl rfl rfl (r_assign hS238 rfl rfl) fun a239 hS239 => st_val hS239 rfl rfl rfl (r_assign hS239 rfl rfl) fun a240 hS240 => st_val hS240 rfl rfl rfl (r_assign hS240 rfl rfl) fun a241 hS241 => wpList_nil (hR _ (hS241.re ⟨rfl, rfl, rfl, trivial⟩))) ?_
          clear hS
          clear a
          intro a hS
          refine wp_ret ?_
          have e := Option.some.inj H
          subst e
          have F242 := Fr.recol2 w176 g176 (N + 4) r0
          replace h119 := h119.recol2 r0
          replace h179 := OwS.fr h179 F242 (fun c' hc (hm : c' = N + 4 ∨ c' = N + 4 + 1) => by omega)
          replace hF := hF.trans F242 (fun c' (hm : c' = N + 4 ∨ c' = N + 4 + 1) => by show (r0 ≤ c' ∧ c' < r0 + 2) ∨ (r1 ≤ c' ∧ c' < r1 + 2) ∨ N ≤ c'; omega)
          have F243 := Fr.recol2 w176 (recol2 g176 (N + 4) r0) (N + 8) r1
          replace h179 := h179.recol2 r1
          replace h119 := OwS.fr h119 F243 (fun c' hc (hm : c' = N + 8 ∨ c' = N + 8 + 1) => by omega)
          replace hF := hF.trans F243 (fun c' (hm : c' = N + 8 ∨ c' = N + 8 + 1) => by show (r0 ≤ c' ∧ c' < r0 + 2) ∨ (r1 ≤ c' ∧ c' < r1 + 2) ∨ N ≤ c'; omega)
          repeat (with_reducible first | refine then_ret ?_ | refine inBlock_ret ?_)
          exact c_ret3 hS Try.results22 rfl rfl rfl ⟨_, rfl, (recol2 (recol2 g176 (N + 4) r0) (N + 8) r1), A117, cap118, A177, cap178, rfl, h119, h179, hF⟩

/-! ### help_Equal_int: function 23 -/
def help_Equal_int.l0 (p0 : List Int) (p1 : List Int) : Nat → Int → Option (Fl (Bool) (Unit))
  | 0, _ => none
  | k15 + 1, m0_0 => if decide (m0_0 < (p0.length : Int)) = true then ((idx p0 m0_0).bind fun x24 => (idx p1 m0_0).bind fun x30 => if (x24 != x30) = true then (some (.out false)) else (help_Equal_int.l0 p0 p1 k15 (wi (m0_0 + 1)))) else (some (.nxt ()))
def help_Equal_int.f (p0 : List Int) (p1 : List Int) : Option (Bool) := if ((p0.length : Int) != (p1.length : Int)) = true then (some false) else ((help_Equal_int.l0 p0 p1 FUEL 0 : Option (Fl (Bool) (Unit))).bind fun o11 => o11.go fun _ => some true)
set_option maxRecDepth 100000 in
set_option maxHeartbeats 4000000 in
theorem help_Equal_int.calls {p0 : List Int} {A0 : Option Addr} {cap0 : Nat} {C0 : Nat → Prop} {p1 : List Int} {A1 : Option Addr} {cap1 : Nat} {C1 : Nat → Prop} {w : World} {g : Nat → Nat} {out : Bool} (N : Nat) (hp0 : RdS (kint .i64) w g C0 A0 cap0 p0) (hC0 : ∀ c, C0 c → c < N) (hp1 : RdS (kint .i64) w g C1 A1 cap1 p1) (hC1 : ∀ c, C1 c → c < N) (H : help_Equal_int.f p0 p1 = some out) :
    Calls Try.prog 23 #[.slice A0 p0.length cap0, .slice A1 p1.length cap1] w (fun e w' => ∃ v, e = .returned v ∧ ∃ (g' : Nat → Nat), v = .bool out ∧ Fr (fun q => N ≤ q) w g w' g') := by
  unfold help_Equal_int.f at H
  refine calls_enter Try.func23 rfl Try.ntmps23 rfl (fun a hS => ?_)
  replace hS : Sl 26 a [(0, .slice A0 p0.length cap0), (1, .slice A1 p1.length cap1)] := hS
  have hF : Fr (fun q => N ≤ q) w g w g := Fr.refl _ _ _
  refine c_pure [(0, .slice A0 p0.length cap0), (1, .slice A1 p1.length cap1)] (fun R hR => st_val hS rfl rfl rfl (r_assign hS rfl rfl) fun a1 hS1 => wpList_nil (hR _ (hS1.re ⟨rfl, rfl, trivial⟩))) ?_
  clear hS
  clear a
  intro a hS
  refine wp_seq ?_
  refine c_pure [(0, .slice A0 p0.length cap0), (1, .slice A1 p1.length cap1), (10, .bool ((p0.length : Int) != (p1.length : Int)))] (fun R hR => st_val hS rfl rfl rfl (r_move hS rfl rfl) fun a2 hS2 => st_val hS2 rfl rfl rfl (r_len (e := 3) (sz := 1) (by_ := 8) hS2 rfl rfl (by kernel_rfl)) fun a3 hS3 => st_val hS3 rfl rfl rfl (r_move hS3 rfl rfl) fun a4 hS4 => st_val hS4 rfl rfl rfl (r_len (e := 3) (sz := 1) (by_ := 8) hS4 rfl rfl (by kernel_rfl)) fun a5 hS5 => st_val hS5 rfl rfl rfl (r_bin hS5 rfl rfl rfl b_neq) fun a6 hS6 => wpList_nil (hR _ (hS6.re ⟨rfl, rfl, rfl, trivial⟩))) ?_
  clear hS
  clear a
  intro a hS
  refine c_cond hS rfl (fun hb7 => ?_) (fun hb7 => ?_)
  · replace H := ite_t hb7 H
    refine c_pure [(4, .bool false)] (fun R hR => st_val hS rfl rfl rfl (r_assign hS rfl rfl) fun a8 hS8 => wpList_nil (hR _ (hS8.re ⟨rfl, trivial⟩))) ?_
    clear hS
    clear a
    intro a hS
    refine wp_ret ?_
    have e := Option.some.inj H
    subst e
    repeat (with_reducible first | refine then_ret ?_ | refine inBlock_ret ?_)
    exact c_ret1 hS Try.results23 rfl ⟨_, rfl, g, rfl, hF⟩
  · replace H := ite_f hb7 H
    refine wp_skip ?_
    change Code.wp _ _ _ _ _
    obtain ⟨o11, H, Hl12⟩ := bind_el H
    refine c_cut (fun a w9 => ∃ (g9 : Nat → Nat), o11 = .nxt () ∧ Sl 26 a [] ∧ Fr (fun q => N ≤ q) w g w9 g9) ?_ ?_
    · refine c_pure [(0, .slice A0 p0.length cap0), (1, .slice A1 p1.length cap1), (5, .int .i64 0)] (fun R hR => st_val hS rfl rfl rfl (r_assign hS rfl rfl) fun a13 hS13 => wpList_nil (hR _ (hS13.re ⟨rfl, rfl, rfl, trivial⟩))) ?_
      clear hS
      clear a
      intro a hS
      refine wp_block ?_
      refine wp_loop_ghost (fun kq => fun a w14 => ∃ (m0_0 : Int), ∃ (g14 : Nat → Nat), help_Equal_int.l0 p0 p1 kq m0_0 = some o11 ∧ Sl 26 a [(0, .slice A0 p0.length cap0), (1, .slice A1 p1.length cap1), (5, .int .i64 m0_0)] ∧ RdS (kint .i64) w14 g14 C0 A0 cap0 p0 ∧ RdS (kint .i64) w14 g14 C1 A1 cap1 p1 ∧ Fr (fun q => N ≤ q) w g w14 g14) FUEL ?_ ?_
      · exact ⟨0, g, H, hS.re ⟨rfl, rfl, rfl, trivial⟩, hp0, hp1, hF⟩
      · clear H
        clear hp0 hp1 hF
        clear hS
        rintro k15 a w14 ⟨m0_0, g14, hpre0, hS, hp0, hp1, hF⟩
        have H := hpre0
        clear hpre0
        cases k15 with
        | zero => exact absurd H (by simp [help_Equal_int.l0])
        | succ k15 =>
          rw [help_Equal_int.l0] at H
          refine wp_seq ?_
          refine c_pure [(0, .slice A0 p0.length cap0), (1, .slice A1 p1.length cap1), (5, .int .i64 m0_0), (14, .bool (decide (m0_0 < (p0.length : Int))))] (fun R hR => st_val hS rfl rfl rfl (r_move hS rfl rfl) fun a16 hS16 => st_val hS16 rfl rfl rfl (r_move hS16 rfl rfl) fun a17 hS17 => st_val hS17 rfl rfl rfl (r_len (e := 3) (sz := 1) (by_ := 8) hS17 rfl rfl (by kernel_rfl)) fun a18 hS18 => st_val hS18 rfl rfl rfl (r_bin hS18 rfl rfl rfl b_lss) fun a19 hS19 => wpList_nil (hR _ (hS19.re ⟨rfl, rfl, rfl, rfl, trivial⟩))) ?_
          clear hS
          clear a
          intro a hS
          refine c_cond hS rfl (fun hb20 => ?_) (fun hb20 => ?_)
          · replace H := ite_t hb20 H
            refine wp_skip ?_
            change Code.wp _ _ _ _ _
            refine wp_seq ?_
            refine wp_block ?_
            obtain ⟨x24, hx25, H⟩ := bind_el H
            obtain ⟨x30, hx31, H⟩ := bind_el H
            refine c_draw (fun K hK => d_start (fun q => False) g14 [] 9 #[false, false, false, false, false, false, false, false, false] (by kernel_rfl) rfl rfl (fun w21 hw21 => ?_))
            have F21 : Fr (fun _ => False) w14 g14 w21 g14 := by rw [hw21]; exact Fr.drew _ _ _
            replace hp0 := RdS.fr hp0 F21 (by decide) (fun _ _ h => h)
            replace hp1 := RdS.fr hp1 F21 (by decide) (fun _ _ h => h)
            replace hF := hF.trans F21 (fun _ h => h.elim)
            have hC : Fr (fun q => False) w21 g14 w21 g14 := Fr.refl _ _ _
            refine d_pure hS 0 #[true, false, false, false, false, false, false, false, false] rfl rfl rfl rfl (by kernel_rfl) (fun _ _ _ h => h) (fun _ => (r_move hS rfl rfl)) fun a22 hS22 => d_pure hS22 1 #[true, true, false, false, false, false, false, false, false] rfl rfl rfl rfl (by kernel_rfl) (fun _ _ _ h => h) (fun _ => (r_move hS22 rfl rfl)) fun a23 hS23 => d_pure hS23 2 #[true, true, true, false, false, false, false, false, false] rfl rfl rfl rfl (by kernel_rfl) (fun _ _ _ h => h) (fun _ => (r_index (e := 3) (sz := 1) (by_ := 8) hS23 rfl rfl rfl (by kernel_rfl) (RdS.some_ hp0 hx25) (idx_lo hx25) (idx_hi hx25))) fun a26 hS26 => d_take hS26 3 #[true, true, true, true, false, false, false, false, false] rfl rfl rfl rfl (by kernel_rfl) (fun _ _ _ h => h) ⟨_, hC⟩ (fun w' g' Fz => (r_load1 (n := 1) hS26 rfl rfl (by kernel_rfl) (RdS.cell (i := m0_0) (sz := 1) (j := 0) (RdS.fr hp0 Fz (by decide) (fun _ _ h => h)) hx25 rfl))) fun a27 hS27 => d_pure hS27 4 #[true, true, true, true, true, false, false, false, false] rfl rfl rfl rfl (by kernel_rfl) (fun _ _ _ h => h) (fun _ => (r_move hS27 rfl rfl)) fun a28 hS28 => d_pure hS28 5 #[true, true, true, true, true, true, false, false, false] rfl rfl rfl rfl (by kernel_rfl) (fun _ _ _ h => h) (fun _ => (r_move hS28 rfl rfl)) fun a29 hS29 => d_pure hS29 6 #[true, true, true, true, true, true, true, false, false] rfl rfl rfl rfl (by kernel_rfl) (fun _ _ _ h => h) (fun _ => (r_index (e := 3) (sz := 1) (by_ := 8) hS29 rfl rfl rfl (by kernel_rfl) (RdS.some_ hp1 hx31) (idx_lo hx31) (idx_hi hx31))) fun a32 hS32 => d_take hS32 7 #[true, true, true, true, true, true, true, true, false] rfl rfl rfl rfl (by kernel_rfl) (fun _ _ _ h => h) ⟨_, hC⟩ (fun w' g' Fz => (r_load1 (n := 1) hS32 rfl rfl (by kernel_rfl) (RdS.cell (i := m0_0) (sz := 1) (j := 0) (RdS.fr hp1 Fz (by decide) (fun _ _ h => h)) hx31 rfl))) fun a33 hS33 => d_pure hS33 8 #[true, true, true, true, true, true, true, true, true] rfl rfl rfl rfl (by kernel_rfl) (fun _ _ _ h => h) (fun _ => (r_bin hS33 rfl rfl rfl b_neq)) fun a34 hS34 => d_done (by kernel_rfl) (hK _ _ ?_)
            replace hS : Sl 26 _ [(0, .slice A0 p0.length cap0), (1, .slice A1 p1.length cap1), (5, .int .i64 m0_0), (25, .bool (x24 != x30))] := hS34.re ⟨rfl, rfl, rfl, rfl, trivial⟩
            clear hK K hC
            try clear hS22 hS23 hS26 hS27 hS28 hS29 hS32 hS33 hS34
            obtain ⟨a, ha⟩ : ∃ a', a' = a34 := ⟨_, rfl⟩
            rw [← ha] at hS ⊢; clear ha
            refine c_cond hS rfl (fun hb35 => ?_) (fun hb35 => ?_)
            · replace H := ite_t hb35 H
              refine c_pure [(4, .bool false)] (fun R hR => st_val hS rfl rfl rfl (r_assign hS rfl rfl) fun a36 hS36 => wpList_nil (hR _ (hS36.re ⟨rfl, trivial⟩))) ?_
              clear hS
              clear a
              intro a hS
              refine wp_ret ?_
              have e := Option.some.inj H
              subst e
              replace H := Fl.go_out Hl12
              have e := Option.some.inj H
              subst e
              repeat (with_reducible first | refine then_ret ?_ | refine inBlock_ret ?_)
              exact c_ret1 hS Try.results23 rfl ⟨_, rfl, g14, rfl, hF⟩
            · replace H := ite_f hb35 H
              refine wp_skip ?_
              change Code.wp _ _ _ _ _
              refine c_pure1 [(0, .slice A0 p0.length cap0), (1, .slice A1 p1.length cap1), (5, .int .i64 (wi (m0_0 + 1)))] (fun R hR => st_val hS rfl rfl rfl (r_move hS rfl rfl) fun a37 hS37 => st_val hS37 rfl rfl rfl (r_bin hS37 rfl rfl rfl b_add) fun a38 hS38 => st_val hS38 rfl rfl rfl (r_assign hS38 rfl rfl) fun a39 hS39 => wpList_nil (hR _ (hS39.re ⟨rfl, rfl, rfl, trivial⟩))) ?_
              clear hS
              clear a
              intro a hS
              refine ⟨k15, Nat.lt_succ_self _, ?_⟩
              exact ⟨wi (m0_0 + 1), g14, H, hS.re ⟨rfl, rfl, rfl, trivial⟩, hp0, hp1, hF⟩
          · replace H := ite_f hb20 H
            refine wp_exit ?_
            have e := Option.some.inj H
            exact ⟨g14, e.symm, hS.re trivial, hF⟩
    · clear H
      clear hp0 hp1 hF
      clear hS
      rintro a w9 ⟨g9, hpre0, hS, hF⟩
      subst hpre0
      have H := Fl.go_nxt Hl12
      clear Hl12
      refine c_pure [(4, .bool true)] (fun R hR => st_val hS rfl rfl rfl (r_assign hS rfl rfl) fun a40 hS40 => wpList_nil (hR _ (hS40.re ⟨rfl, trivial⟩))) ?_
      clear hS
      clear a
      intro a hS
      refine wp_ret ?_
      have e := Option.some.inj H
      subst e
      repeat (with_reducible first | refine then_ret ?_ | refine inBlock_ret ?_)
      exact c_ret1 hS Try.results23 rfl ⟨_, rfl, g9, rfl, hF⟩

/-! ### law27_reverse: function 24 -/
def law27_reverse.l0 (p0 : List Int) : Nat → (List Int) → Int → Option ((List Int))
  | 0, _, _ => none
  | k18 + 1, m0_0, m0_1 => if decide (0 ≤ m0_1) = true then ((idx p0 m0_1).bind fun x25 => (app m0_0 [x25]).bind fun y34 => law27_reverse.l0 p0 k18 y34 (wi (m0_1 - 1))) else (some m0_0)
def law27_reverse.f (p0 : List Int) : Option ((List Int)) := (law27_reverse.l0 p0 FUEL [] (wi ((p0.length : Int) - 1)) : Option ((List Int))).bind fun v7 => some v7
set_option maxRecDepth 100000 in
set_option maxHeartbeats 4000000 in
theorem law27_reverse.calls {p0 : List Int} {A0 : Option Addr} {cap0 : Nat} {C0 : Nat → Prop} {w : World} {g : Nat → Nat} {out : (List Int)} (N : Nat) (r0 : Nat) (hp0 : RdS (kint .i64) w g C0 A0 cap0 p0) (hC0 : ∀ c, C0 c → c < N) (hr0 : r0 + 2 ≤ N) (H : law27_reverse.f p0 = some out) :
    Calls Try.prog 24 #[.slice A0 p0.length cap0] w (fun e w' => ∃ v, e = .returned v ∧ ∃ (g' : Nat → Nat) (A_r0 : Option Addr) (cap_r0 : Nat), v = .slice A_r0 out.length cap_r0 ∧ OwS (kint .i64) 3 w' g' r0 A_r0 cap_r0 out ∧ Fr (fun q => (r0 ≤ q ∧ q < r0 + 2) ∨ N ≤ q) w g w' g') := by
  unfold law27_reverse.f at H
  refine calls_enter Try.func24 rfl Try.ntmps24 rfl (fun a hS => ?_)
  replace hS : Sl 20 a [(0, .slice A0 p0.length cap0)] := hS
  have hF : Fr (fun q => (r0 ≤ q ∧ q < r0 + 2) ∨ N ≤ q) w g w g := Fr.refl _ _ _
  refine c_pure [(0, .slice A0 p0.length cap0)] (fun R hR => st_val hS rfl rfl rfl (r_assign hS rfl rfl) fun a1 hS1 => wpList_nil (hR _ (hS1.re ⟨rfl, trivial⟩))) ?_
  clear hS
  clear a
  intro a hS
  refine c_pure [(0, .slice A0 p0.length cap0), (3, .slice none 0 0)] (fun R hR => st_val hS rfl rfl rfl (r_assign hS rfl rfl) fun a2 hS2 => wpList_nil (hR _ (hS2.re ⟨rfl, rfl, trivial⟩))) ?_
  clear hS
  clear a
  intro a hS
  obtain ⟨v7, H, Hl9⟩ := bind_el H
  refine c_cut (fun a w3 => ∃ (g3 : Nat → Nat), ∃ (A4 : Option Addr), ∃ (cap5 : Nat), Sl 20 a [(3, .slice A4 v7.length cap5)] ∧ OwS (kint .i64) 3 w3 g3 (N + 2) A4 cap5 v7 ∧ Fr (fun q => (r0 ≤ q ∧ q < r0 + 2) ∨ N ≤ q) w g w3 g3) ?_ ?_
  · refine c_pure [(0, .slice A0 p0.length cap0), (3, .slice none 0 0), (4, .int .i64 (wi ((p0.length : Int) - 1)))] (fun R hR => st_val hS rfl rfl rfl (r_move hS rfl rfl) fun a10 hS10 => st_val hS10 rfl rfl rfl (r_len (e := 3) (sz := 1) (by_ := 8) hS10 rfl rfl (by kernel_rfl)) fun a11 hS11 => st_val hS11 rfl rfl rfl (r_bin hS11 rfl rfl rfl b_sub) fun a12 hS12 => st_val hS12 rfl rfl rfl (r_assign hS12 rfl rfl) fun a13 hS13 => wpList_nil (hR _ (hS13.re ⟨rfl, rfl, rfl, trivial⟩))) ?_
    clear hS
    clear a
    intro a hS
    refine wp_block ?_
    refine wp_loop_ghost (fun kq => fun a w14 => ∃ (m0_0 : List Int), ∃ (m0_1 : Int), ∃ (g14 : Nat → Nat), ∃ (A15 : Option Addr), ∃ (cap16 : Nat), law27_reverse.l0 p0 kq m0_0 m0_1 = some v7 ∧ Sl 20 a [(0, .slice A0 p0.length cap0), (3, .slice A15 m0_0.length cap16), (4, .int .i64 m0_1)] ∧ OwS (kint .i64) 3 w14 g14 (N + 2) A15 cap16 m0_0 ∧ RdS (kint .i64) w14 g14 C0 A0 cap0 p0 ∧ Fr (fun q => (r0 ≤ q ∧ q < r0 + 2) ∨ N ≤ q) w g w14 g14) FUEL ?_ ?_
    · exact ⟨[], wi ((p0.length : Int) - 1), g, none, 0, H, hS.re ⟨rfl, rfl, rfl, trivial⟩, OwS.nil (kint .i64) 3 w g (N + 2), hp0, hF⟩
    · clear H
      clear hp0 hF
      clear hS
      rintro k18 a w14 ⟨m0_0, m0_1, g14, A15, cap16, hpre0, hS, h17, hp0, hF⟩
      have H := hpre0
      clear hpre0
      cases k18 with
      | zero => exact absurd H (by simp [law27_reverse.l0])
      | succ k18 =>
        rw [law27_reverse.l0] at H
        refine wp_seq ?_
        refine c_pure [(0, .slice A0 p0.length cap0), (3, .slice A15 m0_0.length cap16), (4, .int .i64 m0_1), (9, .bool (decide (0 ≤ m0_1)))] (fun R hR => st_val hS rfl rfl rfl (r_move hS rfl rfl) fun a19 hS19 => st_val hS19 rfl rfl rfl (r_bin hS19 rfl rfl rfl b_geq) fun a20 hS20 => wpList_nil (hR _ (hS20.re ⟨rfl, rfl, rfl, rfl, trivial⟩))) ?_
        clear hS
        clear a
        intro a hS
        refine c_cond hS rfl (fun hb21 => ?_) (fun hb21 => ?_)
        · replace H := ite_t hb21 H
          refine wp_skip ?_
          change Code.wp _ _ _ _ _
          refine wp_seq ?_
          refine wp_block ?_
          obtain ⟨x25, hx26, H⟩ := bind_el H
          obtain ⟨y34, hy35, H⟩ := bind_el H
          refine c_region1 (fun K hK => ?_)
          refine st_val hS rfl rfl rfl (r_move hS rfl rfl) fun a22 hS22 => st_val hS22 rfl rfl rfl (r_move hS22 rfl rfl) fun a23 hS23 => st_val hS23 rfl rfl rfl (r_move hS23 rfl rfl) fun a24 hS24 => st_val hS24 rfl rfl rfl (r_index (e := 3) (sz := 1) (by_ := 8) hS24 rfl rfl rfl (by kernel_rfl) (RdS.some_ hp0 hx26) (idx_lo hx26) (idx_hi hx26)) fun a27 hS27 => st_val hS27 rfl rfl rfl (r_load1 (n := 1) hS27 rfl rfl (by kernel_rfl) (RdS.cell (i := m0_1) (sz := 1) (j := 0) hp0 hx26 rfl)) fun a28 hS28 => ?_
          refine st_eff hS28 rfl rfl rfl (e_lit (e := 3) (parts := [(0, .int .i64 x25)]) (cs := [.int .i64 x25]) (kint .i64) [x25] (N + 0) g14 hS28 rfl rfl (fun _ => by kernel_rfl) rfl (by decide) (Rows.cons (cs := [.int .i64 x25]) rfl Rows.nil)) ?_
          rintro _ a32 w33 g33 ⟨⟨A29, rfl, h30⟩, F33⟩ hS32
          replace h17 := OwS.fr h17 F33 (fun _ _ h => h)
          replace hp0 := RdS.fr hp0 F33 (by decide) (fun _ _ h => h)
          replace hF := hF.trans F33 (fun _ h => h.elim)
          refine st_eff hS32 rfl rfl rfl (e_append (e := 3) (sz := 1) (by_ := 8) (z := [.int .i64 0]) (kd := (kint .i64)) g33 hS32 rfl rfl rfl rfl (by kernel_rfl) (by kernel_rfl) rfl rfl rfl rfl h17 (OwD.rdx h30) (fun _ _ _ h => h) hy35) ?_
          rintro _ a40 w41 g41 ⟨⟨A36, cap37, rfl, h38⟩, F41⟩ hS40
          replace h30 := OwS.fr h30 F41 (fun c' hc (hm : c' = N + 2) => by omega)
          replace hp0 := RdS.fr hp0 F41 (by decide) (fun q (hq : C0 q) (hm : q = N + 2) => by have := hC0 q hq; omega)
          replace hF := hF.trans F41 (fun c' (hm : c' = N + 2) => by show (r0 ≤ c' ∧ c' < r0 + 2) ∨ N ≤ c'; omega)
          refine st_val hS40 rfl rfl rfl (r_assign hS40 rfl rfl) fun a42 hS42 => wpList_nil (hK _ _ ?_)
          replace hS : Sl 20 _ [(0, .slice A0 p0.length cap0), (3, .slice A36 y34.length cap37), (4, .int .i64 m0_1)] := hS42.re ⟨rfl, rfl, rfl, trivial⟩
          clear hK K
          try clear hS22 hS23 hS24 hS27 hS28 hS32 hS40 hS42
          obtain ⟨a, ha⟩ : ∃ a', a' = a42 := ⟨_, rfl⟩
          rw [← ha] at hS ⊢; clear ha
          change Code.wp _ _ _ _ _
          refine c_pure1 [(0, .slice A0 p0.length cap0), (3, .slice A36 y34.length cap37), (4, .int .i64 (wi (m0_1 - 1)))] (fun R hR => st_val hS rfl rfl rfl (r_move hS rfl rfl) fun a43 hS43 => st_val hS43 rfl rfl rfl (r_bin hS43 rfl rfl rfl b_sub) fun a44 hS44 => st_val hS44 rfl rfl rfl (r_assign hS44 rfl rfl) fun a45 hS45 => wpList_nil (hR _ (hS45.re ⟨rfl, rfl, rfl, trivial⟩))) ?_
          clear hS
          clear a
          intro a hS
          refine ⟨k18, Nat.lt_succ_self _, ?_⟩
          exact ⟨y34, wi (m0_1 - 1), g41, A36, cap37, H, hS.re ⟨rfl, rfl, rfl, trivial⟩, h38, hp0, hF⟩
        · replace H := ite_f hb21 H
          refine wp_exit ?_
          have e := Option.some.inj H
          subst e
          exact ⟨g14, A15, cap16, hS.re ⟨rfl, trivial⟩, h17, hF⟩
  · clear H
    clear hp0 hF
    clear hS
    rintro a w3 ⟨g3, A4, cap5, hS, h6, hF⟩
    have H := Hl9
    clear Hl9
    refine c_pure [(2, .slice A4 v7.length cap5)] (fun R hR => st_val hS rfl rfl rfl (r_move hS rfl rfl) fun a46 hS46 => st_val hS46 rfl rfl rfl (r_assign hS46 rfl rfl) fun a47 hS47 => wpList_nil (hR _ (hS47.re ⟨rfl, trivial⟩))) ?_
    clear hS
    clear a
    intro a hS
    refine wp_ret ?_
    have e := Option.some.inj H
    subst e
    have F48 := Fr.recol2 w3 g3 (N + 2) r0
    replace h6 := h6.recol2 r0
    replace hF := hF.trans F48 (fun c' (hm : c' = N + 2 ∨ c' = N + 2 + 1) => by show (r0 ≤ c' ∧ c' < r0 + 2) ∨ N ≤ c'; omega)
    repeat (with_reducible first | refine then_ret ?_ | refine inBlock_ret ?_)
    exact c_ret1 hS Try.results24 rfl ⟨_, rfl, (recol2 g3 (N + 2) r0), A4, cap5, rfl, h6, hF⟩

/-! ### device_Target: function 19 -/
def device_Target.f (p0 : api_PowerDevice) (p1 : Int) (p2 : Bool) : Option (Int × Int) := if ((decide (p1 < 0)) || (decide (5 < p1))) = true then (some (0, 1)) else (if (!p2) = true then ((idx (Ar6.l p0.Deepest) p1).bind fun x31 => some (x31, 0)) else (if decide (p0.WakeSystem < p1) = true then (some (0, 13)) else ((idx (Ar6.l p0.Deepest) p1).bind fun x50 => some ((min x50 p0.WakeDevice), 0))))
set_option maxRecDepth 100000 in
set_option maxHeartbeats 4000000 in
theorem device_Target.calls {p0 : api_PowerDevice} {C0 : Nat → Prop} {A0_0 : Option Addr} {cap0_0 : Nat} {A0_1 : Option Addr} {cap0_1 : Nat} {A0_2 : Option Addr} {cap0_2 : Nat} {A0_3 : Option Addr} {cap0_3 : Nat} {p1 : Int} {p2 : Bool} {w : World} {g : Nat → Nat} {out : Int × Int} (N : Nat) (hp0_0 : RdS (kint .i64) w g C0 A0_0 cap0_0 p0.Rails.a0) (hp0_1 : RdS (kint .i64) w g C0 A0_1 cap0_1 p0.Rails.a1) (hp0_2 : RdS (kint .i64) w g C0 A0_2 cap0_2 p0.Rails.a2) (hp0_3 : RdS (kint .i64) w g C0 A0_3 cap0_3 p0.Rails.a3) (hC0 : ∀ c, C0 c → c < N) (H : device_Target.f p0 p1 p2 = some out) :
    Calls Try.prog 19 #[.agg #[.int .i64 p0.Parent, .slice A0_0 p0.Rails.a0.length cap0_0, .slice A0_1 p0.Rails.a1.length cap0_1, .slice A0_2 p0.Rails.a2.length cap0_2, .slice A0_3 p0.Rails.a3.length cap0_3, .int .i64 p0.Deepest.a0, .int .i64 p0.Deepest.a1, .int .i64 p0.Deepest.a2, .int .i64 p0.Deepest.a3, .int .i64 p0.Deepest.a4, .int .i64 p0.Deepest.a5, .int .i64 p0.WakeDevice, .int .i64 p0.WakeSystem], .int .i64 p1, .bool p2] w (fun e w' => ∃ v, e = .returned v ∧ ∃ (g' : Nat → Nat), v = .tuple #[.int .i64 out.1, .int .i64 out.2] ∧ Fr (fun q => N ≤ q) w g w' g') := by
  unfold device_Target.f at H
  refine calls_enter Try.func19 rfl Try.ntmps19 rfl (fun a hS => ?_)
  replace hS : Sl 34 a [(0, .agg #[.int .i64 p0.Parent, .slice A0_0 p0.Rails.a0.length cap0_0, .slice A0_1 p0.Rails.a1.length cap0_1, .slice A0_2 p0.Rails.a2.length cap0_2, .slice A0_3 p0.Rails.a3.length cap0_3, .int .i64 p0.Deepest.a0, .int .i64 p0.Deepest.a1, .int .i64 p0.Deepest.a2, .int .i64 p0.Deepest.a3, .int .i64 p0.Deepest.a4, .int .i64 p0.Deepest.a5, .int .i64 p0.WakeDevice, .int .i64 p0.WakeSystem]), (1, .int .i64 p1), (2, .bool p2)] := hS
  have hF : Fr (fun q => N ≤ q) w g w g := Fr.refl _ _ _
  refine c_region (fun K hK => ?_)
  refine st_eff hS rfl rfl rfl (e_box (cs := [.int .i64 p0.Parent, .slice A0_0 p0.Rails.a0.length cap0_0, .slice A0_1 p0.Rails.a1.length cap0_1, .slice A0_2 p0.Rails.a2.length cap0_2, .slice A0_3 p0.Rails.a3.length cap0_3, .int .i64 p0.Deepest.a0, .int .i64 p0.Deepest.a1, .int .i64 p0.Deepest.a2, .int .i64 p0.Deepest.a3, .int .i64 p0.Deepest.a4, .int .i64 p0.Deepest.a5, .int .i64 p0.WakeDevice, .int .i64 p0.WakeSystem]) (N + 0) g hS rfl rfl rfl) ?_
  rintro _ a4 w5 g5 ⟨⟨b1, rfl, h2⟩, F5⟩ hS4
  replace hp0_0 := RdS.fr hp0_0 F5 (by decide) (fun _ _ h => h)
  replace hp0_1 := RdS.fr hp0_1 F5 (by decide) (fun _ _ h => h)
  replace hp0_2 := RdS.fr hp0_2 F5 (by decide) (fun _ _ h => h)
  replace hp0_3 := RdS.fr hp0_3 F5 (by decide) (fun _ _ h => h)
  replace hF := hF.trans F5 (fun _ h => h.elim)
  refine st_val hS4 rfl rfl rfl (r_assign hS4 rfl rfl) fun a6 hS6 => st_val hS6 rfl rfl rfl (r_assign hS6 rfl rfl) fun a7 hS7 => wpList_nil (hK _ _ ?_)
  replace hS : Sl 34 _ [(1, .int .i64 p1), (2, .bool p2), (3, .pointer (some ⟨b1, 0, none⟩))] := hS7.re ⟨rfl, rfl, rfl, trivial⟩
  clear hK K
  try clear hS4 hS6 hS7
  obtain ⟨a, ha⟩ : ∃ a', a' = a7 := ⟨_, rfl⟩
  rw [← ha] at hS ⊢; clear ha
  refine wp_seq ?_
  refine wp_block ?_
  refine c_region (fun K hK => ?_)
  refine st_val hS rfl rfl rfl (r_move hS rfl rfl) fun a8 hS8 => st_val hS8 rfl rfl rfl (r_bin hS8 rfl rfl rfl b_lss) fun a9 hS9 => st_val hS9 rfl rfl rfl (r_move hS9 rfl rfl) fun a10 hS10 => ?_
  refine g_join (N := 34) 3 [(1, .int .i64 p1), (2, .bool p2), (3, .pointer (some ⟨b1, 0, none⟩)), (14, .bool ((decide (p1 < 0)) || (decide (5 < p1))))] ?_ (fun hk => ?_)
  rotate_left
  · rcases Bool.eq_false_or_eq_true (decide (p1 < 0)) with hb11 | hb11
    · refine st_off hS10 (want_off hS10 rfl rfl rfl hb11) rfl rfl fun a14 hS14 => st_off hS14 (want_off hS14 rfl rfl rfl hb11) rfl rfl fun a15 hS15 => st_val hS15 rfl rfl rfl (r_pickT hS15 rfl rfl rfl hb11) fun a16 hS16 => hk _ (hS16.re ⟨rfl, rfl, rfl, (by rw [hb11]; rfl), trivial⟩)
    · refine st_valW hS10 (want_on hS10 rfl rfl rfl hb11) rfl rfl (r_move hS10 rfl rfl) fun a17 hS17 => st_valW hS17 (want_on hS17 rfl rfl rfl hb11) rfl rfl (r_bin hS17 rfl rfl rfl b_gtr) fun a18 hS18 => st_val hS18 rfl rfl rfl (r_pickF hS18 rfl rfl rfl hb11) fun a19 hS19 => hk _ (hS19.re ⟨rfl, rfl, rfl, (by rw [hb11]; rfl), trivial⟩)
  intro a20 hS20
  refine st_val hS20 rfl rfl rfl (r_assign hS20 rfl rfl) fun a21 hS21 => wpList_nil (hK _ _ ?_)
  replace hS : Sl 34 _ [(1, .int .i64 p1), (2, .bool p2), (3, .pointer (some ⟨b1, 0, none⟩)), (8, .bool ((decide (p1 < 0)) || (decide (5 < p1))))] := hS21.re ⟨rfl, rfl, rfl, rfl, trivial⟩
  clear hK K
  try clear hS8 hS9 hS10 hS20 hS21
  obtain ⟨a, ha⟩ : ∃ a', a' = a21 := ⟨_, rfl⟩
  rw [← ha] at hS ⊢; clear ha
  refine c_cond hS rfl (fun hb22 => ?_) (fun hb22 => ?_)
  · replace H := ite_t hb22 H
    refine c_pure [(6, .int .i64 0), (7, .int .i64 1)] (fun R hR => st_val hS rfl rfl rfl (r_assign hS rfl rfl) fun a23 hS23 => st_val hS23 rfl rfl rfl (r_assign hS23 rfl rfl) fun a24 hS24 => wpList_nil (hR _ (hS24.re ⟨rfl, rfl, trivial⟩))) ?_
    clear hS
    clear a
    intro a hS
    refine wp_ret ?_
    have e := Option.some.inj H
    subst e
    repeat (with_reducible first | refine then_ret ?_ | refine inBlock_ret ?_)
    exact c_ret2 hS Try.results19 rfl rfl ⟨_, rfl, g5, rfl, hF⟩
  · replace H := ite_f hb22 H
    refine c_pure [(1, .int .i64 p1), (3, .pointer (some ⟨b1, 0, none⟩)), (15, .bool (!p2))] (fun R hR => st_val hS rfl rfl rfl (r_move hS rfl rfl) fun a25 hS25 => st_val hS25 rfl rfl rfl (r_not hS25 rfl rfl) fun a26 hS26 => st_val hS26 rfl rfl rfl (r_assign hS26 rfl rfl) fun a27 hS27 => wpList_nil (hR _ (hS27.re ⟨rfl, rfl, rfl, trivial⟩))) ?_
    clear hS
    clear a
    intro a hS
    refine c_cond hS rfl (fun hb28 => ?_) (fun hb28 => ?_)
    · replace H := ite_t hb28 H
      obtain ⟨x31, hx32, H⟩ := bind_el H
      refine c_region (fun K hK => ?_)
      refine st_val hS rfl rfl rfl (r_move hS rfl rfl) fun a29 hS29 => st_val hS29 rfl rfl rfl (r_fieldB (off := 5) hS29 rfl rfl (by kernel_rfl)) fun a30 hS30 => ?_
      have he33 : (([.int .i64 p0.Parent, .slice A0_0 p0.Rails.a0.length cap0_0, .slice A0_1 p0.Rails.a1.length cap0_1, .slice A0_2 p0.Rails.a2.length cap0_2, .slice A0_3 p0.Rails.a3.length cap0_3, .int .i64 p0.Deepest.a0, .int .i64 p0.Deepest.a1, .int .i64 p0.Deepest.a2, .int .i64 p0.Deepest.a3, .int .i64 p0.Deepest.a4, .int .i64 p0.Deepest.a5, .int .i64 p0.WakeDevice, .int .i64 p0.WakeSystem] : List Value).drop (5 + p1.toNat * 1)).take 1 = [.int .i64 x31] := by rcases Ar6.cases hx32 with ⟨e, e2⟩ | ⟨e, e2⟩ | ⟨e, e2⟩ | ⟨e, e2⟩ | ⟨e, e2⟩ | ⟨e, e2⟩ <;> (rw [e, e2] <;> rfl)
      refine st_val hS30 rfl rfl rfl (r_ixB (n := 6) (e := 3) (sz := 1) (bb := false) hS30 rfl rfl rfl (by kernel_rfl) (idx_lo hx32) (Ar6.lt hx32)) fun a35 hS35 => st_val hS35 rfl rfl rfl (r_load1 (n := 1) hS35 rfl rfl (by kernel_rfl) (Bx.at_ (j := 0) h2 he33 rfl)) fun a36 hS36 => st_val hS36 rfl rfl rfl (r_assign hS36 rfl rfl) fun a37 hS37 => st_val hS37 rfl rfl rfl (r_assign hS37 rfl rfl) fun a38 hS38 => wpList_nil (hK _ _ ?_)
      replace hS : Sl 34 _ [(6, .int .i64 x31), (7, .int .i64 0)] := hS38.re ⟨rfl, rfl, trivial⟩
      clear hK K
      try clear hS29 hS30 hS35 hS36 hS37 hS38
      obtain ⟨a, ha⟩ : ∃ a', a' = a38 := ⟨_, rfl⟩
      rw [← ha] at hS ⊢; clear ha
      refine wp_ret ?_
      have e := Option.some.inj H
      subst e
      repeat (with_reducible first | refine then_ret ?_ | refine inBlock_ret ?_)
      exact c_ret2 hS Try.results19 rfl rfl ⟨_, rfl, g5, rfl, hF⟩
    · replace H := ite_f hb28 H
      refine c_pure [(1, .int .i64 p1), (3, .pointer (some ⟨b1, 0, none⟩)), (22, .bool (decide (p0.WakeSystem < p1)))] (fun R hR => st_val hS rfl rfl rfl (r_fieldB (off := 12) hS rfl rfl (by kernel_rfl)) fun a39 hS39 => st_val hS39 rfl rfl rfl (r_load1 (n := 1) hS39 rfl rfl (by kernel_rfl) (Bx.cell h2 rfl)) fun a40 hS40 => st_val hS40 rfl rfl rfl (r_move hS40 rfl rfl) fun a41 hS41 => st_val hS41 rfl rfl rfl (r_bin hS41 rfl rfl rfl b_lss) fun a42 hS42 => st_val hS42 rfl rfl rfl (r_assign hS42 rfl rfl) fun a43 hS43 => wpList_nil (hR _ (hS43.re ⟨rfl, rfl, rfl, trivial⟩))) ?_
      clear hS
      clear a
      intro a hS
      refine c_cond hS rfl (fun hb44 => ?_) (fun hb44 => ?_)
      · replace H := ite_t hb44 H
        refine c_pure [(6, .int .i64 0), (7, .int .i64 13)] (fun R hR => st_val hS rfl rfl rfl (r_assign hS rfl rfl) fun a45 hS45 => st_val hS45 rfl rfl rfl (r_assign hS45 rfl rfl) fun a46 hS46 => wpList_nil (hR _ (hS46.re ⟨rfl, rfl, trivial⟩))) ?_
        clear hS
        clear a
        intro a hS
        refine wp_ret ?_
        have e := Option.some.inj H
        subst e
        repeat (with_reducible first | refine then_ret ?_ | refine inBlock_ret ?_)
        exact c_ret2 hS Try.results19 rfl rfl ⟨_, rfl, g5, rfl, hF⟩
      · replace H := ite_f hb44 H
        refine wp_skip ?_
        change Code.wp _ _ _ _ _
        obtain ⟨x50, hx51, H⟩ := bind_el H
        refine c_draw (fun K hK => d_start (fun q => False) g5 [] 9 #[false, false, false, false, false, false, false, false, false] (by kernel_rfl) rfl rfl (fun w47 hw47 => ?_))
        have F47 : Fr (fun _ => False) w5 g5 w47 g5 := by rw [hw47]; exact Fr.drew _ _ _
        replace h2 := h2.fr F47 (fun h => h)
        replace hp0_0 := RdS.fr hp0_0 F47 (by decide) (fun _ _ h => h)
        replace hp0_1 := RdS.fr hp0_1 F47 (by decide) (fun _ _ h => h)
        replace hp0_2 := RdS.fr hp0_2 F47 (by decide) (fun _ _ h => h)
        replace hp0_3 := RdS.fr hp0_3 F47 (by decide) (fun _ _ h => h)
        replace hF := hF.trans F47 (fun _ h => h.elim)
        have hC : Fr (fun q => False) w47 g5 w47 g5 := Fr.refl _ _ _
        refine d_pure hS 0 #[true, false, false, false, false, false, false, false, false] rfl rfl rfl rfl (by kernel_rfl) (fun _ _ _ h => h) (fun _ => (r_move hS rfl rfl)) fun a48 hS48 => d_pure hS48 1 #[true, true, false, false, false, false, false, false, false] rfl rfl rfl rfl (by kernel_rfl) (fun _ _ _ h => h) (fun _ => (r_fieldB (off := 5) hS48 rfl rfl (by kernel_rfl))) fun a49 hS49 => ?_
        have he52 : (([.int .i64 p0.Parent, .slice A0_0 p0.Rails.a0.length cap0_0, .slice A0_1 p0.Rails.a1.length cap0_1, .slice A0_2 p0.Rails.a2.length cap0_2, .slice A0_3 p0.Rails.a3.length cap0_3, .int .i64 p0.Deepest.a0, .int .i64 p0.Deepest.a1, .int .i64 p0.Deepest.a2, .int .i64 p0.Deepest.a3, .int .i64 p0.Deepest.a4, .int .i64 p0.Deepest.a5, .int .i64 p0.WakeDevice, .int .i64 p0.WakeSystem] : List Value).drop (5 + p1.toNat * 1)).take 1 = [.int .i64 x50] := by rcases Ar6.cases hx51 with ⟨e, e2⟩ | ⟨e, e2⟩ | ⟨e, e2⟩ | ⟨e, e2⟩ | ⟨e, e2⟩ | ⟨e, e2⟩ <;> (rw [e, e2] <;> rfl)
        refine d_pure hS49 2 #[true, true, true, false, false, false, false, false, false] rfl rfl rfl rfl (by kernel_rfl) (fun _ _ _ h => h) (fun _ => (r_ixB (n := 6) (e := 3) (sz := 1) (bb := false) hS49 rfl rfl rfl (by kernel_rfl) (idx_lo hx51) (Ar6.lt hx51))) fun a54 hS54 => d_take hS54 3 #[true, true, true, true, false, false, false, false, false] rfl rfl rfl rfl (by kernel_rfl) (fun _ _ _ h => h) ⟨_, hC⟩ (fun w' g' Fz => (r_load1 (n := 1) hS54 rfl rfl (by kernel_rfl) (Bx.at_ (j := 0) (h2.fr Fz (fun h => h)) he52 rfl))) fun a55 hS55 => d_pure hS55 4 #[true, true, true, true, true, false, false, false, false] rfl rfl rfl rfl (by kernel_rfl) (fun _ _ _ h => h) (fun _ => (r_fieldB (off := 11) hS55 rfl rfl (by kernel_rfl))) fun a56 hS56 => d_take hS56 5 #[true, true, true, true, true, true, false, false, false] rfl rfl rfl rfl (by kernel_rfl) (fun _ _ _ h => h) ⟨_, hC⟩ (fun w' g' Fz => (r_load1 (n := 1) hS56 rfl rfl (by kernel_rfl) (Bx.cell (h2.fr Fz (fun h => h)) rfl))) fun a57 hS57 => d_pure hS57 6 #[true, true, true, true, true, true, true, false, false] rfl rfl rfl rfl (by kernel_rfl) (fun _ _ _ h => h) (fun _ => (r_min hS57 rfl rfl rfl)) fun a58 hS58 => d_pure hS58 7 #[true, true, true, true, true, true, true, true, false] rfl rfl rfl rfl (by kernel_rfl) (fun _ _ _ h => h) (fun _ => (r_assign hS58 rfl rfl)) fun a59 hS59 => d_pure hS59 8 #[true, true, true, true, true, true, true, true, true] rfl rfl rfl rfl (by kernel_rfl) (fun _ _ _ h => h) (fun _ => (r_assign hS59 rfl rfl)) fun a60 hS60 => d_done (by kernel_rfl) (hK _ _ ?_)
        replace hS : Sl 34 _ [(6, .int .i64 (min x50 p0.WakeDevice)), (7, .int .i64 0)] := hS60.re ⟨rfl, rfl, trivial⟩
        clear hK K hC
        try clear hS48 hS49 hS54 hS55 hS56 hS57 hS58 hS59 hS60
        obtain ⟨a, ha⟩ : ∃ a', a' = a60 := ⟨_, rfl⟩
        rw [← ha] at hS ⊢; clear ha
        refine wp_ret ?_
        have e := Option.some.inj H
        subst e
        repeat (with_reducible first | refine then_ret ?_ | refine inBlock_ret ?_)
        exact c_ret2 hS Try.results19 rfl rfl ⟨_, rfl, g5, rfl, hF⟩

/-! ### ref27_Target: function 20 -/
def ref27_Target.f (p0 : api_PowerDevice) (p1 : Int) (p2 : Bool) : Option (Int × Int) := if ((decide (p1 < 0)) || (decide (5 < p1))) = true then (some (0, 1)) else (if (!p2) = true then ((idx (Ar6.l p0.Deepest) p1).bind fun x29 => some (x29, 0)) else (if decide (p0.WakeSystem < p1) = true then (some (0, 13)) else ((idx (Ar6.l p0.Deepest) p1).bind fun x47 => some ((min x47 p0.WakeDevice), 0))))
set_option maxRecDepth 100000 in
set_option maxHeartbeats 4000000 in
theorem ref27_Target.calls {p0 : api_PowerDevice} {C0 : Nat → Prop} {A0_0 : Option Addr} {cap0_0 : Nat} {A0_1 : Option Addr} {cap0_1 : Nat} {A0_2 : Option Addr} {cap0_2 : Nat} {A0_3 : Option Addr} {cap0_3 : Nat} {p1 : Int} {p2 : Bool} {w : World} {g : Nat → Nat} {out : Int × Int} (N : Nat) (hp0_0 : RdS (kint .i64) w g C0 A0_0 cap0_0 p0.Rails.a0) (hp0_1 : RdS (kint .i64) w g C0 A0_1 cap0_1 p0.Rails.a1) (hp0_2 : RdS (kint .i64) w g C0 A0_2 cap0_2 p0.Rails.a2) (hp0_3 : RdS (kint .i64) w g C0 A0_3 cap0_3 p0.Rails.a3) (hC0 : ∀ c, C0 c → c < N) (H : ref27_Target.f p0 p1 p2 = some out) :
    Calls Try.prog 20 #[.agg #[.int .i64 p0.Parent, .slice A0_0 p0.Rails.a0.length cap0_0, .slice A0_1 p0.Rails.a1.length cap0_1, .slice A0_2 p0.Rails.a2.length cap0_2, .slice A0_3 p0.Rails.a3.length cap0_3, .int .i64 p0.Deepest.a0, .int .i64 p0.Deepest.a1, .int .i64 p0.Deepest.a2, .int .i64 p0.Deepest.a3, .int .i64 p0.Deepest.a4, .int .i64 p0.Deepest.a5, .int .i64 p0.WakeDevice, .int .i64 p0.WakeSystem], .int .i64 p1, .bool p2] w (fun e w' => ∃ v, e = .returned v ∧ ∃ (g' : Nat → Nat), v = .tuple #[.int .i64 out.1, .int .i64 out.2] ∧ Fr (fun q => N ≤ q) w g w' g') := by
  unfold ref27_Target.f at H
  refine calls_enter Try.func20 rfl Try.ntmps20 rfl (fun a hS => ?_)
  replace hS : Sl 31 a [(0, .agg #[.int .i64 p0.Parent, .slice A0_0 p0.Rails.a0.length cap0_0, .slice A0_1 p0.Rails.a1.length cap0_1, .slice A0_2 p0.Rails.a2.length cap0_2, .slice A0_3 p0.Rails.a3.length cap0_3, .int .i64 p0.Deepest.a0, .int .i64 p0.Deepest.a1, .int .i64 p0.Deepest.a2, .int .i64 p0.Deepest.a3, .int .i64 p0.Deepest.a4, .int .i64 p0.Deepest.a5, .int .i64 p0.WakeDevice, .int .i64 p0.WakeSystem]), (1, .int .i64 p1), (2, .bool p2)] := hS
  have hF : Fr (fun q => N ≤ q) w g w g := Fr.refl _ _ _
  refine c_region (fun K hK => ?_)
  refine st_eff hS rfl rfl rfl (e_box (cs := [.int .i64 p0.Parent, .slice A0_0 p0.Rails.a0.length cap0_0, .slice A0_1 p0.Rails.a1.length cap0_1, .slice A0_2 p0.Rails.a2.length cap0_2, .slice A0_3 p0.Rails.a3.length cap0_3, .int .i64 p0.Deepest.a0, .int .i64 p0.Deepest.a1, .int .i64 p0.Deepest.a2, .int .i64 p0.Deepest.a3, .int .i64 p0.Deepest.a4, .int .i64 p0.Deepest.a5, .int .i64 p0.WakeDevice, .int .i64 p0.WakeSystem]) (N + 0) g hS rfl rfl rfl) ?_
  rintro _ a4 w5 g5 ⟨⟨b1, rfl, h2⟩, F5⟩ hS4
  replace hp0_0 := RdS.fr hp0_0 F5 (by decide) (fun _ _ h => h)
  replace hp0_1 := RdS.fr hp0_1 F5 (by decide) (fun _ _ h => h)
  replace hp0_2 := RdS.fr hp0_2 F5 (by decide) (fun _ _ h => h)
  replace hp0_3 := RdS.fr hp0_3 F5 (by decide) (fun _ _ h => h)
  replace hF := hF.trans F5 (fun _ h => h.elim)
  refine st_val hS4 rfl rfl rfl (r_assign hS4 rfl rfl) fun a6 hS6 => st_val hS6 rfl rfl rfl (r_assign hS6 rfl rfl) fun a7 hS7 => wpList_nil (hK _ _ ?_)
  replace hS : Sl 31 _ [(1, .int .i64 p1), (2, .bool p2), (3, .pointer (some ⟨b1, 0, none⟩))] := hS7.re ⟨rfl, rfl, rfl, trivial⟩
  clear hK K
  try clear hS4 hS6 hS7
  obtain ⟨a, ha⟩ : ∃ a', a' = a7 := ⟨_, rfl⟩
  rw [← ha] at hS ⊢; clear ha
  refine wp_seq ?_
  refine c_region (fun K hK => ?_)
  refine st_val hS rfl rfl rfl (r_move hS rfl rfl) fun a8 hS8 => st_val hS8 rfl rfl rfl (r_bin hS8 rfl rfl rfl b_lss) fun a9 hS9 => st_val hS9 rfl rfl rfl (r_move hS9 rfl rfl) fun a10 hS10 => ?_
  refine g_join (N := 31) 3 [(1, .int .i64 p1), (2, .bool p2), (3, .pointer (some ⟨b1, 0, none⟩)), (13, .bool ((decide (p1 < 0)) || (decide (5 < p1))))] ?_ (fun hk => ?_)
  rotate_left
  · rcases Bool.eq_false_or_eq_true (decide (p1 < 0)) with hb11 | hb11
    · refine st_off hS10 (want_off hS10 rfl rfl rfl hb11) rfl rfl fun a14 hS14 => st_off hS14 (want_off hS14 rfl rfl rfl hb11) rfl rfl fun a15 hS15 => st_val hS15 rfl rfl rfl (r_pickT hS15 rfl rfl rfl hb11) fun a16 hS16 => hk _ (hS16.re ⟨rfl, rfl, rfl, (by rw [hb11]; rfl), trivial⟩)
    · refine st_valW hS10 (want_on hS10 rfl rfl rfl hb11) rfl rfl (r_move hS10 rfl rfl) fun a17 hS17 => st_valW hS17 (want_on hS17 rfl rfl rfl hb11) rfl rfl (r_bin hS17 rfl rfl rfl b_gtr) fun a18 hS18 => st_val hS18 rfl rfl rfl (r_pickF hS18 rfl rfl rfl hb11) fun a19 hS19 => hk _ (hS19.re ⟨rfl, rfl, rfl, (by rw [hb11]; rfl), trivial⟩)
  intro a20 hS20
  refine wpList_nil (hK _ _ ?_)
  replace hS : Sl 31 _ [(1, .int .i64 p1), (2, .bool p2), (3, .pointer (some ⟨b1, 0, none⟩)), (13, .bool ((decide (p1 < 0)) || (decide (5 < p1))))] := hS20.re ⟨rfl, rfl, rfl, rfl, trivial⟩
  clear hK K
  try clear hS8 hS9 hS10 hS20
  obtain ⟨a, ha⟩ : ∃ a', a' = a20 := ⟨_, rfl⟩
  rw [← ha] at hS ⊢; clear ha
  refine c_cond hS rfl (fun hb21 => ?_) (fun hb21 => ?_)
  · replace H := ite_t hb21 H
    refine c_pure [(6, .int .i64 0), (7, .int .i64 1)] (fun R hR => st_val hS rfl rfl rfl (r_assign hS rfl rfl) fun a22 hS22 => st_val hS22 rfl rfl rfl (r_assign hS22 rfl rfl) fun a23 hS23 => wpList_nil (hR _ (hS23.re ⟨rfl, rfl, trivial⟩))) ?_
    clear hS
    clear a
    intro a hS
    refine wp_ret ?_
    have e := Option.some.inj H
    subst e
    repeat (with_reducible first | refine then_ret ?_ | refine inBlock_ret ?_)
    exact c_ret2 hS Try.results20 rfl rfl ⟨_, rfl, g5, rfl, hF⟩
  · replace H := ite_f hb21 H
    refine wp_skip ?_
    change Code.wp _ _ _ _ _
    refine wp_seq ?_
    refine c_pure [(1, .int .i64 p1), (3, .pointer (some ⟨b1, 0, none⟩)), (15, .bool (!p2))] (fun R hR => st_val hS rfl rfl rfl (r_move hS rfl rfl) fun a24 hS24 => st_val hS24 rfl rfl rfl (r_not hS24 rfl rfl) fun a25 hS25 => wpList_nil (hR _ (hS25.re ⟨rfl, rfl, rfl, trivial⟩))) ?_
    clear hS
    clear a
    intro a hS
    refine c_cond hS rfl (fun hb26 => ?_) (fun hb26 => ?_)
    · replace H := ite_t hb26 H
      obtain ⟨x29, hx30, H⟩ := bind_el H
      refine c_region (fun K hK => ?_)
      refine st_val hS rfl rfl rfl (r_move hS rfl rfl) fun a27 hS27 => st_val hS27 rfl rfl rfl (r_fieldB (off := 5) hS27 rfl rfl (by kernel_rfl)) fun a28 hS28 => ?_
      have he31 : (([.int .i64 p0.Parent, .slice A0_0 p0.Rails.a0.length cap0_0, .slice A0_1 p0.Rails.a1.length cap0_1, .slice A0_2 p0.Rails.a2.length cap0_2, .slice A0_3 p0.Rails.a3.length cap0_3, .int .i64 p0.Deepest.a0, .int .i64 p0.Deepest.a1, .int .i64 p0.Deepest.a2, .int .i64 p0.Deepest.a3, .int .i64 p0.Deepest.a4, .int .i64 p0.Deepest.a5, .int .i64 p0.WakeDevice, .int .i64 p0.WakeSystem] : List Value).drop (5 + p1.toNat * 1)).take 1 = [.int .i64 x29] := by rcases Ar6.cases hx30 with ⟨e, e2⟩ | ⟨e, e2⟩ | ⟨e, e2⟩ | ⟨e, e2⟩ | ⟨e, e2⟩ | ⟨e, e2⟩ <;> (rw [e, e2] <;> rfl)
      refine st_val hS28 rfl rfl rfl (r_ixB (n := 6) (e := 3) (sz := 1) (bb := false) hS28 rfl rfl rfl (by kernel_rfl) (idx_lo hx30) (Ar6.lt hx30)) fun a33 hS33 => st_val hS33 rfl rfl rfl (r_load1 (n := 1) hS33 rfl rfl (by kernel_rfl) (Bx.at_ (j := 0) h2 he31 rfl)) fun a34 hS34 => st_val hS34 rfl rfl rfl (r_assign hS34 rfl rfl) fun a35 hS35 => st_val hS35 rfl rfl rfl (r_assign hS35 rfl rfl) fun a36 hS36 => wpList_nil (hK _ _ ?_)
      replace hS : Sl 31 _ [(6, .int .i64 x29), (7, .int .i64 0)] := hS36.re ⟨rfl, rfl, trivial⟩
      clear hK K
      try clear hS27 hS28 hS33 hS34 hS35 hS36
      obtain ⟨a, ha⟩ : ∃ a', a' = a36 := ⟨_, rfl⟩
      rw [← ha] at hS ⊢; clear ha
      refine wp_ret ?_
      have e := Option.some.inj H
      subst e
      repeat (with_reducible first | refine then_ret ?_ | refine inBlock_ret ?_)
      exact c_ret2 hS Try.results20 rfl rfl ⟨_, rfl, g5, rfl, hF⟩
    · replace H := ite_f hb26 H
      refine wp_skip ?_
      change Code.wp _ _ _ _ _
      refine wp_seq ?_
      refine c_pure [(1, .int .i64 p1), (3, .pointer (some ⟨b1, 0, none⟩)), (23, .bool (decide (p0.WakeSystem < p1)))] (fun R hR => st_val hS rfl rfl rfl (r_fieldB (off := 12) hS rfl rfl (by kernel_rfl)) fun a37 hS37 => st_val hS37 rfl rfl rfl (r_load1 (n := 1) hS37 rfl rfl (by kernel_rfl) (Bx.cell h2 rfl)) fun a38 hS38 => st_val hS38 rfl rfl rfl (r_move hS38 rfl rfl) fun a39 hS39 => st_val hS39 rfl rfl rfl (r_bin hS39 rfl rfl rfl b_lss) fun a40 hS40 => wpList_nil (hR _ (hS40.re ⟨rfl, rfl, rfl, trivial⟩))) ?_
      clear hS
      clear a
      intro a hS
      refine c_cond hS rfl (fun hb41 => ?_) (fun hb41 => ?_)
      · replace H := ite_t hb41 H
        refine c_pure [(6, .int .i64 0), (7, .int .i64 13)] (fun R hR => st_val hS rfl rfl rfl (r_assign hS rfl rfl) fun a42 hS42 => st_val hS42 rfl rfl rfl (r_assign hS42 rfl rfl) fun a43 hS43 => wpList_nil (hR _ (hS43.re ⟨rfl, rfl, trivial⟩))) ?_
        clear hS
        clear a
        intro a hS
        refine wp_ret ?_
        have e := Option.some.inj H
        subst e
        repeat (with_reducible first | refine then_ret ?_ | refine inBlock_ret ?_)
        exact c_ret2 hS Try.results20 rfl rfl ⟨_, rfl, g5, rfl, hF⟩
      · replace H := ite_f hb41 H
        refine wp_skip ?_
        change Code.wp _ _ _ _ _
        obtain ⟨x47, hx48, H⟩ := bind_el H
        refine c_draw (fun K hK => d_start (fun q => False) g5 [] 9 #[false, false, false, false, false, false, false, false, false] (by kernel_rfl) rfl rfl (fun w44 hw44 => ?_))
        have F44 : Fr (fun _ => False) w5 g5 w44 g5 := by rw [hw44]; exact Fr.drew _ _ _
        replace h2 := h2.fr F44 (fun h => h)
        replace hp0_0 := RdS.fr hp0_0 F44 (by decide) (fun _ _ h => h)
        replace hp0_1 := RdS.fr hp0_1 F44 (by decide) (fun _ _ h => h)
        replace hp0_2 := RdS.fr hp0_2 F44 (by decide) (fun _ _ h => h)
        replace hp0_3 := RdS.fr hp0_3 F44 (by decide) (fun _ _ h => h)
        replace hF := hF.trans F44 (fun _ h => h.elim)
        have hC : Fr (fun q => False) w44 g5 w44 g5 := Fr.refl _ _ _
        refine d_pure hS 0 #[true, false, false, false, false, false, false, false, false] rfl rfl rfl rfl (by kernel_rfl) (fun _ _ _ h => h) (fun _ => (r_move hS rfl rfl)) fun a45 hS45 => d_pure hS45 1 #[true, true, false, false, false, false, false, false, false] rfl rfl rfl rfl (by kernel_rfl) (fun _ _ _ h => h) (fun _ => (r_fieldB (off := 5) hS45 rfl rfl (by kernel_rfl))) fun a46 hS46 => ?_
        have he49 : (([.int .i64 p0.Parent, .slice A0_0 p0.Rails.a0.length cap0_0, .slice A0_1 p0.Rails.a1.length cap0_1, .slice A0_2 p0.Rails.a2.length cap0_2, .slice A0_3 p0.Rails.a3.length cap0_3, .int .i64 p0.Deepest.a0, .int .i64 p0.Deepest.a1, .int .i64 p0.Deepest.a2, .int .i64 p0.Deepest.a3, .int .i64 p0.Deepest.a4, .int .i64 p0.Deepest.a5, .int .i64 p0.WakeDevice, .int .i64 p0.WakeSystem] : List Value).drop (5 + p1.toNat * 1)).take 1 = [.int .i64 x47] := by rcases Ar6.cases hx48 with ⟨e, e2⟩ | ⟨e, e2⟩ | ⟨e, e2⟩ | ⟨e, e2⟩ | ⟨e, e2⟩ | ⟨e, e2⟩ <;> (rw [e, e2] <;> rfl)
        refine d_pure hS46 2 #[true, true, true, false, false, false, false, false, false] rfl rfl rfl rfl (by kernel_rfl) (fun _ _ _ h => h) (fun _ => (r_ixB (n := 6) (e := 3) (sz := 1) (bb := false) hS46 rfl rfl rfl (by kernel_rfl) (idx_lo hx48) (Ar6.lt hx48))) fun a51 hS51 => d_take hS51 3 #[true, true, true, true, false, false, false, false, false] rfl rfl rfl rfl (by kernel_rfl) (fun _ _ _ h => h) ⟨_, hC⟩ (fun w' g' Fz => (r_load1 (n := 1) hS51 rfl rfl (by kernel_rfl) (Bx.at_ (j := 0) (h2.fr Fz (fun h => h)) he49 rfl))) fun a52 hS52 => d_pure hS52 4 #[true, true, true, true, true, false, false, false, false] rfl rfl rfl rfl (by kernel_rfl) (fun _ _ _ h => h) (fun _ => (r_fieldB (off := 11) hS52 rfl rfl (by kernel_rfl))) fun a53 hS53 => d_take hS53 5 #[true, true, true, true, true, true, false, false, false] rfl rfl rfl rfl (by kernel_rfl) (fun _ _ _ h => h) ⟨_, hC⟩ (fun w' g' Fz => (r_load1 (n := 1) hS53 rfl rfl (by kernel_rfl) (Bx.cell (h2.fr Fz (fun h => h)) rfl))) fun a54 hS54 => d_pure hS54 6 #[true, true, true, true, true, true, true, false, false] rfl rfl rfl rfl (by kernel_rfl) (fun _ _ _ h => h) (fun _ => (r_min hS54 rfl rfl rfl)) fun a55 hS55 => d_pure hS55 7 #[true, true, true, true, true, true, true, true, false] rfl rfl rfl rfl (by kernel_rfl) (fun _ _ _ h => h) (fun _ => (r_assign hS55 rfl rfl)) fun a56 hS56 => d_pure hS56 8 #[true, true, true, true, true, true, true, true, true] rfl rfl rfl rfl (by kernel_rfl) (fun _ _ _ h => h) (fun _ => (r_assign hS56 rfl rfl)) fun a57 hS57 => d_done (by kernel_rfl) (hK _ _ ?_)
        replace hS : Sl 31 _ [(6, .int .i64 (min x47 p0.WakeDevice)), (7, .int .i64 0)] := hS57.re ⟨rfl, rfl, trivial⟩
        clear hK K hC
        try clear hS45 hS46 hS51 hS52 hS53 hS54 hS55 hS56 hS57
        obtain ⟨a, ha⟩ : ∃ a', a' = a57 := ⟨_, rfl⟩
        rw [← ha] at hS ⊢; clear ha
        refine wp_ret ?_
        have e := Option.some.inj H
        subst e
        repeat (with_reducible first | refine then_ret ?_ | refine inBlock_ret ?_)
        exact c_ret2 hS Try.results20 rfl rfl ⟨_, rfl, g5, rfl, hF⟩

/-! ### law27_large: function 13 -/
def law27_large.l1 (p0 : List api_PowerDevice) (m0_0 : Int) : Nat → Int → Option (Fl (Fl (Bool) (Unit)) (Unit))
  | 0, _ => none
  | k21 + 1, m1_0 => if decide (m1_0 < 4) = true then ((idx p0 m0_0).bind fun x28 => (idx (Ar4.l x28.Rails) m1_0).bind fun x50 => if decide (20 < (x50.length : Int)) = true then (some (.out (.out true))) else (law27_large.l1 p0 m0_0 k21 (wi (m1_0 + 1)))) else (some (.nxt ()))
def law27_large.l0 (p0 : List api_PowerDevice) : Nat → Int → Option (Fl (Bool) (Unit))
  | 0, _ => none
  | k11 + 1, m0_0 => if decide (m0_0 < (p0.length : Int)) = true then ((law27_large.l1 p0 m0_0 FUEL 0 : Option (Fl (Fl (Bool) (Unit)) (Unit))).bind fun o18 => o18.go fun _ => law27_large.l0 p0 k11 (wi (m0_0 + 1))) else (some (.nxt ()))
def law27_large.f (p0 : List api_PowerDevice) : Option (Bool) := if decide (20 < (p0.length : Int)) = true then (some true) else ((law27_large.l0 p0 FUEL 0 : Option (Fl (Bool) (Unit))).bind fun o8 => o8.go fun _ => some false)
set_option maxRecDepth 100000 in
set_option maxHeartbeats 4000000 in
theorem law27_large.calls {p0 : List api_PowerDevice} {A0 : Option Addr} {cap0 : Nat} {C0 : Nat → Prop} {w : World} {g : Nat → Nat} {out : Bool} (N : Nat) (hp0 : RdS kd_api_PowerDevice w g C0 A0 cap0 p0) (hC0 : ∀ c, C0 c → c < N) (H : law27_large.f p0 = some out) :
    Calls Try.prog 13 #[.slice A0 p0.length cap0] w (fun e w' => ∃ v, e = .returned v ∧ ∃ (g' : Nat → Nat), v = .bool out ∧ Fr (fun q => N ≤ q) w g w' g') := by
  unfold law27_large.f at H
  refine calls_enter Try.func13 rfl Try.ntmps13 rfl (fun a hS => ?_)
  replace hS : Sl 27 a [(0, .slice A0 p0.length cap0)] := hS
  have hF : Fr (fun q => N ≤ q) w g w g := Fr.refl _ _ _
  refine c_pure [(0, .slice A0 p0.length cap0)] (fun R hR => st_val hS rfl rfl rfl (r_assign hS rfl rfl) fun a1 hS1 => wpList_nil (hR _ (hS1.re ⟨rfl, trivial⟩))) ?_
  clear hS
  clear a
  intro a hS
  refine wp_seq ?_
  refine c_pure [(0, .slice A0 p0.length cap0), (7, .bool (decide (20 < (p0.length : Int))))] (fun R hR => st_val hS rfl rfl rfl (r_move hS rfl rfl) fun a2 hS2 => st_val hS2 rfl rfl rfl (r_len (e := 33) (sz := 13) (by_ := 168) hS2 rfl rfl (by kernel_rfl)) fun a3 hS3 => st_val hS3 rfl rfl rfl (r_bin hS3 rfl rfl rfl b_gtr) fun a4 hS4 => wpList_nil (hR _ (hS4.re ⟨rfl, rfl, trivial⟩))) ?_
  clear hS
  clear a
  intro a hS
  refine c_cond hS rfl (fun hb5 => ?_) (fun hb5 => ?_)
  · replace H := ite_t hb5 H
    refine c_pure [(2, .bool true)] (fun R hR => st_val hS rfl rfl rfl (r_assign hS rfl rfl) fun a6 hS6 => wpList_nil (hR _ (hS6.re ⟨rfl, trivial⟩))) ?_
    clear hS
    clear a
    intro a hS
    refine wp_ret ?_
    have e := Option.some.inj H
    subst e
    repeat (with_reducible first | refine then_ret ?_ | refine inBlock_ret ?_)
    exact c_ret1 hS Try.results13 rfl ⟨_, rfl, g, rfl, hF⟩
  · replace H := ite_f hb5 H
    refine wp_skip ?_
    change Code.wp _ _ _ _ _
    obtain ⟨o8, H, Hl9⟩ := bind_el H
    refine c_cut (fun a w' => o8 = .nxt () ∧ w = w' ∧ Sl 27 a []) ?_ ?_
    · refine c_pure [(0, .slice A0 p0.length cap0), (3, .int .i64 0)] (fun R hR => st_val hS rfl rfl rfl (r_assign hS rfl rfl) fun a10 hS10 => wpList_nil (hR _ (hS10.re ⟨rfl, rfl, trivial⟩))) ?_
      clear hS
      clear a
      intro a hS
      refine wp_block ?_
      refine wp_loop_ghost (fun kq => fun a w' => ∃ (m0_0 : Int), law27_large.l0 p0 kq m0_0 = some o8 ∧ w = w' ∧ Sl 27 a [(0, .slice A0 p0.length cap0), (3, .int .i64 m0_0)]) FUEL ?_ ?_
      · exact ⟨0, H, rfl, hS.re ⟨rfl, rfl, trivial⟩⟩
      · clear H
        clear hS
        rintro k11 a w' ⟨m0_0, hpre0, hw, hS⟩
        subst hw
        have H := hpre0
        clear hpre0
        cases k11 with
        | zero => exact absurd H (by simp [law27_large.l0])
        | succ k11 =>
          rw [law27_large.l0] at H
          refine wp_seq ?_
          refine c_pure [(0, .slice A0 p0.length cap0), (3, .int .i64 m0_0), (11, .bool (decide (m0_0 < (p0.length : Int))))] (fun R hR => st_val hS rfl rfl rfl (r_move hS rfl rfl) fun a12 hS12 => st_val hS12 rfl rfl rfl (r_move hS12 rfl rfl) fun a13 hS13 => st_val hS13 rfl rfl rfl (r_len (e := 33) (sz := 13) (by_ := 168) hS13 rfl rfl (by kernel_rfl)) fun a14 hS14 => st_val hS14 rfl rfl rfl (r_bin hS14 rfl rfl rfl b_lss) fun a15 hS15 => wpList_nil (hR _ (hS15.re ⟨rfl, rfl, rfl, trivial⟩))) ?_
          clear hS
          clear a
          intro a hS
          refine c_cond hS rfl (fun hb16 => ?_) (fun hb16 => ?_)
          · replace H := ite_t hb16 H
            refine wp_skip ?_
            change Code.wp _ _ _ _ _
            obtain ⟨o18, H, Hl19⟩ := bind_el H
            refine c_cut (fun a w' => o18 = .nxt () ∧ w = w' ∧ Sl 27 a [(0, .slice A0 p0.length cap0), (3, .int .i64 m0_0)]) ?_ ?_
            · refine wp_block ?_
              refine c_pure [(0, .slice A0 p0.length cap0), (3, .int .i64 m0_0), (4, .int .i64 0)] (fun R hR => st_val hS rfl rfl rfl (r_assign hS rfl rfl) fun a20 hS20 => wpList_nil (hR _ (hS20.re ⟨rfl, rfl, rfl, trivial⟩))) ?_
              clear hS
              clear a
              intro a hS
              refine wp_block ?_
              refine wp_loop_ghost (fun kq => fun a w' => ∃ (m1_0 : Int), law27_large.l1 p0 m0_0 kq m1_0 = some o18 ∧ w = w' ∧ Sl 27 a [(0, .slice A0 p0.length cap0), (3, .int .i64 m0_0), (4, .int .i64 m1_0)]) FUEL ?_ ?_
              · exact ⟨0, H, rfl, hS.re ⟨rfl, rfl, rfl, trivial⟩⟩
              · clear H
                clear hS
                rintro k21 a w' ⟨m1_0, hpre0, hw, hS⟩
                subst hw
                have H := hpre0
                clear hpre0
                cases k21 with
                | zero => exact absurd H (by simp [law27_large.l1])
                | succ k21 =>
                  rw [law27_large.l1] at H
                  refine wp_seq ?_
                  refine c_pure [(0, .slice A0 p0.length cap0), (3, .int .i64 m0_0), (4, .int .i64 m1_0), (15, .bool (decide (m1_0 < 4)))] (fun R hR => st_val hS rfl rfl rfl (r_move hS rfl rfl) fun a22 hS22 => st_val hS22 rfl rfl rfl (r_bin hS22 rfl rfl rfl b_lss) fun a23 hS23 => wpList_nil (hR _ (hS23.re ⟨rfl, rfl, rfl, rfl, trivial⟩))) ?_
                  clear hS
                  clear a
                  intro a hS
                  refine c_cond hS rfl (fun hb24 => ?_) (fun hb24 => ?_)
                  · replace H := ite_t hb24 H
                    refine wp_skip ?_
                    change Code.wp _ _ _ _ _
                    refine wp_seq ?_
                    refine wp_block ?_
                    obtain ⟨x28, hx29, H⟩ := bind_el H
                    obtain ⟨x50, hx51, H⟩ := bind_el H
                    refine c_region (fun K hK => ?_)
                    refine st_val hS rfl rfl rfl (r_move hS rfl rfl) fun a25 hS25 => st_val hS25 rfl rfl rfl (r_move hS25 rfl rfl) fun a26 hS26 => st_val hS26 rfl rfl rfl (r_move hS26 rfl rfl) fun a27 hS27 => ?_
                    obtain ⟨_, ⟨A31, cap32, A35, cap36, A39, cap40, A43, cap44, rfl, h33, h37, h41, h45⟩, hel30⟩ := El.of hp0 hx29 (by decide)
                    replace hel30 : El w g C0 A0 (m0_0.toNat * 13) [.int .i64 x28.Parent, .slice A31 x28.Rails.a0.length cap32, .slice A35 x28.Rails.a1.length cap36, .slice A39 x28.Rails.a2.length cap40, .slice A43 x28.Rails.a3.length cap44, .int .i64 x28.Deepest.a0, .int .i64 x28.Deepest.a1, .int .i64 x28.Deepest.a2, .int .i64 x28.Deepest.a3, .int .i64 x28.Deepest.a4, .int .i64 x28.Deepest.a5, .int .i64 x28.WakeDevice, .int .i64 x28.WakeSystem] := hel30
                    refine st_val hS27 rfl rfl rfl (r_index (e := 33) (sz := 13) (by_ := 168) hS27 rfl rfl rfl (by kernel_rfl) (RdS.some_ hp0 hx29) (idx_lo hx29) (idx_hi hx29)) fun a48 hS48 => st_val hS48 rfl rfl rfl (r_fieldE (off := 1) hS48 rfl rfl (by kernel_rfl)) fun a49 hS49 => ?_
                    obtain ⟨A53, cap54, he52, h55⟩ : ∃ (A53 : Option Addr) (cap54 : Nat), (([.int .i64 x28.Parent, .slice A31 x28.Rails.a0.length cap32, .slice A35 x28.Rails.a1.length cap36, .slice A39 x28.Rails.a2.length cap40, .slice A43 x28.Rails.a3.length cap44, .int .i64 x28.Deepest.a0, .int .i64 x28.Deepest.a1, .int .i64 x28.Deepest.a2, .int .i64 x28.Deepest.a3, .int .i64 x28.Deepest.a4, .int .i64 x28.Deepest.a5, .int .i64 x28.WakeDevice, .int .i64 x28.WakeSystem] : List Value).drop (1 + m1_0.toNat * 1)).take 1 = [.slice A53 x50.length cap54] ∧ RdS (kint .i64) w g C0 A53 cap54 x50 := by
                      rcases Ar4.cases hx51 with ⟨e, e2⟩ | ⟨e, e2⟩ | ⟨e, e2⟩ | ⟨e, e2⟩
                      · subst e2; exact ⟨A31, cap32, (by rw [e] <;> rfl), h33⟩
                      · subst e2; exact ⟨A35, cap36, (by rw [e] <;> rfl), h37⟩
                      · subst e2; exact ⟨A39, cap40, (by rw [e] <;> rfl), h41⟩
                      · subst e2; exact ⟨A43, cap44, (by rw [e] <;> rfl), h45⟩
                    refine st_val hS49 rfl rfl rfl (r_ixE (n := 4) (e := 29) (sz := 1) (bb := false) hS49 rfl rfl rfl (by kernel_rfl) (idx_lo hx51) (Ar4.lt hx51)) fun a58 hS58 => st_val hS58 rfl rfl rfl (r_load1 (n := 1) hS58 rfl rfl (by kernel_rfl) (El.at_ (j := 0) hel30 he52 rfl)) fun a59 hS59 => st_val hS59 rfl rfl rfl (r_len (e := 3) (sz := 1) (by_ := 8) hS59 rfl rfl (by kernel_rfl)) fun a60 hS60 => st_val hS60 rfl rfl rfl (r_bin hS60 rfl rfl rfl b_gtr) fun a61 hS61 => wpList_nil (hK _ _ ?_)
                    replace hS : Sl 27 _ [(0, .slice A0 p0.length cap0), (3, .int .i64 m0_0), (4, .int .i64 m1_0), (26, .bool (decide (20 < (x50.length : Int))))] := hS61.re ⟨rfl, rfl, rfl, rfl, trivial⟩
                    clear hK K
                    try clear hS25 hS26 hS27 hS48 hS49 hS58 hS59 hS60 hS61
                    obtain ⟨a, ha⟩ : ∃ a', a' = a61 := ⟨_, rfl⟩
                    rw [← ha] at hS ⊢; clear ha
                    refine c_cond hS rfl (fun hb62 => ?_) (fun hb62 => ?_)
                    · replace H := ite_t hb62 H
                      refine c_pure [(2, .bool true)] (fun R hR => st_val hS rfl rfl rfl (r_assign hS rfl rfl) fun a63 hS63 => wpList_nil (hR _ (hS63.re ⟨rfl, trivial⟩))) ?_
                      clear hS
                      clear a
                      intro a hS
                      refine wp_ret ?_
                      have e := Option.some.inj H
                      subst e
                      replace H := Fl.go_out Hl19
                      have e := Option.some.inj H
                      subst e
                      replace H := Fl.go_out Hl9
                      have e := Option.some.inj H
                      subst e
                      repeat (with_reducible first | refine then_ret ?_ | refine inBlock_ret ?_)
                      exact c_ret1 hS Try.results13 rfl ⟨_, rfl, g, rfl, hF⟩
                    · replace H := ite_f hb62 H
                      refine wp_skip ?_
                      change Code.wp _ _ _ _ _
                      refine c_pure1 [(0, .slice A0 p0.length cap0), (3, .int .i64 m0_0), (4, .int .i64 (wi (m1_0 + 1)))] (fun R hR => st_val hS rfl rfl rfl (r_move hS rfl rfl) fun a64 hS64 => st_val hS64 rfl rfl rfl (r_bin hS64 rfl rfl rfl b_add) fun a65 hS65 => st_val hS65 rfl rfl rfl (r_assign hS65 rfl rfl) fun a66 hS66 => wpList_nil (hR _ (hS66.re ⟨rfl, rfl, rfl, trivial⟩))) ?_
                      clear hS
                      clear a
                      intro a hS
                      refine ⟨k21, Nat.lt_succ_self _, ?_⟩
                      exact ⟨wi (m1_0 + 1), H, rfl, hS.re ⟨rfl, rfl, rfl, trivial⟩⟩
                  · replace H := ite_f hb24 H
                    refine wp_exit ?_
                    have e := Option.some.inj H
                    exact ⟨e.symm, rfl, hS.re ⟨rfl, rfl, trivial⟩⟩
            · clear H
              clear hS
              rintro a w' ⟨hpre0, hw, hS⟩
              subst hpre0
              subst hw
              have H := Fl.go_nxt Hl19
              clear Hl19
              refine c_pure1 [(0, .slice A0 p0.length cap0), (3, .int .i64 (wi (m0_0 + 1)))] (fun R hR => st_val hS rfl rfl rfl (r_move hS rfl rfl) fun a67 hS67 => st_val hS67 rfl rfl rfl (r_bin hS67 rfl rfl rfl b_add) fun a68 hS68 => st_val hS68 rfl rfl rfl (r_assign hS68 rfl rfl) fun a69 hS69 => wpList_nil (hR _ (hS69.re ⟨rfl, rfl, trivial⟩))) ?_
              clear hS
              clear a
              intro a hS
              refine ⟨k11, Nat.lt_succ_self _, ?_⟩
              exact ⟨wi (m0_0 + 1), H, rfl, hS.re ⟨rfl, rfl, trivial⟩⟩
          · replace H := ite_f hb16 H
            refine wp_exit ?_
            have e := Option.some.inj H
            exact ⟨e.symm, rfl, hS.re trivial⟩
    · clear H
      clear hS
      rintro a w' ⟨hpre0, hw, hS⟩
      subst hpre0
      subst hw
      have H := Fl.go_nxt Hl9
      clear Hl9
      refine c_pure [(2, .bool false)] (fun R hR => st_val hS rfl rfl rfl (r_assign hS rfl rfl) fun a70 hS70 => wpList_nil (hR _ (hS70.re ⟨rfl, trivial⟩))) ?_
      clear hS
      clear a
      intro a hS
      refine wp_ret ?_
      have e := Option.some.inj H
      subst e
      repeat (with_reducible first | refine then_ret ?_ | refine inBlock_ret ?_)
      exact c_ret1 hS Try.results13 rfl ⟨_, rfl, g, rfl, hF⟩

/-! ### law27_ascending: function 38 -/
def law27_ascending.l1 (p0 : List Int) (p1 : Int) (m0_0 : List Int) (m0_1 : Int) : Nat → Int → Option ((List Int))
  | 0, _ => none
  | k43 + 1, m1_0 => if decide (m1_0 < (p0.length : Int)) = true then ((idx p0 m1_0).bind fun x51 => (help_Mod.f x51 p1).bind fun r56 => if (r56 == m0_1) = true then ((app m0_0 [m0_1]).bind fun y70 => some y70) else (law27_ascending.l1 p0 p1 m0_0 m0_1 k43 (wi (m1_0 + 1)))) else (some m0_0)
def law27_ascending.l0 (p0 : List Int) (p1 : Int) : Nat → (List Int) → Int → Option ((List Int))
  | 0, _, _ => none
  | k15 + 1, m0_0, m0_1 => if ((decide (m0_1 < p1)) && (decide ((m0_0.length : Int) < 3))) = true then ((law27_ascending.l1 p0 p1 m0_0 m0_1 FUEL 0 : Option ((List Int))).bind fun v38 => law27_ascending.l0 p0 p1 k15 v38 (wi (m0_1 + 1))) else (some m0_0)
def law27_ascending.f (p0 : List Int) (p1 : Int) : Option ((List Int)) := (law27_ascending.l0 p0 p1 FUEL [] 0 : Option ((List Int))).bind fun v7 => some v7
set_option maxRecDepth 100000 in
set_option maxHeartbeats 4000000 in
theorem law27_ascending.calls {p0 : List Int} {A0 : Option Addr} {cap0 : Nat} {C0 : Nat → Prop} {p1 : Int} {w : World} {g : Nat → Nat} {out : (List Int)} (N : Nat) (r0 : Nat) (hp0 : RdS (kint .i64) w g C0 A0 cap0 p0) (hC0 : ∀ c, C0 c → c < N) (hr0 : r0 + 2 ≤ N) (H : law27_ascending.f p0 p1 = some out) :
    Calls Try.prog 38 #[.slice A0 p0.length cap0, .int .i64 p1] w (fun e w' => ∃ v, e = .returned v ∧ ∃ (g' : Nat → Nat) (A_r0 : Option Addr) (cap_r0 : Nat), v = .slice A_r0 out.length cap_r0 ∧ OwS (kint .i64) 3 w' g' r0 A_r0 cap_r0 out ∧ Fr (fun q => (r0 ≤ q ∧ q < r0 + 2) ∨ N ≤ q) w g w' g') := by
  unfold law27_ascending.f at H
  refine calls_enter Try.func38 rfl Try.ntmps38 rfl (fun a hS => ?_)
  replace hS : Sl 37 a [(0, .slice A0 p0.length cap0), (1, .int .i64 p1)] := hS
  have hF : Fr (fun q => (r0 ≤ q ∧ q < r0 + 2) ∨ N ≤ q) w g w g := Fr.refl _ _ _
  refine c_pure [(0, .slice A0 p0.length cap0), (1, .int .i64 p1)] (fun R hR => st_val hS rfl rfl rfl (r_assign hS rfl rfl) fun a1 hS1 => wpList_nil (hR _ (hS1.re ⟨rfl, rfl, trivial⟩))) ?_
  clear hS
  clear a
  intro a hS
  refine c_pure [(0, .slice A0 p0.length cap0), (1, .int .i64 p1), (5, .slice none 0 0)] (fun R hR => st_val hS rfl rfl rfl (r_assign hS rfl rfl) fun a2 hS2 => wpList_nil (hR _ (hS2.re ⟨rfl, rfl, rfl, trivial⟩))) ?_
  clear hS
  clear a
  intro a hS
  obtain ⟨v7, H, Hl9⟩ := bind_el H
  refine c_cut (fun a w3 => ∃ (g3 : Nat → Nat), ∃ (A4 : Option Addr), ∃ (cap5 : Nat), Sl 37 a [(5, .slice A4 v7.length cap5)] ∧ OwS (kint .i64) 3 w3 g3 (N + 2) A4 cap5 v7 ∧ Fr (fun q => (r0 ≤ q ∧ q < r0 + 2) ∨ N ≤ q) w g w3 g3) ?_ ?_
  · refine c_pure [(0, .slice A0 p0.length cap0), (1, .int .i64 p1), (5, .slice none 0 0), (6, .int .i64 0)] (fun R hR => st_val hS rfl rfl rfl (r_assign hS rfl rfl) fun a10 hS10 => wpList_nil (hR _ (hS10.re ⟨rfl, rfl, rfl, rfl, trivial⟩))) ?_
    clear hS
    clear a
    intro a hS
    refine wp_block ?_
    refine wp_loop_ghost (fun kq => fun a w11 => ∃ (m0_0 : List Int), ∃ (m0_1 : Int), ∃ (g11 : Nat → Nat), ∃ (A12 : Option Addr), ∃ (cap13 : Nat), law27_ascending.l0 p0 p1 kq m0_0 m0_1 = some v7 ∧ Sl 37 a [(0, .slice A0 p0.length cap0), (1, .int .i64 p1), (5, .slice A12 m0_0.length cap13), (6, .int .i64 m0_1)] ∧ OwS (kint .i64) 3 w11 g11 (N + 2) A12 cap13 m0_0 ∧ RdS (kint .i64) w11 g11 C0 A0 cap0 p0 ∧ Fr (fun q => (r0 ≤ q ∧ q < r0 + 2) ∨ N ≤ q) w g w11 g11) FUEL ?_ ?_
    · exact ⟨[], 0, g, none, 0, H, hS.re ⟨rfl, rfl, rfl, rfl, trivial⟩, OwS.nil (kint .i64) 3 w g (N + 2), hp0, hF⟩
    · clear H
      clear hp0 hF
      clear hS
      rintro k15 a w11 ⟨m0_0, m0_1, g11, A12, cap13, hpre0, hS, h14, hp0, hF⟩
      have H := hpre0
      clear hpre0
      cases k15 with
      | zero => exact absurd H (by simp [law27_ascending.l0])
      | succ k15 =>
        rw [law27_ascending.l0] at H
        refine wp_seq ?_
        refine c_region (fun K hK => ?_)
        refine st_val hS rfl rfl rfl (r_move hS rfl rfl) fun a16 hS16 => st_val hS16 rfl rfl rfl (r_move hS16 rfl rfl) fun a17 hS17 => st_val hS17 rfl rfl rfl (r_bin hS17 rfl rfl rfl b_lss) fun a18 hS18 => st_val hS18 rfl rfl rfl (r_move hS18 rfl rfl) fun a19 hS19 => ?_
        refine g_join (N := 37) 4 [(0, .slice A0 p0.length cap0), (1, .int .i64 p1), (5, .slice A12 m0_0.length cap13), (6, .int .i64 m0_1), (15, .bool ((decide (m0_1 < p1)) && (decide ((m0_0.length : Int) < 3))))] ?_ (fun hk => ?_)
        rotate_left
        · rcases Bool.eq_false_or_eq_true (decide (m0_1 < p1)) with hb20 | hb20
          · refine st_valW hS19 (want_on hS19 rfl rfl rfl hb20) rfl rfl (r_move hS19 rfl rfl) fun a24 hS24 => st_valW hS24 (want_on hS24 rfl rfl rfl hb20) rfl rfl (r_len (e := 3) (sz := 1) (by_ := 8) hS24 rfl rfl (by kernel_rfl)) fun a25 hS25 => st_valW hS25 (want_on hS25 rfl rfl rfl hb20) rfl rfl (r_bin hS25 rfl rfl rfl b_lss) fun a26 hS26 => st_val hS26 rfl rfl rfl (r_pickT hS26 rfl rfl rfl hb20) fun a27 hS27 => hk _ (hS27.re ⟨rfl, rfl, rfl, rfl, (by rw [hb20]; rfl), trivial⟩)
          · refine st_off hS19 (want_off hS19 rfl rfl rfl hb20) rfl rfl fun a28 hS28 => st_off hS28 (want_off hS28 rfl rfl rfl hb20) rfl rfl fun a29 hS29 => st_off hS29 (want_off hS29 rfl rfl rfl hb20) rfl rfl fun a30 hS30 => st_val hS30 rfl rfl rfl (r_pickF hS30 rfl rfl rfl hb20) fun a31 hS31 => hk _ (hS31.re ⟨rfl, rfl, rfl, rfl, (by rw [hb20]; rfl), trivial⟩)
        intro a32 hS32
        refine wpList_nil (hK _ _ ?_)
        replace hS : Sl 37 _ [(0, .slice A0 p0.length cap0), (1, .int .i64 p1), (5, .slice A12 m0_0.length cap13), (6, .int .i64 m0_1), (15, .bool ((decide (m0_1 < p1)) && (decide ((m0_0.length : Int) < 3))))] := hS32.re ⟨rfl, rfl, rfl, rfl, rfl, trivial⟩
        clear hK K
        try clear hS16 hS17 hS18 hS19 hS32
        obtain ⟨a, ha⟩ : ∃ a', a' = a32 := ⟨_, rfl⟩
        rw [← ha] at hS ⊢; clear ha
        refine c_cond hS rfl (fun hb33 => ?_) (fun hb33 => ?_)
        · replace H := ite_t hb33 H
          refine wp_skip ?_
          change Code.wp _ _ _ _ _
          obtain ⟨v38, H, Hl40⟩ := bind_el H
          refine c_cut (fun a w34 => ∃ (g34 : Nat → Nat), ∃ (A35 : Option Addr), ∃ (cap36 : Nat), Sl 37 a [(0, .slice A0 p0.length cap0), (1, .int .i64 p1), (5, .slice A35 v38.length cap36), (6, .int .i64 m0_1)] ∧ OwS (kint .i64) 3 w34 g34 (N + 2) A35 cap36 v38 ∧ RdS (kint .i64) w34 g34 C0 A0 cap0 p0 ∧ Fr (fun q => (r0 ≤ q ∧ q < r0 + 2) ∨ N ≤ q) w g w34 g34) ?_ ?_
          · refine wp_block ?_
            refine c_pure [(0, .slice A0 p0.length cap0), (1, .int .i64 p1), (5, .slice A12 m0_0.length cap13), (6, .int .i64 m0_1), (7, .int .i64 0)] (fun R hR => st_val hS rfl rfl rfl (r_assign hS rfl rfl) fun a41 hS41 => wpList_nil (hR _ (hS41.re ⟨rfl, rfl, rfl, rfl, rfl, trivial⟩))) ?_
            clear hS
            clear a
            intro a hS
            refine wp_block ?_
            refine wp_loop_ghost (fun kq => fun a w42 => ∃ (m1_0 : Int), ∃ (g42 : Nat → Nat), law27_ascending.l1 p0 p1 m0_0 m0_1 kq m1_0 = some v38 ∧ Sl 37 a [(0, .slice A0 p0.length cap0), (1, .int .i64 p1), (5, .slice A12 m0_0.length cap13), (6, .int .i64 m0_1), (7, .int .i64 m1_0)] ∧ OwS (kint .i64) 3 w42 g42 (N + 2) A12 cap13 m0_0 ∧ RdS (kint .i64) w42 g42 C0 A0 cap0 p0 ∧ Fr (fun q => (r0 ≤ q ∧ q < r0 + 2) ∨ N ≤ q) w g w42 g42) FUEL ?_ ?_
            · exact ⟨0, g11, H, hS.re ⟨rfl, rfl, rfl, rfl, rfl, trivial⟩, h14, hp0, hF⟩
            · clear H
              clear hp0 h14 hF
              clear hS
              rintro k43 a w42 ⟨m1_0, g42, hpre0, hS, h14, hp0, hF⟩
              have H := hpre0
              clear hpre0
              cases k43 with
              | zero => exact absurd H (by simp [law27_ascending.l1])
              | succ k43 =>
                rw [law27_ascending.l1] at H
                refine wp_seq ?_
                refine c_pure [(0, .slice A0 p0.length cap0), (1, .int .i64 p1), (5, .slice A12 m0_0.length cap13), (6, .int .i64 m0_1), (7, .int .i64 m1_0), (21, .bool (decide (m1_0 < (p0.length : Int))))] (fun R hR => st_val hS rfl rfl rfl (r_move hS rfl rfl) fun a44 hS44 => st_val hS44 rfl rfl rfl (r_move hS44 rfl rfl) fun a45 hS45 => st_val hS45 rfl rfl rfl (r_len (e := 3) (sz := 1) (by_ := 8) hS45 rfl rfl (by kernel_rfl)) fun a46 hS46 => st_val hS46 rfl rfl rfl (r_bin hS46 rfl rfl rfl b_lss) fun a47 hS47 => wpList_nil (hR _ (hS47.re ⟨rfl, rfl, rfl, rfl, rfl, rfl, trivial⟩))) ?_
                clear hS
                clear a
                intro a hS
                refine c_cond hS rfl (fun hb48 => ?_) (fun hb48 => ?_)
                · replace H := ite_t hb48 H
                  refine wp_skip ?_
                  change Code.wp _ _ _ _ _
                  refine wp_seq ?_
                  refine wp_block ?_
                  obtain ⟨x51, hx52, H⟩ := bind_el H
                  obtain ⟨r56, hr57, H⟩ := bind_el H
                  refine c_region (fun K hK => ?_)
                  refine st_val hS rfl rfl rfl (r_move hS rfl rfl) fun a49 hS49 => st_val hS49 rfl rfl rfl (r_move hS49 rfl rfl) fun a50 hS50 => st_val hS50 rfl rfl rfl (r_index (e := 3) (sz := 1) (by_ := 8) hS50 rfl rfl rfl (by kernel_rfl) (RdS.some_ hp0 hx52) (idx_lo hx52) (idx_hi hx52)) fun a53 hS53 => st_val hS53 rfl rfl rfl (r_load1 (n := 1) hS53 rfl rfl (by kernel_rfl) (RdS.cell (i := m1_0) (sz := 1) (j := 0) hp0 hx52 rfl)) fun a54 hS54 => st_val hS54 rfl rfl rfl (r_move hS54 rfl rfl) fun a55 hS55 => ?_
                  refine st_enter hS55 rfl rfl rfl (r_call hS55 rfl rfl (by kernel_rfl)) (help_Mod.calls (p0 := x51) (p1 := p1) (g := g42) (N + 4)   hr57) ?_
                  rintro _ a58 w59 ⟨g59, rfl, F59⟩ hS58
                  replace h14 := OwS.fr h14 F59 (fun c' hc (hm : N + 4 ≤ c') => by omega)
                  replace hp0 := RdS.fr hp0 F59 (by decide) (fun q (hq : C0 q) (hm : N + 4 ≤ q) => by have := hC0 q hq; omega)
                  replace hF := hF.trans F59 (fun c' (hm : N + 4 ≤ c') => by show (r0 ≤ c' ∧ c' < r0 + 2) ∨ N ≤ c'; omega)
                  refine st_val hS58 rfl rfl rfl (r_move hS58 rfl rfl) fun a60 hS60 => st_val hS60 rfl rfl rfl (r_bin hS60 rfl rfl rfl b_eql) fun a61 hS61 => wpList_nil (hK _ _ ?_)
                  replace hS : Sl 37 _ [(0, .slice A0 p0.length cap0), (1, .int .i64 p1), (5, .slice A12 m0_0.length cap13), (6, .int .i64 m0_1), (7, .int .i64 m1_0), (31, .bool (r56 == m0_1))] := hS61.re ⟨rfl, rfl, rfl, rfl, rfl, rfl, trivial⟩
                  clear hK K
                  try clear hS49 hS50 hS53 hS54 hS55 hS58 hS60 hS61
                  obtain ⟨a, ha⟩ : ∃ a', a' = a61 := ⟨_, rfl⟩
                  rw [← ha] at hS ⊢; clear ha
                  refine c_cond hS rfl (fun hb62 => ?_) (fun hb62 => ?_)
                  · replace H := ite_t hb62 H
                    obtain ⟨y70, hy71, H⟩ := bind_el H
                    refine c_region (fun K hK => ?_)
                    refine st_val hS rfl rfl rfl (r_move hS rfl rfl) fun a63 hS63 => st_val hS63 rfl rfl rfl (r_move hS63 rfl rfl) fun a64 hS64 => ?_
                    refine st_eff hS64 rfl rfl rfl (e_lit (e := 3) (parts := [(0, .int .i64 m0_1)]) (cs := [.int .i64 m0_1]) (kint .i64) [m0_1] (N + 0) g59 hS64 rfl rfl (fun _ => by kernel_rfl) rfl (by decide) (Rows.cons (cs := [.int .i64 m0_1]) rfl Rows.nil)) ?_
                    rintro _ a68 w69 g69 ⟨⟨A65, rfl, h66⟩, F69⟩ hS68
                    replace h14 := OwS.fr h14 F69 (fun _ _ h => h)
                    replace hp0 := RdS.fr hp0 F69 (by decide) (fun _ _ h => h)
                    replace hF := hF.trans F69 (fun _ h => h.elim)
                    refine st_eff hS68 rfl rfl rfl (e_append (e := 3) (sz := 1) (by_ := 8) (z := [.int .i64 0]) (kd := (kint .i64)) g69 hS68 rfl rfl rfl rfl (by kernel_rfl) (by kernel_rfl) rfl rfl rfl rfl h14 (OwD.rdx h66) (fun _ _ _ h => h) hy71) ?_
                    rintro _ a76 w77 g77 ⟨⟨A72, cap73, rfl, h74⟩, F77⟩ hS76
                    replace h66 := OwS.fr h66 F77 (fun c' hc (hm : c' = N + 2) => by omega)
                    replace hp0 := RdS.fr hp0 F77 (by decide) (fun q (hq : C0 q) (hm : q = N + 2) => by have := hC0 q hq; omega)
                    replace hF := hF.trans F77 (fun c' (hm : c' = N + 2) => by show (r0 ≤ c' ∧ c' < r0 + 2) ∨ N ≤ c'; omega)
                    refine st_val hS76 rfl rfl rfl (r_assign hS76 rfl rfl) fun a78 hS78 => wpList_nil (hK _ _ ?_)
                    replace hS : Sl 37 _ [(0, .slice A0 p0.length cap0), (1, .int .i64 p1), (5, .slice A72 y70.length cap73), (6, .int .i64 m0_1)] := hS78.re ⟨rfl, rfl, rfl, rfl, trivial⟩
                    clear hK K
                    try clear hS63 hS64 hS68 hS76 hS78
                    obtain ⟨a, ha⟩ : ∃ a', a' = a78 := ⟨_, rfl⟩
                    rw [← ha] at hS ⊢; clear ha
                    refine wp_exit ?_
                    have e := Option.some.inj H
                    subst e
                    exact ⟨g77, A72, cap73, hS.re ⟨rfl, rfl, rfl, rfl, trivial⟩, h74, hp0, hF⟩
                  · replace H := ite_f hb62 H
                    refine wp_skip ?_
                    change Code.wp _ _ _ _ _
                    refine c_pure1 [(0, .slice A0 p0.length cap0), (1, .int .i64 p1), (5, .slice A12 m0_0.length cap13), (6, .int .i64 m0_1), (7, .int .i64 (wi (m1_0 + 1)))] (fun R hR => st_val hS rfl rfl rfl (r_move hS rfl rfl) fun a79 hS79 => st_val hS79 rfl rfl rfl (r_bin hS79 rfl rfl rfl b_add) fun a80 hS80 => st_val hS80 rfl rfl rfl (r_assign hS80 rfl rfl) fun a81 hS81 => wpList_nil (hR _ (hS81.re ⟨rfl, rfl, rfl, rfl, rfl, trivial⟩))) ?_
                    clear hS
                    clear a
                    intro a hS
                    refine ⟨k43, Nat.lt_succ_self _, ?_⟩
                    exact ⟨wi (m1_0 + 1), g59, H, hS.re ⟨rfl, rfl, rfl, rfl, rfl, trivial⟩, h14, hp0, hF⟩
                · replace H := ite_f hb48 H
                  refine wp_exit ?_
                  have e := Option.some.inj H
                  subst e
                  exact ⟨g42, A12, cap13, hS.re ⟨rfl, rfl, rfl, rfl, trivial⟩, h14, hp0, hF⟩
          · clear H
            clear hp0 h14 hF
            clear hS
            rintro a w34 ⟨g34, A35, cap36, hS, h37, hp0, hF⟩
            have H := Hl40
            clear Hl40
            refine c_pure1 [(0, .slice A0 p0.length cap0), (1, .int .i64 p1), (5, .slice A35 v38.length cap36), (6, .int .i64 (wi (m0_1 + 1)))] (fun R hR => st_val hS rfl rfl rfl (r_move hS rfl rfl) fun a82 hS82 => st_val hS82 rfl rfl rfl (r_bin hS82 rfl rfl rfl b_add) fun a83 hS83 => st_val hS83 rfl rfl rfl (r_assign hS83 rfl rfl) fun a84 hS84 => wpList_nil (hR _ (hS84.re ⟨rfl, rfl, rfl, rfl, trivial⟩))) ?_
            clear hS
            clear a
            intro a hS
            refine ⟨k15, Nat.lt_succ_self _, ?_⟩
            exact ⟨v38, wi (m0_1 + 1), g34, A35, cap36, H, hS.re ⟨rfl, rfl, rfl, rfl, trivial⟩, h37, hp0, hF⟩
        · replace H := ite_f hb33 H
          refine wp_exit ?_
          have e := Option.some.inj H
          subst e
          exact ⟨g11, A12, cap13, hS.re ⟨rfl, trivial⟩, h14, hF⟩
  · clear H
    clear hp0 hF
    clear hS
    rintro a w3 ⟨g3, A4, cap5, hS, h6, hF⟩
    have H := Hl9
    clear Hl9
    refine c_pure [(4, .slice A4 v7.length cap5)] (fun R hR => st_val hS rfl rfl rfl (r_move hS rfl rfl) fun a85 hS85 => st_val hS85 rfl rfl rfl (r_assign hS85 rfl rfl) fun a86 hS86 => wpList_nil (hR _ (hS86.re ⟨rfl, trivial⟩))) ?_
    clear hS
    clear a
    intro a hS
    refine wp_ret ?_
    have e := Option.some.inj H
    subst e
    have F87 := Fr.recol2 w3 g3 (N + 2) r0
    replace h6 := h6.recol2 r0
    replace hF := hF.trans F87 (fun c' (hm : c' = N + 2 ∨ c' = N + 2 + 1) => by show (r0 ≤ c' ∧ c' < r0 + 2) ∨ N ≤ c'; omega)
    repeat (with_reducible first | refine then_ret ?_ | refine inBlock_ret ?_)
    exact c_ret1 hS Try.results38 rfl ⟨_, rfl, (recol2 g3 (N + 2) r0), A4, cap5, rfl, h6, hF⟩


end Go.Proofs.Ytfhhklkmbcnhnaa.Sim
