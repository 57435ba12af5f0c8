/-
  Printed by a program of this session (wip/tools): plain functions with the same answers as the Go functions, and the proofs of it.
-/
import Derived.Test.YtphgandhncmaoaaProg
import Derived.Test.YtphgandhncmaoaaR1
namespace Go.Proofs.Ytphgandhncmaoaa.Sim
open Go
set_option linter.unusedVariables false
set_option linter.unusedSimpArgs false

/-! ### slices_Index_bool_bool: function 39 -/
def slices_Index_bool_bool.l0 (p0 : List Bool) (p1 : Bool) : Nat → Int → Option (Fl (Int) (Unit))
  | 0, _ => none
  | k8 + 1, m0_0 => if decide (m0_0 < (p0.length : Int)) = true then ((idx p0 m0_0).bind fun x16 => if (p1 == x16) = true then (some (.out m0_0)) else (slices_Index_bool_bool.l0 p0 p1 k8 (wi (m0_0 + 1)))) else (some (.nxt ()))
def slices_Index_bool_bool.f (p0 : List Bool) (p1 : Bool) : Option (Int) := (slices_Index_bool_bool.l0 p0 p1 FUEL 0 : Option (Fl (Int) (Unit))).bind fun o3 => o3.go fun _ => some (-1)
set_option maxRecDepth 100000 in
set_option maxHeartbeats 4000000 in
theorem slices_Index_bool_bool.calls {p0 : List Bool} {A0 : Option Addr} {cap0 : Nat} {C0 : Nat → Prop} {p1 : Bool} {w : World} {g : Nat → Nat} {out : Int} (N : Nat) (hp0 : RdS kbool w g C0 A0 cap0 p0) (hC0 : ∀ c, C0 c → c < N) (H : slices_Index_bool_bool.f p0 p1 = some out) :
    Calls Try.prog 39 #[.slice A0 p0.length cap0, .bool p1] w (fun e w' => ∃ v, e = .returned v ∧ ∃ (g' : Nat → Nat), v = .int .i64 out ∧ Fr (fun q => N ≤ q) w g w' g') := by
  unfold slices_Index_bool_bool.f at H
  refine calls_enter Try.func39 rfl Try.ntmps39 rfl (fun a hS => ?_)
  replace hS : Sl 19 a [(0, .slice A0 p0.length cap0), (1, .bool p1)] := hS
  have hF : Fr (fun q => N ≤ q) w g w g := Fr.refl _ _ _
  refine c_pure [(0, .slice A0 p0.length cap0), (1, .bool p1)] (fun R hR => st_val hS rfl rfl rfl (r_assign hS rfl rfl) fun a1 hS1 => wpList_nil (hR _ (hS1.re ⟨rfl, rfl, trivial⟩))) ?_
  clear hS
  clear a
  intro a hS
  obtain ⟨o3, H, Hl4⟩ := bind_el H
  refine c_cut (fun a w' => o3 = .nxt () ∧ w = w' ∧ Sl 19 a []) ?_ ?_
  · refine c_pure [(0, .slice A0 p0.length cap0), (1, .bool p1), (7, .int .i64 (p0.length : Int)), (8, .int .i64 0)] (fun R hR => st_val hS rfl rfl rfl (r_move hS rfl rfl) fun a5 hS5 => st_val hS5 rfl rfl rfl (r_len (e := 4) (sz := 1) (by_ := 1) hS5 rfl rfl (by kernel_rfl)) fun a6 hS6 => st_val hS6 rfl rfl rfl (r_move hS6 rfl rfl) fun a7 hS7 => wpList_nil (hR _ (hS7.re ⟨rfl, rfl, rfl, rfl, trivial⟩))) ?_
    clear hS
    clear a
    intro a hS
    refine wp_block ?_
    refine wp_loop_ghost (fun kq => fun a w' => ∃ (m0_0 : Int), slices_Index_bool_bool.l0 p0 p1 kq m0_0 = some o3 ∧ w = w' ∧ Sl 19 a [(0, .slice A0 p0.length cap0), (1, .bool p1), (7, .int .i64 (p0.length : Int)), (8, .int .i64 m0_0)]) FUEL ?_ ?_
    · exact ⟨0, H, rfl, hS.re ⟨rfl, rfl, rfl, rfl, trivial⟩⟩
    · clear H
      clear hS
      rintro k8 a w' ⟨m0_0, hpre0, hw, hS⟩
      subst hw
      have H := hpre0
      clear hpre0
      cases k8 with
      | zero => exact absurd H (by simp [slices_Index_bool_bool.l0])
      | succ k8 =>
        rw [slices_Index_bool_bool.l0] at H
        refine c_pure [(0, .slice A0 p0.length cap0), (1, .bool p1), (7, .int .i64 (p0.length : Int)), (8, .int .i64 m0_0), (9, .bool (decide (m0_0 < (p0.length : Int))))] (fun R hR => st_val hS rfl rfl rfl (r_bin hS rfl rfl rfl b_lss) fun a9 hS9 => wpList_nil (hR _ (hS9.re ⟨rfl, rfl, rfl, rfl, rfl, trivial⟩))) ?_
        clear hS
        clear a
        intro a hS
        refine c_if hS rfl (fun hb10 => ?_) (fun hb10 => ?_)
        · replace H := ite_t hb10 H
          refine wp_skip ?_
          change Code.wp _ _ _ _ _
          refine wp_seq ?_
          refine wp_block ?_
          refine c_pure [(0, .slice A0 p0.length cap0), (1, .bool p1), (5, .int .i64 m0_0), (7, .int .i64 (p0.length : Int)), (8, .int .i64 m0_0)] (fun R hR => st_val hS rfl rfl rfl (r_move hS rfl rfl) fun a11 hS11 => st_val hS11 rfl rfl rfl (r_assign hS11 rfl rfl) fun a12 hS12 => wpList_nil (hR _ (hS12.re ⟨rfl, rfl, rfl, rfl, rfl, trivial⟩))) ?_
          clear hS
          clear a
          intro a hS
          obtain ⟨x16, hx17, H⟩ := bind_el H
          refine c_pure [(0, .slice A0 p0.length cap0), (1, .bool p1), (5, .int .i64 m0_0), (7, .int .i64 (p0.length : Int)), (8, .int .i64 m0_0), (16, .bool (p1 == x16))] (fun R hR => st_val hS rfl rfl rfl (r_move hS rfl rfl) fun a13 hS13 => st_val hS13 rfl rfl rfl (r_move hS13 rfl rfl) fun a14 hS14 => st_val hS14 rfl rfl rfl (r_move hS14 rfl rfl) fun a15 hS15 => st_val hS15 rfl rfl rfl (r_index (e := 4) (sz := 1) (by_ := 1) hS15 rfl rfl rfl (by kernel_rfl) (RdS.some_ hp0 hx17) (idx_lo hx17) (idx_hi hx17)) fun a18 hS18 => st_val hS18 rfl rfl rfl (r_load1 (n := 1) hS18 rfl rfl (by kernel_rfl) (RdS.cell (i := m0_0) (sz := 1) (j := 0) hp0 hx17 rfl)) fun a19 hS19 => st_val hS19 rfl rfl rfl (r_binB hS19 rfl rfl rfl (b_eqlB (by kernel_rfl))) fun a20 hS20 => wpList_nil (hR _ (hS20.re ⟨rfl, rfl, rfl, rfl, rfl, rfl, trivial⟩))) ?_
          clear hS
          clear a
          intro a hS
          refine c_cond hS rfl (fun hb21 => ?_) (fun hb21 => ?_)
          · replace H := ite_t hb21 H
            refine c_pure [(4, .int .i64 m0_0)] (fun R hR => st_val hS rfl rfl rfl (r_move hS rfl rfl) fun a22 hS22 => st_val hS22 rfl rfl rfl (r_assign hS22 rfl rfl) fun a23 hS23 => wpList_nil (hR _ (hS23.re ⟨rfl, trivial⟩))) ?_
            clear hS
            clear a
            intro a hS
            refine wp_ret ?_
            have e := Option.some.inj H
            subst e
            replace H := Fl.go_out Hl4
            have e := Option.some.inj H
            subst e
            repeat (with_reducible first | refine then_ret ?_ | refine inBlock_ret ?_)
            exact c_ret1 hS Try.results39 rfl ⟨_, rfl, g, rfl, hF⟩
          · replace H := ite_f hb21 H
            refine wp_skip ?_
            change Code.wp _ _ _ _ _
            refine c_pure1 [(0, .slice A0 p0.length cap0), (1, .bool p1), (7, .int .i64 (p0.length : Int)), (8, .int .i64 (wi (m0_0 + 1)))] (fun R hR => st_val hS rfl rfl rfl (r_bin hS rfl rfl rfl b_add) fun a24 hS24 => st_val hS24 rfl rfl rfl (r_move hS24 rfl rfl) fun a25 hS25 => wpList_nil (hR _ (hS25.re ⟨rfl, rfl, rfl, rfl, trivial⟩))) ?_
            clear hS
            clear a
            intro a hS
            refine ⟨k8, Nat.lt_succ_self _, ?_⟩
            exact ⟨wi (m0_0 + 1), H, rfl, hS.re ⟨rfl, rfl, rfl, rfl, trivial⟩⟩
        · replace H := ite_f hb10 H
          refine wp_exit ?_
          have e := Option.some.inj H
          exact ⟨e.symm, rfl, hS.re trivial⟩
  · clear H
    clear hS
    rintro a w' ⟨hpre0, hw, hS⟩
    subst hpre0
    subst hw
    have H := Fl.go_nxt Hl4
    clear Hl4
    refine c_pure [(4, .int .i64 (-1))] (fun R hR => st_val hS rfl rfl rfl (r_assign hS rfl rfl) fun a26 hS26 => wpList_nil (hR _ (hS26.re ⟨rfl, trivial⟩))) ?_
    clear hS
    clear a
    intro a hS
    refine wp_ret ?_
    have e := Option.some.inj H
    subst e
    repeat (with_reducible first | refine then_ret ?_ | refine inBlock_ret ?_)
    exact c_ret1 hS Try.results39 rfl ⟨_, rfl, g, rfl, hF⟩

/-! ### slices_Index_int_int: function 40 -/
def slices_Index_int_int.l0 (p0 : List Int) (p1 : Int) : Nat → Int → Option (Fl (Int) (Unit))
  | 0, _ => none
  | k8 + 1, m0_0 => if decide (m0_0 < (p0.length : Int)) = true then ((idx p0 m0_0).bind fun x16 => if (p1 == x16) = true then (some (.out m0_0)) else (slices_Index_int_int.l0 p0 p1 k8 (wi (m0_0 + 1)))) else (some (.nxt ()))
def slices_Index_int_int.f (p0 : List Int) (p1 : Int) : Option (Int) := (slices_Index_int_int.l0 p0 p1 FUEL 0 : Option (Fl (Int) (Unit))).bind fun o3 => o3.go fun _ => some (-1)
set_option maxRecDepth 100000 in
set_option maxHeartbeats 4000000 in
theorem slices_Index_int_int.calls {p0 : List Int} {A0 : Option Addr} {cap0 : Nat} {C0 : Nat → Prop} {p1 : Int} {w : World} {g : Nat → Nat} {out : Int} (N : Nat) (hp0 : RdS (kint .i64) w g C0 A0 cap0 p0) (hC0 : ∀ c, C0 c → c < N) (H : slices_Index_int_int.f p0 p1 = some out) :
    Calls Try.prog 40 #[.slice A0 p0.length cap0, .int .i64 p1] w (fun e w' => ∃ v, e = .returned v ∧ ∃ (g' : Nat → Nat), v = .int .i64 out ∧ Fr (fun q => N ≤ q) w g w' g') := by
  unfold slices_Index_int_int.f at H
  refine calls_enter Try.func40 rfl Try.ntmps40 rfl (fun a hS => ?_)
  replace hS : Sl 19 a [(0, .slice A0 p0.length cap0), (1, .int .i64 p1)] := hS
  have hF : Fr (fun q => N ≤ q) w g w g := Fr.refl _ _ _
  refine c_pure [(0, .slice A0 p0.length cap0), (1, .int .i64 p1)] (fun R hR => st_val hS rfl rfl rfl (r_assign hS rfl rfl) fun a1 hS1 => wpList_nil (hR _ (hS1.re ⟨rfl, rfl, trivial⟩))) ?_
  clear hS
  clear a
  intro a hS
  obtain ⟨o3, H, Hl4⟩ := bind_el H
  refine c_cut (fun a w' => o3 = .nxt () ∧ w = w' ∧ Sl 19 a []) ?_ ?_
  · refine c_pure [(0, .slice A0 p0.length cap0), (1, .int .i64 p1), (7, .int .i64 (p0.length : Int)), (8, .int .i64 0)] (fun R hR => st_val hS rfl rfl rfl (r_move hS rfl rfl) fun a5 hS5 => st_val hS5 rfl rfl rfl (r_len (e := 3) (sz := 1) (by_ := 8) hS5 rfl rfl (by kernel_rfl)) fun a6 hS6 => st_val hS6 rfl rfl rfl (r_move hS6 rfl rfl) fun a7 hS7 => wpList_nil (hR _ (hS7.re ⟨rfl, rfl, rfl, rfl, trivial⟩))) ?_
    clear hS
    clear a
    intro a hS
    refine wp_block ?_
    refine wp_loop_ghost (fun kq => fun a w' => ∃ (m0_0 : Int), slices_Index_int_int.l0 p0 p1 kq m0_0 = some o3 ∧ w = w' ∧ Sl 19 a [(0, .slice A0 p0.length cap0), (1, .int .i64 p1), (7, .int .i64 (p0.length : Int)), (8, .int .i64 m0_0)]) FUEL ?_ ?_
    · exact ⟨0, H, rfl, hS.re ⟨rfl, rfl, rfl, rfl, trivial⟩⟩
    · clear H
      clear hS
      rintro k8 a w' ⟨m0_0, hpre0, hw, hS⟩
      subst hw
      have H := hpre0
      clear hpre0
      cases k8 with
      | zero => exact absurd H (by simp [slices_Index_int_int.l0])
      | succ k8 =>
        rw [slices_Index_int_int.l0] at H
        refine c_pure [(0, .slice A0 p0.length cap0), (1, .int .i64 p1), (7, .int .i64 (p0.length : Int)), (8, .int .i64 m0_0), (9, .bool (decide (m0_0 < (p0.length : Int))))] (fun R hR => st_val hS rfl rfl rfl (r_bin hS rfl rfl rfl b_lss) fun a9 hS9 => wpList_nil (hR _ (hS9.re ⟨rfl, rfl, rfl, rfl, rfl, trivial⟩))) ?_
        clear hS
        clear a
        intro a hS
        refine c_if hS rfl (fun hb10 => ?_) (fun hb10 => ?_)
        · replace H := ite_t hb10 H
          refine wp_skip ?_
          change Code.wp _ _ _ _ _
          refine wp_seq ?_
          refine wp_block ?_
          refine c_pure [(0, .slice A0 p0.length cap0), (1, .int .i64 p1), (5, .int .i64 m0_0), (7, .int .i64 (p0.length : Int)), (8, .int .i64 m0_0)] (fun R hR => st_val hS rfl rfl rfl (r_move hS rfl rfl) fun a11 hS11 => st_val hS11 rfl rfl rfl (r_assign hS11 rfl rfl) fun a12 hS12 => wpList_nil (hR _ (hS12.re ⟨rfl, rfl, rfl, rfl, rfl, trivial⟩))) ?_
          clear hS
          clear a
          intro a hS
          obtain ⟨x16, hx17, H⟩ := bind_el H
          refine c_pure [(0, .slice A0 p0.length cap0), (1, .int .i64 p1), (5, .int .i64 m0_0), (7, .int .i64 (p0.length : Int)), (8, .int .i64 m0_0), (16, .bool (p1 == x16))] (fun R hR => st_val hS rfl rfl rfl (r_move hS rfl rfl) fun a13 hS13 => st_val hS13 rfl rfl rfl (r_move hS13 rfl rfl) fun a14 hS14 => st_val hS14 rfl rfl rfl (r_move hS14 rfl rfl) fun a15 hS15 => st_val hS15 rfl rfl rfl (r_index (e := 3) (sz := 1) (by_ := 8) hS15 rfl rfl rfl (by kernel_rfl) (RdS.some_ hp0 hx17) (idx_lo hx17) (idx_hi hx17)) fun a18 hS18 => st_val hS18 rfl rfl rfl (r_load1 (n := 1) hS18 rfl rfl (by kernel_rfl) (RdS.cell (i := m0_0) (sz := 1) (j := 0) hp0 hx17 rfl)) fun a19 hS19 => st_val hS19 rfl rfl rfl (r_bin hS19 rfl rfl rfl b_eql) fun a20 hS20 => wpList_nil (hR _ (hS20.re ⟨rfl, rfl, rfl, rfl, rfl, rfl, trivial⟩))) ?_
          clear hS
          clear a
          intro a hS
          refine c_cond hS rfl (fun hb21 => ?_) (fun hb21 => ?_)
          · replace H := ite_t hb21 H
            refine c_pure [(4, .int .i64 m0_0)] (fun R hR => st_val hS rfl rfl rfl (r_move hS rfl rfl) fun a22 hS22 => st_val hS22 rfl rfl rfl (r_assign hS22 rfl rfl) fun a23 hS23 => wpList_nil (hR _ (hS23.re ⟨rfl, trivial⟩))) ?_
            clear hS
            clear a
            intro a hS
            refine wp_ret ?_
            have e := Option.some.inj H
            subst e
            replace H := Fl.go_out Hl4
            have e := Option.some.inj H
            subst e
            repeat (with_reducible first | refine then_ret ?_ | refine inBlock_ret ?_)
            exact c_ret1 hS Try.results40 rfl ⟨_, rfl, g, rfl, hF⟩
          · replace H := ite_f hb21 H
            refine wp_skip ?_
            change Code.wp _ _ _ _ _
            refine c_pure1 [(0, .slice A0 p0.length cap0), (1, .int .i64 p1), (7, .int .i64 (p0.length : Int)), (8, .int .i64 (wi (m0_0 + 1)))] (fun R hR => st_val hS rfl rfl rfl (r_bin hS rfl rfl rfl b_add) fun a24 hS24 => st_val hS24 rfl rfl rfl (r_move hS24 rfl rfl) fun a25 hS25 => wpList_nil (hR _ (hS25.re ⟨rfl, rfl, rfl, rfl, trivial⟩))) ?_
            clear hS
            clear a
            intro a hS
            refine ⟨k8, Nat.lt_succ_self _, ?_⟩
            exact ⟨wi (m0_0 + 1), H, rfl, hS.re ⟨rfl, rfl, rfl, rfl, trivial⟩⟩
        · replace H := ite_f hb10 H
          refine wp_exit ?_
          have e := Option.some.inj H
          exact ⟨e.symm, rfl, hS.re trivial⟩
  · clear H
    clear hS
    rintro a w' ⟨hpre0, hw, hS⟩
    subst hpre0
    subst hw
    have H := Fl.go_nxt Hl4
    clear Hl4
    refine c_pure [(4, .int .i64 (-1))] (fun R hR => st_val hS rfl rfl rfl (r_assign hS rfl rfl) fun a26 hS26 => wpList_nil (hR _ (hS26.re ⟨rfl, trivial⟩))) ?_
    clear hS
    clear a
    intro a hS
    refine wp_ret ?_
    have e := Option.some.inj H
    subst e
    repeat (with_reducible first | refine then_ret ?_ | refine inBlock_ret ?_)
    exact c_ret1 hS Try.results40 rfl ⟨_, rfl, g, rfl, hF⟩

/-! ### slices_Clone_int_int: function 41 -/
def slices_Clone_int_int.f (p0 : List Int) : Option ((List Int)) := (app ([] : List Int) p0).bind fun y13 => some y13
set_option maxRecDepth 100000 in
set_option maxHeartbeats 4000000 in
theorem slices_Clone_int_int.calls {p0 : List Int} {A0 : Option Addr} {cap0 : Nat} {C0 : Nat → Prop} {w : World} {g : Nat → Nat} {out : (List Int)} (N : Nat) (r0 : Nat) (hp0 : RdS (kint .i64) w g C0 A0 cap0 p0) (hC0 : ∀ c, C0 c → c < N) (hr0 : r0 + 2 ≤ N) (H : slices_Clone_int_int.f p0 = some out) :
    Calls Try.prog 41 #[.slice A0 p0.length cap0] w (fun e w' => ∃ v, e = .returned v ∧ ∃ (g' : Nat → Nat) (A_r0 : Option Addr) (cap_r0 : Nat), v = .slice A_r0 out.length cap_r0 ∧ OwS (kint .i64) 3 w' g' r0 A_r0 cap_r0 out ∧ Fr (fun q => (r0 ≤ q ∧ q < r0 + 2) ∨ N ≤ q) w g w' g') := by
  unfold slices_Clone_int_int.f at H
  refine calls_enter Try.func41 rfl Try.ntmps41 rfl (fun a hS => ?_)
  replace hS : Sl 8 a [(0, .slice A0 p0.length cap0)] := hS
  have hF : Fr (fun q => (r0 ≤ q ∧ q < r0 + 2) ∨ N ≤ q) w g w g := Fr.refl _ _ _
  refine c_pure [(0, .slice A0 p0.length cap0)] (fun R hR => st_val hS rfl rfl rfl (r_assign hS rfl rfl) fun a1 hS1 => wpList_nil (hR _ (hS1.re ⟨rfl, trivial⟩))) ?_
  clear hS
  clear a
  intro a hS
  refine wp_seq ?_
  refine c_pure [(0, .slice A0 p0.length cap0), (4, .bool A0.isNone)] (fun R hR => st_val hS rfl rfl rfl (r_move hS rfl rfl) fun a2 hS2 => st_val hS2 rfl rfl rfl (r_slNil (E := 3) hS2 rfl rfl (by kernel_rfl)) fun a3 hS3 => wpList_nil (hR _ (hS3.re ⟨rfl, rfl, trivial⟩))) ?_
  clear hS
  clear a
  intro a hS
  refine c_cond hS rfl (fun hb4 => ?_) (fun hb4 => ?_)
  · have hn5 := RdS.none_ hp0 hb4
    subst hn5
    replace H : some [] = some out := by first | exact H | simpa [app] using H
    refine c_pure [(2, .slice none 0 0)] (fun R hR => st_val hS rfl rfl rfl (r_assign hS rfl rfl) fun a6 hS6 => wpList_nil (hR _ (hS6.re ⟨rfl, trivial⟩))) ?_
    clear hS
    clear a
    intro a hS
    refine wp_ret ?_
    have e := Option.some.inj H
    subst e
    repeat (with_reducible first | refine then_ret ?_ | refine inBlock_ret ?_)
    exact c_ret1 hS Try.results41 rfl ⟨_, rfl, g, none, 0, rfl, OwS.nil (kint .i64) 3 w g r0, hF⟩
  · refine wp_skip ?_
    change Code.wp _ _ _ _ _
    obtain ⟨y13, hy14, H⟩ := bind_el H
    refine c_region (fun K hK => ?_)
    refine st_eff hS rfl rfl rfl (e_lit (e := 3) (parts := []) (cs := []) (kint .i64) ([] : List Int) (N + 0) g hS rfl rfl (fun _ => by kernel_rfl) rfl (by decide) Rows.nil) ?_
    rintro _ a10 w11 g11 ⟨⟨A7, rfl, h8⟩, F11⟩ hS10
    replace hp0 := RdS.fr hp0 F11 (by decide) (fun _ _ h => h)
    replace hF := hF.trans F11 (fun _ h => h.elim)
    refine st_val hS10 rfl rfl rfl (r_move hS10 rfl rfl) fun a12 hS12 => ?_
    refine st_eff hS12 rfl rfl rfl (e_append (e := 3) (sz := 1) (by_ := 8) (z := [.int .i64 0]) (kd := (kint .i64)) g11 hS12 rfl rfl rfl rfl (by kernel_rfl) (by kernel_rfl) rfl rfl rfl rfl h8 hp0 (fun _ _ _ h => h) hy14) ?_
    rintro _ a19 w20 g20 ⟨⟨A15, cap16, rfl, h17⟩, F20⟩ hS19
    replace hp0 := RdS.fr hp0 F20 (by decide) (fun q (hq : C0 q) (hm : q = N + 0) => by have := hC0 q hq; omega)
    replace hF := hF.trans F20 (fun c' (hm : c' = N + 0) => by show (r0 ≤ c' ∧ c' < r0 + 2) ∨ N ≤ c'; omega)
    refine st_val hS19 rfl rfl rfl (r_assign hS19 rfl rfl) fun a21 hS21 => wpList_nil (hK _ _ ?_)
    replace hS : Sl 8 _ [(2, .slice A15 y13.length cap16)] := hS21.re ⟨rfl, trivial⟩
    clear hK K
    try clear hS10 hS12 hS19 hS21
    obtain ⟨a, ha⟩ : ∃ a', a' = a21 := ⟨_, rfl⟩
    rw [← ha] at hS ⊢; clear ha
    refine wp_ret ?_
    have e := Option.some.inj H
    subst e
    have F22 := Fr.recol2 w20 g20 (N + 0) r0
    replace h17 := h17.recol2 r0
    replace hF := hF.trans F22 (fun c' (hm : c' = N + 0 ∨ c' = N + 0 + 1) => by show (r0 ≤ c' ∧ c' < r0 + 2) ∨ N ≤ c'; omega)
    repeat (with_reducible first | refine then_ret ?_ | refine inBlock_ret ?_)
    exact c_ret1 hS Try.results41 rfl ⟨_, rfl, (recol2 g20 (N + 0) r0), A15, cap16, rfl, h17, hF⟩

/-! ### depgraph_Cycle: function 20 -/
def depgraph_Cycle.l0 (y17 : List Bool) : Nat → (List Bool) → Int → Option ((List Bool))
  | 0, _, _ => none
  | k34 + 1, m0_0, m0_1 => if decide (m0_1 < (y17.length : Int)) = true then ((idx m0_0 m0_1).bind fun x41 => depgraph_Cycle.l0 y17 k34 (upd m0_0 m0_1 true) (wi (m0_1 + 1))) else (some m0_0)
def depgraph_Cycle.l1 (r54 : (List Int)) : Nat → (List Bool) → Int → Option ((List Bool))
  | 0, _, _ => none
  | k65 + 1, m1_0, m1_1 => if decide (m1_1 < (r54.length : Int)) = true then ((idx r54 m1_1).bind fun x68 => (idx m1_0 x68).bind fun x75 => depgraph_Cycle.l1 r54 k65 (upd m1_0 x68 false) (wi (m1_1 + 1))) else (some m1_0)
def depgraph_Cycle.l2 (p0 : Int) (y83 : List Int) : Nat → (List Int) → Int → Option ((List Int))
  | 0, _, _ => none
  | k100 + 1, m2_0, m2_1 => if decide (m2_1 < (y83.length : Int)) = true then ((idx m2_0 m2_1).bind fun x108 => depgraph_Cycle.l2 p0 y83 k100 (upd m2_0 m2_1 p0) (wi (m2_1 + 1))) else (some m2_0)
def depgraph_Cycle.l3 (p1 : List api_Link) (v49 : (List Bool)) : Nat → (List Int) → Int → Option ((List Int))
  | 0, _, _ => none
  | k123 + 1, m3_0, m3_1 => if decide (m3_1 < (p1.length : Int)) = true then (((idx p1 m3_1).bind fun x130 => (idx v49 x130.Supplier).bind fun x144 => if x144 = true then ((idx m3_0 x130.Consumer).bind fun x149 => some (upd m3_0 x130.Consumer (min x149 x130.Supplier))) else (some m3_0) : Option ((List Int))).bind fun v127 => depgraph_Cycle.l3 p1 v49 k123 v127 (wi (m3_1 + 1))) else (some m3_0)
def depgraph_Cycle.l4 (v116 : (List Int)) : Nat → (List Int) → Int → Option ((List Int) × Int)
  | 0, _, _ => none
  | k186 + 1, m4_0, m4_1 => (slices_Index_int_int.f m4_0 m4_1).bind fun r189 => if decide (0 ≤ r189) = true then ((slc m4_0 r189 (m4_0.length : Int)).bind fun y199 => (slices_Clone_int_int.f y199).bind fun r204 => some (r204, 0)) else ((app m4_0 [m4_1]).bind fun y222 => (idx v116 m4_1).bind fun x233 => depgraph_Cycle.l4 v116 k186 y222 x233)
def depgraph_Cycle.f (p0 : Int) (p1 : List api_Link) : Option ((List Int) × Int) := (depgraph_validate.f p0 p1).bind fun r5 => if (r5 != 0) = true then (some ([], r5)) else ((mk p0 false).bind fun y17 => (depgraph_Cycle.l0 y17 FUEL y17 0 : Option ((List Bool))).bind fun v27 => ((depgraph_sort.f p0 p1).bind fun r54 => depgraph_Cycle.l1 r54 FUEL v27 0 : Option ((List Bool))).bind fun v49 => (mk p0 0).bind fun y83 => (depgraph_Cycle.l2 p0 y83 FUEL y83 0 : Option ((List Int))).bind fun v93 => (depgraph_Cycle.l3 p1 v49 FUEL v93 0 : Option ((List Int))).bind fun v116 => (slices_Index_bool_bool.f v49 true).bind fun r169 => if decide (r169 < 0) = true then (some ([], 6)) else (depgraph_Cycle.l4 v116 FUEL [] r169))
set_option maxRecDepth 100000 in
set_option maxHeartbeats 4000000 in
theorem depgraph_Cycle.calls {p0 : Int} {p1 : List api_Link} {A1 : Option Addr} {cap1 : Nat} {C1 : Nat → Prop} {w : World} {g : Nat → Nat} {out : (List Int) × Int} (N : Nat) (r0 : Nat) (hp1 : RdS kd_api_Link w g C1 A1 cap1 p1) (hC1 : ∀ c, C1 c → c < N) (hr0 : r0 + 2 ≤ N) (H : depgraph_Cycle.f p0 p1 = some out) :
    Calls Try.prog 20 #[.int .i64 p0, .slice A1 p1.length cap1] w (fun e w' => ∃ v, e = .returned v ∧ ∃ (g' : Nat → Nat) (A_r0 : Option Addr) (cap_r0 : Nat), v = .tuple #[.slice A_r0 out.1.length cap_r0, .int .i64 out.2] ∧ OwS (kint .i64) 3 w' g' r0 A_r0 cap_r0 out.1 ∧ Fr (fun q => (r0 ≤ q ∧ q < r0 + 2) ∨ N ≤ q) w g w' g') := by
  unfold depgraph_Cycle.f at H
  refine calls_enter Try.func20 rfl Try.ntmps20 rfl (fun a hS => ?_)
  replace hS : Sl 106 a [(0, .int .i64 p0), (1, .slice A1 p1.length cap1)] := hS
  have hF : Fr (fun q => (r0 ≤ q ∧ q < r0 + 2) ∨ N ≤ q) w g w g := Fr.refl _ _ _
  refine c_pure [(0, .int .i64 p0), (1, .slice A1 p1.length cap1)] (fun R hR => st_val hS rfl rfl rfl (r_assign hS rfl rfl) fun a1 hS1 => st_val hS1 rfl rfl rfl (r_assign hS1 rfl rfl) fun a2 hS2 => wpList_nil (hR _ (hS2.re ⟨rfl, rfl, trivial⟩))) ?_
  clear hS
  clear a
  intro a hS
  refine wp_seq ?_
  obtain ⟨r5, hr6, H⟩ := bind_el H
  refine c_region (fun K hK => ?_)
  refine st_val hS rfl rfl rfl (r_move hS rfl rfl) fun a3 hS3 => st_val hS3 rfl rfl rfl (r_move hS3 rfl rfl) fun a4 hS4 => ?_
  refine st_enter hS4 rfl rfl rfl (r_call hS4 rfl rfl (by kernel_rfl)) (depgraph_validate.calls (C1 := C1) (p0 := p0) (p1 := p1) (g := g) (N + 16)  hp1 (fun q (hq : C1 q) => by have := hC1 q hq; omega) hr6) ?_
  rintro _ a7 w8 ⟨g8, rfl, F8⟩ hS7
  replace hp1 := RdS.fr hp1 F8 (by decide) (fun q (hq : C1 q) (hm : N + 16 ≤ q) => by have := hC1 q hq; omega)
  replace hF := hF.trans F8 (fun c' (hm : N + 16 ≤ c') => by show (r0 ≤ c' ∧ c' < r0 + 2) ∨ N ≤ c'; omega)
  refine st_val hS7 rfl rfl rfl (r_assign hS7 rfl rfl) fun a9 hS9 => wpList_nil (hK _ _ ?_)
  replace hS : Sl 106 _ [(0, .int .i64 p0), (1, .slice A1 p1.length cap1), (6, .int .i64 r5)] := hS9.re ⟨rfl, rfl, rfl, trivial⟩
  clear hK K
  try clear hS3 hS4 hS7 hS9
  obtain ⟨a, ha⟩ : ∃ a', a' = a9 := ⟨_, rfl⟩
  rw [← ha] at hS ⊢; clear ha
  refine c_pure [(0, .int .i64 p0), (1, .slice A1 p1.length cap1), (6, .int .i64 r5), (23, .bool (r5 != 0))] (fun R hR => st_val hS rfl rfl rfl (r_move hS rfl rfl) fun a10 hS10 => st_val hS10 rfl rfl rfl (r_bin hS10 rfl rfl rfl b_neq) fun a11 hS11 => wpList_nil (hR _ (hS11.re ⟨rfl, rfl, rfl, rfl, trivial⟩))) ?_
  clear hS
  clear a
  intro a hS
  refine c_cond hS rfl (fun hb12 => ?_) (fun hb12 => ?_)
  · replace H := ite_t hb12 H
    refine c_pure [(4, .slice none 0 0), (5, .int .i64 r5)] (fun R hR => st_val hS rfl rfl rfl (r_move hS rfl rfl) fun a13 hS13 => st_val hS13 rfl rfl rfl (r_assign hS13 rfl rfl) fun a14 hS14 => st_val hS14 rfl rfl rfl (r_assign hS14 rfl rfl) fun a15 hS15 => wpList_nil (hR _ (hS15.re ⟨rfl, rfl, trivial⟩))) ?_
    clear hS
    clear a
    intro a hS
    refine wp_ret ?_
    have e := Option.some.inj H
    subst e
    repeat (with_reducible first | refine then_ret ?_ | refine inBlock_ret ?_)
    exact c_ret2 hS Try.results20 rfl rfl ⟨_, rfl, g8, none, 0, rfl, OwS.nil (kint .i64) 3 w8 g8 r0, hF⟩
  · replace H := ite_f hb12 H
    refine wp_skip ?_
    change Code.wp _ _ _ _ _
    obtain ⟨y17, hy18, H⟩ := bind_el H
    refine c_region (fun K hK => ?_)
    refine st_val hS rfl rfl rfl (r_move hS rfl rfl) fun a16 hS16 => ?_
    refine st_eff hS16 rfl rfl rfl (e_make (e := 4) (sz := 1) (by_ := 1) (z := [.bool false]) (kd := kbool) (N + 0) g8 hS16 rfl rfl (by kernel_rfl) (by kernel_rfl) rfl rfl rfl (fun _ _ _ => rfl) hy18) ?_
    rintro _ a23 w24 g24 ⟨⟨A19, cap20, rfl, h21⟩, F24⟩ hS23
    replace hp1 := RdS.fr hp1 F24 (by decide) (fun _ _ h => h)
    replace hF := hF.trans F24 (fun _ h => h.elim)
    refine st_val hS23 rfl rfl rfl (r_assign hS23 rfl rfl) fun a25 hS25 => wpList_nil (hK _ _ ?_)
    replace hS : Sl 106 _ [(0, .int .i64 p0), (1, .slice A1 p1.length cap1), (7, .slice A19 y17.length cap20)] := hS25.re ⟨rfl, rfl, rfl, trivial⟩
    clear hK K
    try clear hS16 hS23 hS25
    obtain ⟨a, ha⟩ : ∃ a', a' = a25 := ⟨_, rfl⟩
    rw [← ha] at hS ⊢; clear ha
    obtain ⟨v27, H, Hl29⟩ := bind_el H
    refine c_cut (fun a w26 => ∃ (g26 : Nat → Nat), Sl 106 a [(0, .int .i64 p0), (1, .slice A1 p1.length cap1), (7, .slice A19 v27.length cap20)] ∧ OwS kbool 4 w26 g26 (N + 0) A19 cap20 v27 ∧ RdS kd_api_Link w26 g26 C1 A1 cap1 p1 ∧ Fr (fun q => (r0 ≤ q ∧ q < r0 + 2) ∨ N ≤ q) w g w26 g26) ?_ ?_
    · refine c_pure [(0, .int .i64 p0), (1, .slice A1 p1.length cap1), (7, .slice A19 y17.length cap20), (28, .int .i64 (y17.length : Int)), (29, .int .i64 0)] (fun R hR => st_val hS rfl rfl rfl (r_move hS rfl rfl) fun a30 hS30 => st_val hS30 rfl rfl rfl (r_len (e := 4) (sz := 1) (by_ := 1) hS30 rfl rfl (by kernel_rfl)) fun a31 hS31 => st_val hS31 rfl rfl rfl (r_move hS31 rfl rfl) fun a32 hS32 => wpList_nil (hR _ (hS32.re ⟨rfl, rfl, rfl, rfl, rfl, trivial⟩))) ?_
      clear hS
      clear a
      intro a hS
      refine wp_block ?_
      refine wp_loop_ghost (fun kq => fun a w33 => ∃ (m0_0 : List Bool), ∃ (m0_1 : Int), ∃ (g33 : Nat → Nat), depgraph_Cycle.l0 y17 kq m0_0 m0_1 = some v27 ∧ Sl 106 a [(0, .int .i64 p0), (1, .slice A1 p1.length cap1), (7, .slice A19 m0_0.length cap20), (28, .int .i64 (y17.length : Int)), (29, .int .i64 m0_1)] ∧ OwS kbool 4 w33 g33 (N + 0) A19 cap20 m0_0 ∧ RdS kd_api_Link w33 g33 C1 A1 cap1 p1 ∧ Fr (fun q => (r0 ≤ q ∧ q < r0 + 2) ∨ N ≤ q) w g w33 g33) FUEL ?_ ?_
      · exact ⟨y17, 0, g24, H, hS.re ⟨rfl, rfl, rfl, rfl, rfl, trivial⟩, h21, hp1, hF⟩
      · clear H
        clear hp1 h21 hF
        clear hS
        rintro k34 a w33 ⟨m0_0, m0_1, g33, hpre0, hS, h21, hp1, hF⟩
        have H := hpre0
        clear hpre0
        cases k34 with
        | zero => exact absurd H (by simp [depgraph_Cycle.l0])
        | succ k34 =>
          rw [depgraph_Cycle.l0] at H
          refine c_pure [(0, .int .i64 p0), (1, .slice A1 p1.length cap1), (7, .slice A19 m0_0.length cap20), (28, .int .i64 (y17.length : Int)), (29, .int .i64 m0_1), (30, .bool (decide (m0_1 < (y17.length : Int))))] (fun R hR => st_val hS rfl rfl rfl (r_bin hS rfl rfl rfl b_lss) fun a35 hS35 => wpList_nil (hR _ (hS35.re ⟨rfl, rfl, rfl, rfl, rfl, rfl, trivial⟩))) ?_
          clear hS
          clear a
          intro a hS
          refine c_if hS rfl (fun hb36 => ?_) (fun hb36 => ?_)
          · replace H := ite_t hb36 H
            refine wp_skip ?_
            change Code.wp _ _ _ _ _
            refine wp_seq ?_
            refine wp_block ?_
            refine c_pure [(0, .int .i64 p0), (1, .slice A1 p1.length cap1), (7, .slice A19 m0_0.length cap20), (8, .int .i64 m0_1), (28, .int .i64 (y17.length : Int)), (29, .int .i64 m0_1)] (fun R hR => st_val hS rfl rfl rfl (r_move hS rfl rfl) fun a37 hS37 => st_val hS37 rfl rfl rfl (r_assign hS37 rfl rfl) fun a38 hS38 => wpList_nil (hR _ (hS38.re ⟨rfl, rfl, rfl, rfl, rfl, rfl, trivial⟩))) ?_
            clear hS
            clear a
            intro a hS
            obtain ⟨x41, hx42, H⟩ := bind_el H
            refine c_region1 (fun K hK => ?_)
            refine st_val hS rfl rfl rfl (r_move hS rfl rfl) fun a39 hS39 => st_val hS39 rfl rfl rfl (r_move hS39 rfl rfl) fun a40 hS40 => st_val hS40 rfl rfl rfl (r_index (e := 4) (sz := 1) (by_ := 1) hS40 rfl rfl rfl (by kernel_rfl) (RdS.some_ (OwS.rd h21) hx42) (idx_lo hx42) (idx_hi hx42)) fun a43 hS43 => ?_
            refine st_effS hS43 rfl rfl (e_storeE (n := 1) (bb := false) (kd := kbool) (j := 0) (x' := true) (us := [.bool true]) g33 hS43 rfl rfl rfl rfl (by kernel_rfl) rfl rfl (by intro v hv; simp only [List.mem_cons, List.not_mem_nil, or_false] at hv; rcases hv with rfl <;> rfl) h21 hx42 rfl (fun _ _ cs hR => by rw [show cs = _ from hR]; rfl)) ?_
            rintro a44 w45 g45 ⟨h21, F45⟩ hS44
            replace hp1 := RdS.fr hp1 F45 (by decide) (fun q (hq : C1 q) (hm : q = N + 0) => by have := hC1 q hq; omega)
            replace hF := hF.trans F45 (fun c' (hm : c' = N + 0) => by show (r0 ≤ c' ∧ c' < r0 + 2) ∨ N ≤ c'; omega)
            have hT : Sl 106 a44 [(0, .int .i64 p0), (1, .slice A1 p1.length cap1), (7, .slice A19 m0_0.length cap20), (28, .int .i64 (y17.length : Int)), (29, .int .i64 m0_1)] := hS44.re ⟨rfl, rfl, rfl, rfl, rfl, trivial⟩
            replace hS44 : Sl 106 a44 [(0, .int .i64 p0), (1, .slice A1 p1.length cap1), (7, .slice A19 (upd m0_0 m0_1 true).length cap20), (28, .int .i64 (y17.length : Int)), (29, .int .i64 m0_1)] := by simpa only [upd_length] using hT
            clear hT
            refine wpList_nil (hK _ _ ?_)
            replace hS : Sl 106 _ [(0, .int .i64 p0), (1, .slice A1 p1.length cap1), (7, .slice A19 (upd m0_0 m0_1 true).length cap20), (28, .int .i64 (y17.length : Int)), (29, .int .i64 m0_1)] := hS44.re ⟨rfl, rfl, rfl, rfl, rfl, trivial⟩
            clear hK K
            try clear hS39 hS40 hS43 hS44
            obtain ⟨a, ha⟩ : ∃ a', a' = a44 := ⟨_, rfl⟩
            rw [← ha] at hS ⊢; clear ha
            change Code.wp _ _ _ _ _
            refine c_pure1 [(0, .int .i64 p0), (1, .slice A1 p1.length cap1), (7, .slice A19 (upd m0_0 m0_1 true).length cap20), (28, .int .i64 (y17.length : Int)), (29, .int .i64 (wi (m0_1 + 1)))] (fun R hR => st_val hS rfl rfl rfl (r_bin hS rfl rfl rfl b_add) fun a46 hS46 => st_val hS46 rfl rfl rfl (r_move hS46 rfl rfl) fun a47 hS47 => wpList_nil (hR _ (hS47.re ⟨rfl, rfl, rfl, rfl, rfl, trivial⟩))) ?_
            clear hS
            clear a
            intro a hS
            refine ⟨k34, Nat.lt_succ_self _, ?_⟩
            exact ⟨(upd m0_0 m0_1 true), wi (m0_1 + 1), g45, H, hS.re ⟨rfl, rfl, rfl, rfl, rfl, trivial⟩, h21, hp1, hF⟩
          · replace H := ite_f hb36 H
            refine wp_exit ?_
            have e := Option.some.inj H
            subst e
            exact ⟨g33, hS.re ⟨rfl, rfl, rfl, trivial⟩, h21, hp1, hF⟩
    · clear H
      clear hp1 h21 hF
      clear hS
      rintro a w26 ⟨g26, hS, h21, hp1, hF⟩
      have H := Hl29
      clear Hl29
      obtain ⟨v49, H, Hl51⟩ := bind_el H
      refine c_cut (fun a w48 => ∃ (g48 : Nat → Nat), Sl 106 a [(0, .int .i64 p0), (1, .slice A1 p1.length cap1), (7, .slice A19 v49.length cap20)] ∧ OwS kbool 4 w48 g48 (N + 0) A19 cap20 v49 ∧ RdS kd_api_Link w48 g48 C1 A1 cap1 p1 ∧ Fr (fun q => (r0 ≤ q ∧ q < r0 + 2) ∨ N ≤ q) w g w48 g48) ?_ ?_
      · obtain ⟨r54, hr55, H⟩ := bind_el H
        refine c_region (fun K hK => ?_)
        refine st_val hS rfl rfl rfl (r_move hS rfl rfl) fun a52 hS52 => st_val hS52 rfl rfl rfl (r_move hS52 rfl rfl) fun a53 hS53 => ?_
        refine st_enter hS53 rfl rfl rfl (r_call hS53 rfl rfl (by kernel_rfl)) (depgraph_sort.calls (C1 := C1) (p0 := p0) (p1 := p1) (g := g26) (N + 16) (N + 2) hp1 (fun q (hq : C1 q) => by have := hC1 q hq; omega) (by omega) hr55) ?_
        rintro _ a60 w61 ⟨g61, A56, cap57, rfl, h58, F61⟩ hS60
        replace h21 := OwS.fr h21 F61 (fun c' hc (hm : (N + 2 ≤ c' ∧ c' < N + 2 + 2) ∨ N + 16 ≤ c') => by omega)
        replace hp1 := RdS.fr hp1 F61 (by decide) (fun q (hq : C1 q) (hm : (N + 2 ≤ q ∧ q < N + 2 + 2) ∨ N + 16 ≤ q) => by have := hC1 q hq; omega)
        replace hF := hF.trans F61 (fun c' (hm : (N + 2 ≤ c' ∧ c' < N + 2 + 2) ∨ N + 16 ≤ c') => by show (r0 ≤ c' ∧ c' < r0 + 2) ∨ N ≤ c'; omega)
        refine st_val hS60 rfl rfl rfl (r_len (e := 3) (sz := 1) (by_ := 8) hS60 rfl rfl (by kernel_rfl)) fun a62 hS62 => st_val hS62 rfl rfl rfl (r_move hS62 rfl rfl) fun a63 hS63 => wpList_nil (hK _ _ ?_)
        replace hS : Sl 106 _ [(0, .int .i64 p0), (1, .slice A1 p1.length cap1), (7, .slice A19 v27.length cap20), (38, .slice A56 r54.length cap57), (39, .int .i64 (r54.length : Int)), (40, .int .i64 0)] := hS63.re ⟨rfl, rfl, rfl, rfl, rfl, rfl, trivial⟩
        clear hK K
        try clear hS52 hS53 hS60 hS62 hS63
        obtain ⟨a, ha⟩ : ∃ a', a' = a63 := ⟨_, rfl⟩
        rw [← ha] at hS ⊢; clear ha
        refine wp_block ?_
        refine wp_loop_ghost (fun kq => fun a w64 => ∃ (m1_0 : List Bool), ∃ (m1_1 : Int), ∃ (g64 : Nat → Nat), depgraph_Cycle.l1 r54 kq m1_0 m1_1 = some v49 ∧ Sl 106 a [(0, .int .i64 p0), (1, .slice A1 p1.length cap1), (7, .slice A19 m1_0.length cap20), (38, .slice A56 r54.length cap57), (39, .int .i64 (r54.length : Int)), (40, .int .i64 m1_1)] ∧ OwS kbool 4 w64 g64 (N + 0) A19 cap20 m1_0 ∧ OwS (kint .i64) 3 w64 g64 (N + 2) A56 cap57 r54 ∧ RdS kd_api_Link w64 g64 C1 A1 cap1 p1 ∧ Fr (fun q => (r0 ≤ q ∧ q < r0 + 2) ∨ N ≤ q) w g w64 g64) FUEL ?_ ?_
        · exact ⟨v27, 0, g61, H, hS.re ⟨rfl, rfl, rfl, rfl, rfl, rfl, trivial⟩, h21, h58, hp1, hF⟩
        · clear H
          clear hp1 h21 h58 hF
          clear hS
          rintro k65 a w64 ⟨m1_0, m1_1, g64, hpre0, hS, h21, h58, hp1, hF⟩
          have H := hpre0
          clear hpre0
          cases k65 with
          | zero => exact absurd H (by simp [depgraph_Cycle.l1])
          | succ k65 =>
            rw [depgraph_Cycle.l1] at H
            refine c_pure [(0, .int .i64 p0), (1, .slice A1 p1.length cap1), (7, .slice A19 m1_0.length cap20), (38, .slice A56 r54.length cap57), (39, .int .i64 (r54.length : Int)), (40, .int .i64 m1_1), (41, .bool (decide (m1_1 < (r54.length : Int))))] (fun R hR => st_val hS rfl rfl rfl (r_bin hS rfl rfl rfl b_lss) fun a66 hS66 => wpList_nil (hR _ (hS66.re ⟨rfl, rfl, rfl, rfl, rfl, rfl, rfl, trivial⟩))) ?_
            clear hS
            clear a
            intro a hS
            refine c_if hS rfl (fun hb67 => ?_) (fun hb67 => ?_)
            · replace H := ite_t hb67 H
              refine wp_skip ?_
              change Code.wp _ _ _ _ _
              refine wp_seq ?_
              refine wp_block ?_
              obtain ⟨x68, hx69, H⟩ := bind_el H
              refine c_pure [(0, .int .i64 p0), (1, .slice A1 p1.length cap1), (7, .slice A19 m1_0.length cap20), (10, .int .i64 x68), (38, .slice A56 r54.length cap57), (39, .int .i64 (r54.length : Int)), (40, .int .i64 m1_1)] (fun R hR => st_val hS rfl rfl rfl (r_index (e := 3) (sz := 1) (by_ := 8) hS rfl rfl rfl (by kernel_rfl) (RdS.some_ (OwS.rd h58) hx69) (idx_lo hx69) (idx_hi hx69)) fun a70 hS70 => st_val hS70 rfl rfl rfl (r_load1 (n := 1) hS70 rfl rfl (by kernel_rfl) (RdS.cell (i := m1_1) (sz := 1) (j := 0) (OwS.rd h58) hx69 rfl)) fun a71 hS71 => st_val hS71 rfl rfl rfl (r_assign hS71 rfl rfl) fun a72 hS72 => wpList_nil (hR _ (hS72.re ⟨rfl, rfl, rfl, rfl, rfl, rfl, rfl, trivial⟩))) ?_
              clear hS
              clear a
              intro a hS
              obtain ⟨x75, hx76, H⟩ := bind_el H
              refine c_region1 (fun K hK => ?_)
              refine st_val hS rfl rfl rfl (r_move hS rfl rfl) fun a73 hS73 => st_val hS73 rfl rfl rfl (r_move hS73 rfl rfl) fun a74 hS74 => st_val hS74 rfl rfl rfl (r_index (e := 4) (sz := 1) (by_ := 1) hS74 rfl rfl rfl (by kernel_rfl) (RdS.some_ (OwS.rd h21) hx76) (idx_lo hx76) (idx_hi hx76)) fun a77 hS77 => ?_
              refine st_effS hS77 rfl rfl (e_storeE (n := 1) (bb := false) (kd := kbool) (j := 0) (x' := false) (us := [.bool false]) g64 hS77 rfl rfl rfl rfl (by kernel_rfl) rfl rfl (by intro v hv; simp only [List.mem_cons, List.not_mem_nil, or_false] at hv; rcases hv with rfl <;> rfl) h21 hx76 rfl (fun _ _ cs hR => by rw [show cs = _ from hR]; rfl)) ?_
              rintro a78 w79 g79 ⟨h21, F79⟩ hS78
              replace h58 := OwS.fr h58 F79 (fun c' hc (hm : c' = N + 0) => by omega)
              replace hp1 := RdS.fr hp1 F79 (by decide) (fun q (hq : C1 q) (hm : q = N + 0) => by have := hC1 q hq; omega)
              replace hF := hF.trans F79 (fun c' (hm : c' = N + 0) => by show (r0 ≤ c' ∧ c' < r0 + 2) ∨ N ≤ c'; omega)
              have hT : Sl 106 a78 [(0, .int .i64 p0), (1, .slice A1 p1.length cap1), (7, .slice A19 m1_0.length cap20), (38, .slice A56 r54.length cap57), (39, .int .i64 (r54.length : Int)), (40, .int .i64 m1_1)] := hS78.re ⟨rfl, rfl, rfl, rfl, rfl, rfl, trivial⟩
              replace hS78 : Sl 106 a78 [(0, .int .i64 p0), (1, .slice A1 p1.length cap1), (7, .slice A19 (upd m1_0 x68 false).length cap20), (38, .slice A56 r54.length cap57), (39, .int .i64 (r54.length : Int)), (40, .int .i64 m1_1)] := by simpa only [upd_length] using hT
              clear hT
              refine wpList_nil (hK _ _ ?_)
              replace hS : Sl 106 _ [(0, .int .i64 p0), (1, .slice A1 p1.length cap1), (7, .slice A19 (upd m1_0 x68 false).length cap20), (38, .slice A56 r54.length cap57), (39, .int .i64 (r54.length : Int)), (40, .int .i64 m1_1)] := hS78.re ⟨rfl, rfl, rfl, rfl, rfl, rfl, trivial⟩
              clear hK K
              try clear hS73 hS74 hS77 hS78
              obtain ⟨a, ha⟩ : ∃ a', a' = a78 := ⟨_, rfl⟩
              rw [← ha] at hS ⊢; clear ha
              change Code.wp _ _ _ _ _
              refine c_pure1 [(0, .int .i64 p0), (1, .slice A1 p1.length cap1), (7, .slice A19 (upd m1_0 x68 false).length cap20), (38, .slice A56 r54.length cap57), (39, .int .i64 (r54.length : Int)), (40, .int .i64 (wi (m1_1 + 1)))] (fun R hR => st_val hS rfl rfl rfl (r_bin hS rfl rfl rfl b_add) fun a80 hS80 => st_val hS80 rfl rfl rfl (r_move hS80 rfl rfl) fun a81 hS81 => wpList_nil (hR _ (hS81.re ⟨rfl, rfl, rfl, rfl, rfl, rfl, trivial⟩))) ?_
              clear hS
              clear a
              intro a hS
              refine ⟨k65, Nat.lt_succ_self _, ?_⟩
              exact ⟨(upd m1_0 x68 false), wi (m1_1 + 1), g79, H, hS.re ⟨rfl, rfl, rfl, rfl, rfl, rfl, trivial⟩, h21, h58, hp1, hF⟩
            · replace H := ite_f hb67 H
              refine wp_exit ?_
              have e := Option.some.inj H
              subst e
              exact ⟨g64, hS.re ⟨rfl, rfl, rfl, trivial⟩, h21, hp1, hF⟩
      · clear H
        clear hp1 h21 hF
        clear hS
        rintro a w48 ⟨g48, hS, h21, hp1, hF⟩
        have H := Hl51
        clear Hl51
        obtain ⟨y83, hy84, H⟩ := bind_el H
        refine c_region (fun K hK => ?_)
        refine st_val hS rfl rfl rfl (r_move hS rfl rfl) fun a82 hS82 => ?_
        refine st_eff hS82 rfl rfl rfl (e_make (e := 3) (sz := 1) (by_ := 8) (z := [.int .i64 0]) (kd := (kint .i64)) (N + 4) g48 hS82 rfl rfl (by kernel_rfl) (by kernel_rfl) rfl rfl rfl (fun _ _ _ => rfl) hy84) ?_
        rintro _ a89 w90 g90 ⟨⟨A85, cap86, rfl, h87⟩, F90⟩ hS89
        replace h21 := OwS.fr h21 F90 (fun _ _ h => h)
        replace hp1 := RdS.fr hp1 F90 (by decide) (fun _ _ h => h)
        replace hF := hF.trans F90 (fun _ h => h.elim)
        refine st_val hS89 rfl rfl rfl (r_assign hS89 rfl rfl) fun a91 hS91 => wpList_nil (hK _ _ ?_)
        replace hS : Sl 106 _ [(0, .int .i64 p0), (1, .slice A1 p1.length cap1), (7, .slice A19 v49.length cap20), (11, .slice A85 y83.length cap86)] := hS91.re ⟨rfl, rfl, rfl, rfl, trivial⟩
        clear hK K
        try clear hS82 hS89 hS91
        obtain ⟨a, ha⟩ : ∃ a', a' = a91 := ⟨_, rfl⟩
        rw [← ha] at hS ⊢; clear ha
        obtain ⟨v93, H, Hl95⟩ := bind_el H
        refine c_cut (fun a w92 => ∃ (g92 : Nat → Nat), Sl 106 a [(1, .slice A1 p1.length cap1), (7, .slice A19 v49.length cap20), (11, .slice A85 v93.length cap86)] ∧ OwS kbool 4 w92 g92 (N + 0) A19 cap20 v49 ∧ OwS (kint .i64) 3 w92 g92 (N + 4) A85 cap86 v93 ∧ RdS kd_api_Link w92 g92 C1 A1 cap1 p1 ∧ Fr (fun q => (r0 ≤ q ∧ q < r0 + 2) ∨ N ≤ q) w g w92 g92) ?_ ?_
        · refine c_pure [(0, .int .i64 p0), (1, .slice A1 p1.length cap1), (7, .slice A19 v49.length cap20), (11, .slice A85 y83.length cap86), (51, .int .i64 (y83.length : Int)), (52, .int .i64 0)] (fun R hR => st_val hS rfl rfl rfl (r_move hS rfl rfl) fun a96 hS96 => st_val hS96 rfl rfl rfl (r_len (e := 3) (sz := 1) (by_ := 8) hS96 rfl rfl (by kernel_rfl)) fun a97 hS97 => st_val hS97 rfl rfl rfl (r_move hS97 rfl rfl) fun a98 hS98 => wpList_nil (hR _ (hS98.re ⟨rfl, rfl, rfl, rfl, rfl, rfl, trivial⟩))) ?_
          clear hS
          clear a
          intro a hS
          refine wp_block ?_
          refine wp_loop_ghost (fun kq => fun a w99 => ∃ (m2_0 : List Int), ∃ (m2_1 : Int), ∃ (g99 : Nat → Nat), depgraph_Cycle.l2 p0 y83 kq m2_0 m2_1 = some v93 ∧ Sl 106 a [(0, .int .i64 p0), (1, .slice A1 p1.length cap1), (7, .slice A19 v49.length cap20), (11, .slice A85 m2_0.length cap86), (51, .int .i64 (y83.length : Int)), (52, .int .i64 m2_1)] ∧ OwS kbool 4 w99 g99 (N + 0) A19 cap20 v49 ∧ OwS (kint .i64) 3 w99 g99 (N + 4) A85 cap86 m2_0 ∧ RdS kd_api_Link w99 g99 C1 A1 cap1 p1 ∧ Fr (fun q => (r0 ≤ q ∧ q < r0 + 2) ∨ N ≤ q) w g w99 g99) FUEL ?_ ?_
          · exact ⟨y83, 0, g90, H, hS.re ⟨rfl, rfl, rfl, rfl, rfl, rfl, trivial⟩, h21, h87, hp1, hF⟩
          · clear H
            clear hp1 h21 h87 hF
            clear hS
            rintro k100 a w99 ⟨m2_0, m2_1, g99, hpre0, hS, h21, h87, hp1, hF⟩
            have H := hpre0
            clear hpre0
            cases k100 with
            | zero => exact absurd H (by simp [depgraph_Cycle.l2])
            | succ k100 =>
              rw [depgraph_Cycle.l2] at H
              refine c_pure [(0, .int .i64 p0), (1, .slice A1 p1.length cap1), (7, .slice A19 v49.length cap20), (11, .slice A85 m2_0.length cap86), (51, .int .i64 (y83.length : Int)), (52, .int .i64 m2_1), (53, .bool (decide (m2_1 < (y83.length : Int))))] (fun R hR => st_val hS rfl rfl rfl (r_bin hS rfl rfl rfl b_lss) fun a101 hS101 => wpList_nil (hR _ (hS101.re ⟨rfl, rfl, rfl, rfl, rfl, rfl, rfl, trivial⟩))) ?_
              clear hS
              clear a
              intro a hS
              refine c_if hS rfl (fun hb102 => ?_) (fun hb102 => ?_)
              · replace H := ite_t hb102 H
                refine wp_skip ?_
                change Code.wp _ _ _ _ _
                refine wp_seq ?_
                refine wp_block ?_
                refine c_pure [(0, .int .i64 p0), (1, .slice A1 p1.length cap1), (7, .slice A19 v49.length cap20), (11, .slice A85 m2_0.length cap86), (12, .int .i64 m2_1), (51, .int .i64 (y83.length : Int)), (52, .int .i64 m2_1)] (fun R hR => st_val hS rfl rfl rfl (r_move hS rfl rfl) fun a103 hS103 => st_val hS103 rfl rfl rfl (r_assign hS103 rfl rfl) fun a104 hS104 => wpList_nil (hR _ (hS104.re ⟨rfl, rfl, rfl, rfl, rfl, rfl, rfl, trivial⟩))) ?_
                clear hS
                clear a
                intro a hS
                obtain ⟨x108, hx109, H⟩ := bind_el H
                refine c_region1 (fun K hK => ?_)
                refine st_val hS rfl rfl rfl (r_move hS rfl rfl) fun a105 hS105 => st_val hS105 rfl rfl rfl (r_move hS105 rfl rfl) fun a106 hS106 => st_val hS106 rfl rfl rfl (r_move hS106 rfl rfl) fun a107 hS107 => st_val hS107 rfl rfl rfl (r_index (e := 3) (sz := 1) (by_ := 8) hS107 rfl rfl rfl (by kernel_rfl) (RdS.some_ (OwS.rd h87) hx109) (idx_lo hx109) (idx_hi hx109)) fun a110 hS110 => ?_
                refine st_effS hS110 rfl rfl (e_storeE (n := 1) (bb := false) (kd := (kint .i64)) (j := 0) (x' := p0) (us := [.int .i64 p0]) g99 hS110 rfl rfl rfl rfl (by kernel_rfl) rfl rfl (by intro v hv; simp only [List.mem_cons, List.not_mem_nil, or_false] at hv; rcases hv with rfl <;> rfl) h87 hx109 rfl (fun _ _ cs hR => by rw [show cs = _ from hR]; rfl)) ?_
                rintro a111 w112 g112 ⟨h87, F112⟩ hS111
                replace h21 := OwS.fr h21 F112 (fun c' hc (hm : c' = N + 4) => by omega)
                replace hp1 := RdS.fr hp1 F112 (by decide) (fun q (hq : C1 q) (hm : q = N + 4) => by have := hC1 q hq; omega)
                replace hF := hF.trans F112 (fun c' (hm : c' = N + 4) => by show (r0 ≤ c' ∧ c' < r0 + 2) ∨ N ≤ c'; omega)
                have hT : Sl 106 a111 [(0, .int .i64 p0), (1, .slice A1 p1.length cap1), (7, .slice A19 v49.length cap20), (11, .slice A85 m2_0.length cap86), (51, .int .i64 (y83.length : Int)), (52, .int .i64 m2_1)] := hS111.re ⟨rfl, rfl, rfl, rfl, rfl, rfl, trivial⟩
                replace hS111 : Sl 106 a111 [(0, .int .i64 p0), (1, .slice A1 p1.length cap1), (7, .slice A19 v49.length cap20), (11, .slice A85 (upd m2_0 m2_1 p0).length cap86), (51, .int .i64 (y83.length : Int)), (52, .int .i64 m2_1)] := by simpa only [upd_length] using hT
                clear hT
                refine wpList_nil (hK _ _ ?_)
                replace hS : Sl 106 _ [(0, .int .i64 p0), (1, .slice A1 p1.length cap1), (7, .slice A19 v49.length cap20), (11, .slice A85 (upd m2_0 m2_1 p0).length cap86), (51, .int .i64 (y83.length : Int)), (52, .int .i64 m2_1)] := hS111.re ⟨rfl, rfl, rfl, rfl, rfl, rfl, trivial⟩
                clear hK K
                try clear hS105 hS106 hS107 hS110 hS111
                obtain ⟨a, ha⟩ : ∃ a', a' = a111 := ⟨_, rfl⟩
                rw [← ha] at hS ⊢; clear ha
                change Code.wp _ _ _ _ _
                refine c_pure1 [(0, .int .i64 p0), (1, .slice A1 p1.length cap1), (7, .slice A19 v49.length cap20), (11, .slice A85 (upd m2_0 m2_1 p0).length cap86), (51, .int .i64 (y83.length : Int)), (52, .int .i64 (wi (m2_1 + 1)))] (fun R hR => st_val hS rfl rfl rfl (r_bin hS rfl rfl rfl b_add) fun a113 hS113 => st_val hS113 rfl rfl rfl (r_move hS113 rfl rfl) fun a114 hS114 => wpList_nil (hR _ (hS114.re ⟨rfl, rfl, rfl, rfl, rfl, rfl, trivial⟩))) ?_
                clear hS
                clear a
                intro a hS
                refine ⟨k100, Nat.lt_succ_self _, ?_⟩
                exact ⟨(upd m2_0 m2_1 p0), wi (m2_1 + 1), g112, H, hS.re ⟨rfl, rfl, rfl, rfl, rfl, rfl, trivial⟩, h21, h87, hp1, hF⟩
              · replace H := ite_f hb102 H
                refine wp_exit ?_
                have e := Option.some.inj H
                subst e
                exact ⟨g99, hS.re ⟨rfl, rfl, rfl, trivial⟩, h21, h87, hp1, hF⟩
        · clear H
          clear hp1 h21 h87 hF
          clear hS
          rintro a w92 ⟨g92, hS, h21, h87, hp1, hF⟩
          have H := Hl95
          clear Hl95
          obtain ⟨v116, H, Hl118⟩ := bind_el H
          refine c_cut (fun a w115 => ∃ (g115 : Nat → Nat), Sl 106 a [(7, .slice A19 v49.length cap20), (11, .slice A85 v116.length cap86)] ∧ OwS kbool 4 w115 g115 (N + 0) A19 cap20 v49 ∧ OwS (kint .i64) 3 w115 g115 (N + 4) A85 cap86 v116 ∧ Fr (fun q => (r0 ≤ q ∧ q < r0 + 2) ∨ N ≤ q) w g w115 g115) ?_ ?_
          · refine c_pure [(7, .slice A19 v49.length cap20), (11, .slice A85 v93.length cap86), (60, .slice A1 p1.length cap1), (61, .int .i64 (p1.length : Int)), (62, .int .i64 0)] (fun R hR => st_val hS rfl rfl rfl (r_move hS rfl rfl) fun a119 hS119 => st_val hS119 rfl rfl rfl (r_len (e := 34) (sz := 2) (by_ := 16) hS119 rfl rfl (by kernel_rfl)) fun a120 hS120 => st_val hS120 rfl rfl rfl (r_move hS120 rfl rfl) fun a121 hS121 => wpList_nil (hR _ (hS121.re ⟨rfl, rfl, rfl, rfl, rfl, trivial⟩))) ?_
            clear hS
            clear a
            intro a hS
            refine wp_block ?_
            refine wp_loop_ghost (fun kq => fun a w122 => ∃ (m3_0 : List Int), ∃ (m3_1 : Int), ∃ (g122 : Nat → Nat), depgraph_Cycle.l3 p1 v49 kq m3_0 m3_1 = some v116 ∧ Sl 106 a [(7, .slice A19 v49.length cap20), (11, .slice A85 m3_0.length cap86), (60, .slice A1 p1.length cap1), (61, .int .i64 (p1.length : Int)), (62, .int .i64 m3_1)] ∧ OwS kbool 4 w122 g122 (N + 0) A19 cap20 v49 ∧ OwS (kint .i64) 3 w122 g122 (N + 4) A85 cap86 m3_0 ∧ RdS kd_api_Link w122 g122 C1 A1 cap1 p1 ∧ Fr (fun q => (r0 ≤ q ∧ q < r0 + 2) ∨ N ≤ q) w g w122 g122) FUEL ?_ ?_
            · exact ⟨v93, 0, g92, H, hS.re ⟨rfl, rfl, rfl, rfl, rfl, trivial⟩, h21, h87, hp1, hF⟩
            · clear H
              clear hp1 h21 h87 hF
              clear hS
              rintro k123 a w122 ⟨m3_0, m3_1, g122, hpre0, hS, h21, h87, hp1, hF⟩
              have H := hpre0
              clear hpre0
              cases k123 with
              | zero => exact absurd H (by simp [depgraph_Cycle.l3])
              | succ k123 =>
                rw [depgraph_Cycle.l3] at H
                refine c_pure [(7, .slice A19 v49.length cap20), (11, .slice A85 m3_0.length cap86), (60, .slice A1 p1.length cap1), (61, .int .i64 (p1.length : Int)), (62, .int .i64 m3_1), (63, .bool (decide (m3_1 < (p1.length : Int))))] (fun R hR => st_val hS rfl rfl rfl (r_bin hS rfl rfl rfl b_lss) fun a124 hS124 => wpList_nil (hR _ (hS124.re ⟨rfl, rfl, rfl, rfl, rfl, rfl, trivial⟩))) ?_
                clear hS
                clear a
                intro a hS
                refine c_if hS rfl (fun hb125 => ?_) (fun hb125 => ?_)
                · replace H := ite_t hb125 H
                  refine wp_skip ?_
                  change Code.wp _ _ _ _ _
                  obtain ⟨v127, H, Hl129⟩ := bind_el H
                  refine c_cut (fun a w126 => ∃ (g126 : Nat → Nat), Sl 106 a [(7, .slice A19 v49.length cap20), (11, .slice A85 v127.length cap86), (60, .slice A1 p1.length cap1), (61, .int .i64 (p1.length : Int)), (62, .int .i64 m3_1)] ∧ OwS kbool 4 w126 g126 (N + 0) A19 cap20 v49 ∧ OwS (kint .i64) 3 w126 g126 (N + 4) A85 cap86 v127 ∧ RdS kd_api_Link w126 g126 C1 A1 cap1 p1 ∧ Fr (fun q => (r0 ≤ q ∧ q < r0 + 2) ∨ N ≤ q) w g w126 g126) ?_ ?_
                  · refine wp_block ?_
                    obtain ⟨x130, hx131, H⟩ := bind_el H
                    refine c_region (fun K hK => ?_)
                    refine st_val hS rfl rfl rfl (r_index (e := 34) (sz := 2) (by_ := 16) hS rfl rfl rfl (by kernel_rfl) (RdS.some_ hp1 hx131) (idx_lo hx131) (idx_hi hx131)) fun a132 hS132 => st_val hS132 rfl rfl rfl (r_loadN (n := 2) (cs := [.int .i64 x130.Consumer, .int .i64 x130.Supplier]) hS132 rfl rfl (by kernel_rfl) rfl (RdS.cells_off hp1 hx131 0 2)) fun a133 hS133 => ?_
                    refine st_eff hS133 rfl rfl rfl (e_alloc (cs := [.int .i64 0, .int .i64 0]) (N + 6) g122 hS133 rfl (by kernel_rfl)) ?_
                    rintro _ a137 w138 g138 ⟨⟨b134, rfl, h135⟩, F138⟩ hS137
                    replace h21 := OwS.fr h21 F138 (fun _ _ h => h)
                    replace h87 := OwS.fr h87 F138 (fun _ _ h => h)
                    replace hp1 := RdS.fr hp1 F138 (by decide) (fun _ _ h => h)
                    replace hF := hF.trans F138 (fun _ h => h.elim)
                    refine st_effS hS137 rfl rfl (e_storeB (n := 2) (bb := true) (cs' := [.int .i64 x130.Consumer, .int .i64 x130.Supplier]) g138 hS137 rfl rfl rfl (by kernel_rfl) rfl rfl rfl h135 rfl rfl) ?_
                    rintro a139 w140 g140 ⟨h135, F140⟩ hS139
                    replace h21 := OwS.fr h21 F140 (fun c' hc (hm : c' = N + 6) => by omega)
                    replace h87 := OwS.fr h87 F140 (fun c' hc (hm : c' = N + 6) => by omega)
                    replace hp1 := RdS.fr hp1 F140 (by decide) (fun q (hq : C1 q) (hm : q = N + 6) => by have := hC1 q hq; omega)
                    replace hF := hF.trans F140 (fun c' (hm : c' = N + 6) => by show (r0 ≤ c' ∧ c' < r0 + 2) ∨ N ≤ c'; omega)
                    refine wpList_nil (hK _ _ ?_)
                    replace hS : Sl 106 _ [(7, .slice A19 v49.length cap20), (11, .slice A85 m3_0.length cap86), (14, .pointer (some ⟨b134, 0, none⟩)), (60, .slice A1 p1.length cap1), (61, .int .i64 (p1.length : Int)), (62, .int .i64 m3_1)] := hS139.re ⟨rfl, rfl, rfl, rfl, rfl, rfl, trivial⟩
                    clear hK K
                    try clear hS132 hS133 hS137 hS139
                    obtain ⟨a, ha⟩ : ∃ a', a' = a139 := ⟨_, rfl⟩
                    rw [← ha] at hS ⊢; clear ha
                    obtain ⟨x144, hx145, H⟩ := bind_el H
                    refine c_pure [(7, .slice A19 v49.length cap20), (11, .slice A85 m3_0.length cap86), (14, .pointer (some ⟨b134, 0, none⟩)), (60, .slice A1 p1.length cap1), (61, .int .i64 (p1.length : Int)), (62, .int .i64 m3_1), (70, .bool x144)] (fun R hR => st_val hS rfl rfl rfl (r_move hS rfl rfl) fun a141 hS141 => st_val hS141 rfl rfl rfl (r_fieldB (off := 1) hS141 rfl rfl (by kernel_rfl)) fun a142 hS142 => st_val hS142 rfl rfl rfl (r_load1 (n := 1) hS142 rfl rfl (by kernel_rfl) (Bx.cell h135 rfl)) fun a143 hS143 => st_val hS143 rfl rfl rfl (r_index (e := 4) (sz := 1) (by_ := 1) hS143 rfl rfl rfl (by kernel_rfl) (RdS.some_ (OwS.rd h21) hx145) (idx_lo hx145) (idx_hi hx145)) fun a146 hS146 => st_val hS146 rfl rfl rfl (r_load1 (n := 1) hS146 rfl rfl (by kernel_rfl) (RdS.cell (i := x130.Supplier) (sz := 1) (j := 0) (OwS.rd h21) hx145 rfl)) fun a147 hS147 => wpList_nil (hR _ (hS147.re ⟨rfl, rfl, rfl, rfl, rfl, rfl, rfl, trivial⟩))) ?_
                    clear hS
                    clear a
                    intro a hS
                    refine c_cond hS rfl (fun hb148 => ?_) (fun hb148 => ?_)
                    · replace H := ite_t hb148 H
                      obtain ⟨x149, hx150, H⟩ := bind_el H
                      refine c_draw1 (fun K hK => d_start (fun q => False) g140 [12] 13 #[false, false, false, false, false, false, false, false, false, false, false, false, false] (by kernel_rfl) rfl rfl (fun w151 hw151 => ?_))
                      have F151 : Fr (fun _ => False) w140 g140 w151 g140 := by rw [hw151]; exact Fr.drew _ _ _
                      replace h135 := h135.fr F151 (fun h => h)
                      replace h21 := OwS.fr h21 F151 (fun _ _ h => h)
                      replace h87 := OwS.fr h87 F151 (fun _ _ h => h)
                      replace hp1 := RdS.fr hp1 F151 (by decide) (fun _ _ h => h)
                      replace hF := hF.trans F151 (fun _ h => h.elim)
                      have hC : Fr (fun q => False) w151 g140 w151 g140 := Fr.refl _ _ _
                      refine d_pure hS 0 #[true, false, false, false, false, false, false, false, false, false, false, false, false] rfl rfl rfl rfl (by kernel_rfl) (fun _ _ _ h => h) (fun _ => (r_move hS rfl rfl)) fun a152 hS152 => d_pure hS152 1 #[true, true, false, false, false, false, false, false, false, false, false, false, false] rfl rfl rfl rfl (by kernel_rfl) (fun _ _ _ h => h) (fun _ => (r_fieldB (off := 0) hS152 rfl rfl (by kernel_rfl))) fun a153 hS153 => d_take hS153 2 #[true, true, true, false, false, false, false, false, false, false, false, false, false] rfl rfl rfl rfl (by kernel_rfl) (fun _ _ _ h => h) ⟨_, hC⟩ (fun w' g' Fz => (r_load1 (n := 1) hS153 rfl rfl (by kernel_rfl) (Bx.cell (h135.fr Fz (fun h => h)) rfl))) fun a154 hS154 => d_pure hS154 3 #[true, true, true, true, false, false, false, false, false, false, false, false, false] rfl rfl rfl rfl (by kernel_rfl) (fun _ _ _ h => h) (fun _ => (r_move hS154 rfl rfl)) fun a155 hS155 => d_pure hS155 4 #[true, true, true, true, true, false, false, false, false, false, false, false, false] rfl rfl rfl rfl (by kernel_rfl) (fun _ _ _ h => h) (fun _ => (r_fieldB (off := 0) hS155 rfl rfl (by kernel_rfl))) fun a156 hS156 => d_take hS156 5 #[true, true, true, true, true, true, false, false, false, false, false, false, false] rfl rfl rfl rfl (by kernel_rfl) (fun _ _ _ h => h) ⟨_, hC⟩ (fun w' g' Fz => (r_load1 (n := 1) hS156 rfl rfl (by kernel_rfl) (Bx.cell (h135.fr Fz (fun h => h)) rfl))) fun a157 hS157 => d_pure hS157 6 #[true, true, true, true, true, true, true, false, false, false, false, false, false] rfl rfl rfl rfl (by kernel_rfl) (fun _ _ _ h => h) (fun _ => (r_index (e := 3) (sz := 1) (by_ := 8) hS157 rfl rfl rfl (by kernel_rfl) (RdS.some_ (OwS.rd h87) hx150) (idx_lo hx150) (idx_hi hx150))) fun a158 hS158 => d_take hS158 7 #[true, true, true, true, true, true, true, true, false, false, false, false, false] rfl rfl rfl rfl (by kernel_rfl) (fun _ _ _ h => h) ⟨_, hC⟩ (fun w' g' Fz => (r_load1 (n := 1) hS158 rfl rfl (by kernel_rfl) (RdS.cell (i := x130.Consumer) (sz := 1) (j := 0) (OwS.rd (OwS.fr h87 Fz (fun _ _ h => h))) hx150 rfl))) fun a159 hS159 => d_pure hS159 8 #[true, true, true, true, true, true, true, true, true, false, false, false, false] rfl rfl rfl rfl (by kernel_rfl) (fun _ _ _ h => h) (fun _ => (r_fieldB (off := 1) hS159 rfl rfl (by kernel_rfl))) fun a160 hS160 => d_take hS160 9 #[true, true, true, true, true, true, true, true, true, true, false, false, false] rfl rfl rfl rfl (by kernel_rfl) (fun _ _ _ h => h) ⟨_, hC⟩ (fun w' g' Fz => (r_load1 (n := 1) hS160 rfl rfl (by kernel_rfl) (Bx.cell (h135.fr Fz (fun h => h)) rfl))) fun a161 hS161 => d_pure hS161 10 #[true, true, true, true, true, true, true, true, true, true, true, false, false] rfl rfl rfl rfl (by kernel_rfl) (fun _ _ _ h => h) (fun _ => (r_min hS161 rfl rfl rfl)) fun a162 hS162 => d_pure hS162 11 #[true, true, true, true, true, true, true, true, true, true, true, true, false] rfl rfl rfl rfl (by kernel_rfl) (fun _ _ _ h => h) (fun _ => (r_index (e := 3) (sz := 1) (by_ := 8) hS162 rfl rfl rfl (by kernel_rfl) (RdS.some_ (OwS.rd h87) hx150) (idx_lo hx150) (idx_hi hx150))) fun a163 hS163 => ?_
                      refine d_one 12 #[true, true, true, true, true, true, true, true, true, true, true, true, true] rfl (by kernel_rfl) (arm_effS hS163 rfl rfl (e_storeE (n := 1) (bb := false) (kd := (kint .i64)) (j := 0) (x' := (min x149 x130.Supplier)) (us := [.int .i64 (min x149 x130.Supplier)]) g140 hS163 rfl rfl rfl rfl (by kernel_rfl) rfl rfl (by intro v hv; simp only [List.mem_cons, List.not_mem_nil, or_false] at hv; rcases hv with rfl <;> rfl) h87 hx150 rfl (fun _ _ cs hR => by rw [show cs = _ from hR]; rfl)) (.inl (by decide)) ?_)
                      rintro a164 w165 g165 ⟨h87, F165⟩ hS164
                      replace h135 := h135.fr F165 (fun (hm : N + 6 = N + 4) => by omega)
                      replace h21 := OwS.fr h21 F165 (fun c' hc (hm : c' = N + 4) => by omega)
                      replace hp1 := RdS.fr hp1 F165 (by decide) (fun q (hq : C1 q) (hm : q = N + 4) => by have := hC1 q hq; omega)
                      replace hF := hF.trans F165 (fun c' (hm : c' = N + 4) => by show (r0 ≤ c' ∧ c' < r0 + 2) ∨ N ≤ c'; omega)
                      have hT : Sl 106 a164 [(7, .slice A19 v49.length cap20), (11, .slice A85 m3_0.length cap86), (60, .slice A1 p1.length cap1), (61, .int .i64 (p1.length : Int)), (62, .int .i64 m3_1)] := hS164.re ⟨rfl, rfl, rfl, rfl, rfl, trivial⟩
                      replace hS164 : Sl 106 a164 [(7, .slice A19 v49.length cap20), (11, .slice A85 (upd m3_0 x130.Consumer (min x149 x130.Supplier)).length cap86), (60, .slice A1 p1.length cap1), (61, .int .i64 (p1.length : Int)), (62, .int .i64 m3_1)] := by simpa only [upd_length] using hT
                      clear hT
                      refine d_done (by kernel_rfl) (hK _ _ ?_)
                      replace hS : Sl 106 _ [(7, .slice A19 v49.length cap20), (11, .slice A85 (upd m3_0 x130.Consumer (min x149 x130.Supplier)).length cap86), (60, .slice A1 p1.length cap1), (61, .int .i64 (p1.length : Int)), (62, .int .i64 m3_1)] := hS164.re ⟨rfl, rfl, rfl, rfl, rfl, trivial⟩
                      clear hK K hC
                      try clear hS152 hS153 hS154 hS155 hS156 hS157 hS158 hS159 hS160 hS161 hS162 hS163 hS164
                      obtain ⟨a, ha⟩ : ∃ a', a' = a164 := ⟨_, rfl⟩
                      rw [← ha] at hS ⊢; clear ha
                      have e := Option.some.inj H
                      subst e
                      exact ⟨g165, hS.re ⟨rfl, rfl, rfl, rfl, rfl, trivial⟩, h21, h87, hp1, hF⟩
                    · replace H := ite_f hb148 H
                      refine wp_skip ?_
                      have e := Option.some.inj H
                      subst e
                      exact ⟨g140, hS.re ⟨rfl, rfl, rfl, rfl, rfl, trivial⟩, h21, h87, hp1, hF⟩
                  · clear H
                    clear hp1 h21 h87 hF
                    clear hS
                    rintro a w126 ⟨g126, hS, h21, h87, hp1, hF⟩
                    have H := Hl129
                    clear Hl129
                    refine c_pure1 [(7, .slice A19 v49.length cap20), (11, .slice A85 v127.length cap86), (60, .slice A1 p1.length cap1), (61, .int .i64 (p1.length : Int)), (62, .int .i64 (wi (m3_1 + 1)))] (fun R hR => st_val hS rfl rfl rfl (r_bin hS rfl rfl rfl b_add) fun a166 hS166 => st_val hS166 rfl rfl rfl (r_move hS166 rfl rfl) fun a167 hS167 => wpList_nil (hR _ (hS167.re ⟨rfl, rfl, rfl, rfl, rfl, trivial⟩))) ?_
                    clear hS
                    clear a
                    intro a hS
                    refine ⟨k123, Nat.lt_succ_self _, ?_⟩
                    exact ⟨v127, wi (m3_1 + 1), g126, H, hS.re ⟨rfl, rfl, rfl, rfl, rfl, trivial⟩, h21, h87, hp1, hF⟩
                · replace H := ite_f hb125 H
                  refine wp_exit ?_
                  have e := Option.some.inj H
                  subst e
                  exact ⟨g122, hS.re ⟨rfl, rfl, trivial⟩, h21, h87, hF⟩
          · clear H
            clear hp1 h21 h87 hF
            clear hS
            rintro a w115 ⟨g115, hS, h21, h87, hF⟩
            have H := Hl118
            clear Hl118
            obtain ⟨r169, hr170, H⟩ := bind_el H
            refine c_region (fun K hK => ?_)
            refine st_val hS rfl rfl rfl (r_move hS rfl rfl) fun a168 hS168 => ?_
            refine st_enter hS168 rfl rfl rfl (r_call hS168 rfl rfl (by kernel_rfl)) (slices_Index_bool_bool.calls (C0 := (fun q => q = N + 0)) (p0 := v49) (p1 := true) (g := g115) (N + 16)  (OwD.rdf (fun _ _ _ _ _ _ h => h) h21) (fun q (hq : q = N + 0) => by omega) hr170) ?_
            rintro _ a171 w172 ⟨g172, rfl, F172⟩ hS171
            replace h21 := OwS.fr h21 F172 (fun c' hc (hm : N + 16 ≤ c') => by omega)
            replace h87 := OwS.fr h87 F172 (fun c' hc (hm : N + 16 ≤ c') => by omega)
            replace hF := hF.trans F172 (fun c' (hm : N + 16 ≤ c') => by show (r0 ≤ c' ∧ c' < r0 + 2) ∨ N ≤ c'; omega)
            refine st_val hS171 rfl rfl rfl (r_assign hS171 rfl rfl) fun a173 hS173 => wpList_nil (hK _ _ ?_)
            replace hS : Sl 106 _ [(11, .slice A85 v116.length cap86), (15, .int .i64 r169)] := hS173.re ⟨rfl, rfl, trivial⟩
            clear hK K
            try clear hS168 hS171 hS173
            obtain ⟨a, ha⟩ : ∃ a', a' = a173 := ⟨_, rfl⟩
            rw [← ha] at hS ⊢; clear ha
            refine wp_seq ?_
            refine c_pure [(11, .slice A85 v116.length cap86), (15, .int .i64 r169), (87, .bool (decide (r169 < 0)))] (fun R hR => st_val hS rfl rfl rfl (r_move hS rfl rfl) fun a174 hS174 => st_val hS174 rfl rfl rfl (r_bin hS174 rfl rfl rfl b_lss) fun a175 hS175 => wpList_nil (hR _ (hS175.re ⟨rfl, rfl, rfl, trivial⟩))) ?_
            clear hS
            clear a
            intro a hS
            refine c_cond hS rfl (fun hb176 => ?_) (fun hb176 => ?_)
            · replace H := ite_t hb176 H
              refine c_pure [(4, .slice none 0 0), (5, .int .i64 6)] (fun R hR => st_val hS rfl rfl rfl (r_assign hS rfl rfl) fun a177 hS177 => st_val hS177 rfl rfl rfl (r_assign hS177 rfl rfl) fun a178 hS178 => wpList_nil (hR _ (hS178.re ⟨rfl, rfl, trivial⟩))) ?_
              clear hS
              clear a
              intro a hS
              refine wp_ret ?_
              have e := Option.some.inj H
              subst e
              repeat (with_reducible first | refine then_ret ?_ | refine inBlock_ret ?_)
              exact c_ret2 hS Try.results20 rfl rfl ⟨_, rfl, g172, none, 0, rfl, OwS.nil (kint .i64) 3 w172 g172 r0, hF⟩
            · replace H := ite_f hb176 H
              refine wp_skip ?_
              change Code.wp _ _ _ _ _
              refine c_pure [(11, .slice A85 v116.length cap86), (15, .int .i64 r169), (16, .slice none 0 0)] (fun R hR => st_val hS rfl rfl rfl (r_assign hS rfl rfl) fun a179 hS179 => wpList_nil (hR _ (hS179.re ⟨rfl, rfl, rfl, trivial⟩))) ?_
              clear hS
              clear a
              intro a hS
              refine c_pure [(11, .slice A85 v116.length cap86), (16, .slice none 0 0), (17, .int .i64 r169)] (fun R hR => st_val hS rfl rfl rfl (r_move hS rfl rfl) fun a180 hS180 => st_val hS180 rfl rfl rfl (r_assign hS180 rfl rfl) fun a181 hS181 => wpList_nil (hR _ (hS181.re ⟨rfl, rfl, rfl, trivial⟩))) ?_
              clear hS
              clear a
              intro a hS
              refine wp_block ?_
              refine wp_loop_ghost (fun kq => fun a w182 => ∃ (m4_0 : List Int), ∃ (m4_1 : Int), ∃ (g182 : Nat → Nat), ∃ (A183 : Option Addr), ∃ (cap184 : Nat), depgraph_Cycle.l4 v116 kq m4_0 m4_1 = some out ∧ Sl 106 a [(11, .slice A85 v116.length cap86), (16, .slice A183 m4_0.length cap184), (17, .int .i64 m4_1)] ∧ OwS (kint .i64) 3 w182 g182 (N + 4) A85 cap86 v116 ∧ OwS (kint .i64) 3 w182 g182 (N + 14) A183 cap184 m4_0 ∧ Fr (fun q => (r0 ≤ q ∧ q < r0 + 2) ∨ N ≤ q) w g w182 g182) FUEL ?_ ?_
              · exact ⟨[], r169, g172, none, 0, H, hS.re ⟨rfl, rfl, rfl, trivial⟩, h87, OwS.nil (kint .i64) 3 w172 g172 (N + 14), hF⟩
              · clear H
                clear h87 hF
                clear hS
                rintro k186 a w182 ⟨m4_0, m4_1, g182, A183, cap184, hpre0, hS, h87, h185, hF⟩
                have H := hpre0
                clear hpre0
                cases k186 with
                | zero => exact absurd H (by simp [depgraph_Cycle.l4])
                | succ k186 =>
                  rw [depgraph_Cycle.l4] at H
                  refine wp_seq ?_
                  refine wp_block ?_
                  refine wp_seq ?_
                  obtain ⟨r189, hr190, H⟩ := bind_el H
                  refine c_region (fun K hK => ?_)
                  refine st_val hS rfl rfl rfl (r_move hS rfl rfl) fun a187 hS187 => st_val hS187 rfl rfl rfl (r_move hS187 rfl rfl) fun a188 hS188 => ?_
                  refine st_enter hS188 rfl rfl rfl (r_call hS188 rfl rfl (by kernel_rfl)) (slices_Index_int_int.calls (C0 := (fun q => q = N + 14)) (p0 := m4_0) (p1 := m4_1) (g := g182) (N + 16)  (OwD.rdf (fun _ _ _ _ _ _ h => h) h185) (fun q (hq : q = N + 14) => by omega) hr190) ?_
                  rintro _ a191 w192 ⟨g192, rfl, F192⟩ hS191
                  replace h87 := OwS.fr h87 F192 (fun c' hc (hm : N + 16 ≤ c') => by omega)
                  replace h185 := OwS.fr h185 F192 (fun c' hc (hm : N + 16 ≤ c') => by omega)
                  replace hF := hF.trans F192 (fun c' (hm : N + 16 ≤ c') => by show (r0 ≤ c' ∧ c' < r0 + 2) ∨ N ≤ c'; omega)
                  refine st_val hS191 rfl rfl rfl (r_assign hS191 rfl rfl) fun a193 hS193 => wpList_nil (hK _ _ ?_)
                  replace hS : Sl 106 _ [(11, .slice A85 v116.length cap86), (16, .slice A183 m4_0.length cap184), (17, .int .i64 m4_1), (18, .int .i64 r189)] := hS193.re ⟨rfl, rfl, rfl, rfl, trivial⟩
                  clear hK K
                  try clear hS187 hS188 hS191 hS193
                  obtain ⟨a, ha⟩ : ∃ a', a' = a193 := ⟨_, rfl⟩
                  rw [← ha] at hS ⊢; clear ha
                  refine c_pure [(11, .slice A85 v116.length cap86), (16, .slice A183 m4_0.length cap184), (17, .int .i64 m4_1), (18, .int .i64 r189), (97, .bool (decide (0 ≤ r189)))] (fun R hR => st_val hS rfl rfl rfl (r_move hS rfl rfl) fun a194 hS194 => st_val hS194 rfl rfl rfl (r_bin hS194 rfl rfl rfl b_geq) fun a195 hS195 => wpList_nil (hR _ (hS195.re ⟨rfl, rfl, rfl, rfl, rfl, trivial⟩))) ?_
                  clear hS
                  clear a
                  intro a hS
                  refine c_cond hS rfl (fun hb196 => ?_) (fun hb196 => ?_)
                  · replace H := ite_t hb196 H
                    obtain ⟨y199, hy200, H⟩ := bind_el H
                    obtain ⟨r204, hr205, H⟩ := bind_el H
                    refine c_region (fun K hK => ?_)
                    refine st_val hS rfl rfl rfl (r_move hS rfl rfl) fun a197 hS197 => st_val hS197 rfl rfl rfl (r_move hS197 rfl rfl) fun a198 hS198 => ?_
                    have h201 := RdS.slc (OwS.rd h185) hy200
                    refine st_val hS198 rfl rfl rfl (r_slice (e := 3) (sz := 1) (by_ := 8) (l := r189) (h := (m4_0.length : Int)) hS198 rfl rfl (by kernel_rfl) rfl rfl hy200 (OwS.rd h185).1) fun a203 hS203 => ?_
                    refine st_enter hS203 rfl rfl rfl (r_call hS203 rfl rfl (by kernel_rfl)) (slices_Clone_int_int.calls (C0 := (fun q => q = N + 14 ∨ q = N + 14 + 1)) (p0 := y199) (g := g192) (N + 16) (N + 10) h201 (fun q (hq : q = N + 14 ∨ q = N + 14 + 1) => by rcases hq with hq | hq; all_goals first | (omega; done) | (omega; done)) (by omega) hr205) ?_
                    rintro _ a210 w211 ⟨g211, A206, cap207, rfl, h208, F211⟩ hS210
                    replace h201 := RdS.fr h201 F211 (by decide) (fun q (hq : q = N + 14 ∨ q = N + 14 + 1) (hm : (N + 10 ≤ q ∧ q < N + 10 + 2) ∨ N + 16 ≤ q) => by rcases hq with hq | hq; all_goals first | (omega; done) | (omega; done))
                    replace h87 := OwS.fr h87 F211 (fun c' hc (hm : (N + 10 ≤ c' ∧ c' < N + 10 + 2) ∨ N + 16 ≤ c') => by omega)
                    replace h185 := OwS.fr h185 F211 (fun c' hc (hm : (N + 10 ≤ c' ∧ c' < N + 10 + 2) ∨ N + 16 ≤ c') => by omega)
                    replace hF := hF.trans F211 (fun c' (hm : (N + 10 ≤ c' ∧ c' < N + 10 + 2) ∨ N + 16 ≤ c') => by show (r0 ≤ c' ∧ c' < r0 + 2) ∨ N ≤ c'; omega)
                    refine st_val hS210 rfl rfl rfl (r_assign hS210 rfl rfl) fun a212 hS212 => st_val hS212 rfl rfl rfl (r_assign hS212 rfl rfl) fun a213 hS213 => wpList_nil (hK _ _ ?_)
                    replace hS : Sl 106 _ [(4, .slice A206 r204.length cap207), (5, .int .i64 0)] := hS213.re ⟨rfl, rfl, trivial⟩
                    clear hK K
                    try clear hS197 hS198 hS203 hS210 hS212 hS213
                    obtain ⟨a, ha⟩ : ∃ a', a' = a213 := ⟨_, rfl⟩
                    rw [← ha] at hS ⊢; clear ha
                    refine wp_ret ?_
                    have e := Option.some.inj H
                    subst e
                    have F214 := Fr.recol2 w211 g211 (N + 10) r0
                    replace h208 := h208.recol2 r0
                    replace hF := hF.trans F214 (fun c' (hm : c' = N + 10 ∨ c' = N + 10 + 1) => by show (r0 ≤ c' ∧ c' < r0 + 2) ∨ N ≤ c'; omega)
                    repeat (with_reducible first | refine then_ret ?_ | refine inBlock_ret ?_)
                    exact c_ret2 hS Try.results20 rfl rfl ⟨_, rfl, (recol2 g211 (N + 10) r0), A206, cap207, rfl, h208, hF⟩
                  · replace H := ite_f hb196 H
                    refine wp_skip ?_
                    change Code.wp _ _ _ _ _
                    obtain ⟨y222, hy223, H⟩ := bind_el H
                    refine c_region1 (fun K hK => ?_)
                    refine st_val hS rfl rfl rfl (r_move hS rfl rfl) fun a215 hS215 => st_val hS215 rfl rfl rfl (r_move hS215 rfl rfl) fun a216 hS216 => ?_
                    refine st_eff hS216 rfl rfl rfl (e_lit (e := 3) (parts := [(0, .int .i64 m4_1)]) (cs := [.int .i64 m4_1]) (kint .i64) [m4_1] (N + 12) g192 hS216 rfl rfl (fun _ => by kernel_rfl) rfl (by decide) (Rows.cons (cs := [.int .i64 m4_1]) rfl Rows.nil)) ?_
                    rintro _ a220 w221 g221 ⟨⟨A217, rfl, h218⟩, F221⟩ hS220
                    replace h87 := OwS.fr h87 F221 (fun _ _ h => h)
                    replace h185 := OwS.fr h185 F221 (fun _ _ h => h)
                    replace hF := hF.trans F221 (fun _ h => h.elim)
                    refine st_eff hS220 rfl rfl rfl (e_append (e := 3) (sz := 1) (by_ := 8) (z := [.int .i64 0]) (kd := (kint .i64)) g221 hS220 rfl rfl rfl rfl (by kernel_rfl) (by kernel_rfl) rfl rfl rfl rfl h185 (OwD.rdx h218) (fun _ _ _ h => h) hy223) ?_
                    rintro _ a228 w229 g229 ⟨⟨A224, cap225, rfl, h226⟩, F229⟩ hS228
                    replace h218 := OwS.fr h218 F229 (fun c' hc (hm : c' = N + 14) => by omega)
                    replace h87 := OwS.fr h87 F229 (fun c' hc (hm : c' = N + 14) => by omega)
                    replace hF := hF.trans F229 (fun c' (hm : c' = N + 14) => by show (r0 ≤ c' ∧ c' < r0 + 2) ∨ N ≤ c'; omega)
                    refine st_val hS228 rfl rfl rfl (r_assign hS228 rfl rfl) fun a230 hS230 => wpList_nil (hK _ _ ?_)
                    replace hS : Sl 106 _ [(11, .slice A85 v116.length cap86), (16, .slice A224 y222.length cap225), (17, .int .i64 m4_1)] := hS230.re ⟨rfl, rfl, rfl, trivial⟩
                    clear hK K
                    try clear hS215 hS216 hS220 hS228 hS230
                    obtain ⟨a, ha⟩ : ∃ a', a' = a230 := ⟨_, rfl⟩
                    rw [← ha] at hS ⊢; clear ha
                    change Code.wp _ _ _ _ _
                    obtain ⟨x233, hx234, H⟩ := bind_el H
                    refine c_pure1 [(11, .slice A85 v116.length cap86), (16, .slice A224 y222.length cap225), (17, .int .i64 x233)] (fun R hR => st_val hS rfl rfl rfl (r_move hS rfl rfl) fun a231 hS231 => st_val hS231 rfl rfl rfl (r_move hS231 rfl rfl) fun a232 hS232 => st_val hS232 rfl rfl rfl (r_index (e := 3) (sz := 1) (by_ := 8) hS232 rfl rfl rfl (by kernel_rfl) (RdS.some_ (OwS.rd h87) hx234) (idx_lo hx234) (idx_hi hx234)) fun a235 hS235 => st_val hS235 rfl rfl rfl (r_load1 (n := 1) hS235 rfl rfl (by kernel_rfl) (RdS.cell (i := m4_1) (sz := 1) (j := 0) (OwS.rd h87) hx234 rfl)) fun a236 hS236 => st_val hS236 rfl rfl rfl (r_assign hS236 rfl rfl) fun a237 hS237 => wpList_nil (hR _ (hS237.re ⟨rfl, rfl, rfl, trivial⟩))) ?_
                    clear hS
                    clear a
                    intro a hS
                    refine ⟨k186, Nat.lt_succ_self _, ?_⟩
                    exact ⟨y222, x233, g229, A224, cap225, H, hS.re ⟨rfl, rfl, rfl, trivial⟩, h87, h226, hF⟩

/-! ### depgraph_Levels: function 23 -/
def depgraph_Levels.l1 (x68 : Int) (x75 : List Int) : Nat → (List Int) → Int → Option ((List Int))
  | 0, _, _ => none
  | k88 + 1, m1_0, m1_1 => if decide (m1_1 < (x75.length : Int)) = true then ((idx x75 m1_1).bind fun x91 => (idx m1_0 x91).bind fun x96 => (idx m1_0 x68).bind fun x98 => depgraph_Levels.l1 x68 x75 k88 (upd m1_0 x91 (max x96 (wi (x98 + 1)))) (wi (m1_1 + 1))) else (some m1_0)
def depgraph_Levels.l0 (r5 : (List Int) × Int) (r26 : (List (List Int)) × (List Int)) : Nat → (List Int) → Int → Option ((List Int))
  | 0, _, _ => none
  | k61 + 1, m0_0, m0_1 => if decide (m0_1 < (r5.1.length : Int)) = true then (((idx r5.1 m0_1).bind fun x68 => (idx r26.1 x68).bind fun x75 => depgraph_Levels.l1 x68 x75 FUEL m0_0 0 : Option ((List Int))).bind fun v65 => depgraph_Levels.l0 r5 r26 k61 v65 (wi (m0_1 + 1))) else (some m0_0)
def depgraph_Levels.f (p0 : Int) (p1 : List api_Link) : Option ((List Int) × Int) := (depgraph_Order.f p0 p1).bind fun r5 => if (r5.2 != 0) = true then (some ([], r5.2)) else ((depgraph_adjacent.f p0 p1).bind fun r26 => (mk p0 0).bind fun y44 => (depgraph_Levels.l0 r5 r26 FUEL y44 0 : Option ((List Int))).bind fun v54 => some (v54, 0))
set_option maxRecDepth 100000 in
set_option maxHeartbeats 4000000 in
theorem depgraph_Levels.calls {p0 : Int} {p1 : List api_Link} {A1 : Option Addr} {cap1 : Nat} {C1 : Nat → Prop} {w : World} {g : Nat → Nat} {out : (List Int) × Int} (N : Nat) (r0 : Nat) (hp1 : RdS kd_api_Link w g C1 A1 cap1 p1) (hC1 : ∀ c, C1 c → c < N) (hr0 : r0 + 2 ≤ N) (H : depgraph_Levels.f p0 p1 = some out) :
    Calls Try.prog 23 #[.int .i64 p0, .slice A1 p1.length cap1] w (fun e w' => ∃ v, e = .returned v ∧ ∃ (g' : Nat → Nat) (A_r0 : Option Addr) (cap_r0 : Nat), v = .tuple #[.slice A_r0 out.1.length cap_r0, .int .i64 out.2] ∧ OwS (kint .i64) 3 w' g' r0 A_r0 cap_r0 out.1 ∧ Fr (fun q => (r0 ≤ q ∧ q < r0 + 2) ∨ N ≤ q) w g w' g') := by
  unfold depgraph_Levels.f at H
  refine calls_enter Try.func23 rfl Try.ntmps23 rfl (fun a hS => ?_)
  replace hS : Sl 63 a [(0, .int .i64 p0), (1, .slice A1 p1.length cap1)] := hS
  have hF : Fr (fun q => (r0 ≤ q ∧ q < r0 + 2) ∨ N ≤ q) w g w g := Fr.refl _ _ _
  refine c_pure [(0, .int .i64 p0), (1, .slice A1 p1.length cap1)] (fun R hR => st_val hS rfl rfl rfl (r_assign hS rfl rfl) fun a1 hS1 => st_val hS1 rfl rfl rfl (r_assign hS1 rfl rfl) fun a2 hS2 => wpList_nil (hR _ (hS2.re ⟨rfl, rfl, trivial⟩))) ?_
  clear hS
  clear a
  intro a hS
  obtain ⟨r5, hr6, H⟩ := bind_el H
  refine c_region (fun K hK => ?_)
  refine st_val hS rfl rfl rfl (r_move hS rfl rfl) fun a3 hS3 => st_val hS3 rfl rfl rfl (r_move hS3 rfl rfl) fun a4 hS4 => ?_
  refine st_enter hS4 rfl rfl rfl (r_call hS4 rfl rfl (by kernel_rfl)) (depgraph_Order.calls (C1 := C1) (p0 := p0) (p1 := p1) (g := g) (N + 8) (N + 0) hp1 (fun q (hq : C1 q) => by have := hC1 q hq; omega) (by omega) hr6) ?_
  rintro _ a11 w12 ⟨g12, A7, cap8, rfl, h9, F12⟩ hS11
  replace hp1 := RdS.fr hp1 F12 (by decide) (fun q (hq : C1 q) (hm : (N + 0 ≤ q ∧ q < N + 0 + 2) ∨ N + 8 ≤ q) => by have := hC1 q hq; omega)
  replace hF := hF.trans F12 (fun c' (hm : (N + 0 ≤ c' ∧ c' < N + 0 + 2) ∨ N + 8 ≤ c') => by show (r0 ≤ c' ∧ c' < r0 + 2) ∨ N ≤ c'; omega)
  refine st_val hS11 rfl rfl rfl (r_move hS11 rfl rfl) fun a13 hS13 => st_val hS13 rfl rfl rfl (r_extract hS13 rfl rfl rfl) fun a14 hS14 => st_val hS14 rfl rfl rfl (r_extract hS14 rfl rfl rfl) fun a15 hS15 => st_val hS15 rfl rfl rfl (r_assign hS15 rfl rfl) fun a16 hS16 => st_val hS16 rfl rfl rfl (r_assign hS16 rfl rfl) fun a17 hS17 => wpList_nil (hK _ _ ?_)
  replace hS : Sl 63 _ [(0, .int .i64 p0), (1, .slice A1 p1.length cap1), (6, .slice A7 r5.1.length cap8), (7, .int .i64 r5.2)] := hS17.re ⟨rfl, rfl, rfl, rfl, trivial⟩
  clear hK K
  try clear hS3 hS4 hS11 hS13 hS14 hS15 hS16 hS17
  obtain ⟨a, ha⟩ : ∃ a', a' = a17 := ⟨_, rfl⟩
  rw [← ha] at hS ⊢; clear ha
  refine wp_seq ?_
  refine c_pure [(0, .int .i64 p0), (1, .slice A1 p1.length cap1), (6, .slice A7 r5.1.length cap8), (7, .int .i64 r5.2), (22, .bool (r5.2 != 0))] (fun R hR => st_val hS rfl rfl rfl (r_move hS rfl rfl) fun a18 hS18 => st_val hS18 rfl rfl rfl (r_bin hS18 rfl rfl rfl b_neq) fun a19 hS19 => wpList_nil (hR _ (hS19.re ⟨rfl, rfl, rfl, rfl, rfl, trivial⟩))) ?_
  clear hS
  clear a
  intro a hS
  refine c_cond hS rfl (fun hb20 => ?_) (fun hb20 => ?_)
  · replace H := ite_t hb20 H
    refine c_pure [(4, .slice none 0 0), (5, .int .i64 r5.2)] (fun R hR => st_val hS rfl rfl rfl (r_move hS rfl rfl) fun a21 hS21 => st_val hS21 rfl rfl rfl (r_assign hS21 rfl rfl) fun a22 hS22 => st_val hS22 rfl rfl rfl (r_assign hS22 rfl rfl) fun a23 hS23 => wpList_nil (hR _ (hS23.re ⟨rfl, rfl, trivial⟩))) ?_
    clear hS
    clear a
    intro a hS
    refine wp_ret ?_
    have e := Option.some.inj H
    subst e
    repeat (with_reducible first | refine then_ret ?_ | refine inBlock_ret ?_)
    exact c_ret2 hS Try.results23 rfl rfl ⟨_, rfl, g12, none, 0, rfl, OwS.nil (kint .i64) 3 w12 g12 r0, hF⟩
  · replace H := ite_f hb20 H
    refine wp_skip ?_
    change Code.wp _ _ _ _ _
    obtain ⟨r26, hr27, H⟩ := bind_el H
    refine c_region (fun K hK => ?_)
    refine st_val hS rfl rfl rfl (r_move hS rfl rfl) fun a24 hS24 => st_val hS24 rfl rfl rfl (r_move hS24 rfl rfl) fun a25 hS25 => ?_
    refine st_enter hS25 rfl rfl rfl (r_call hS25 rfl rfl (by kernel_rfl)) (depgraph_adjacent.calls (C1 := C1) (p0 := p0) (p1 := p1) (g := g12) (N + 8) (N + 2) (N + 4) hp1 (fun q (hq : C1 q) => by have := hC1 q hq; omega) (by omega) (by omega) (by omega) hr27) ?_
    rintro _ a36 w37 ⟨g37, A28, cap29, A32, cap33, rfl, h30, h34, F37⟩ hS36
    replace h9 := OwS.fr h9 F37 (fun c' hc (hm : (N + 2 ≤ c' ∧ c' < N + 2 + 2) ∨ (N + 4 ≤ c' ∧ c' < N + 4 + 2) ∨ N + 8 ≤ c') => by omega)
    replace hp1 := RdS.fr hp1 F37 (by decide) (fun q (hq : C1 q) (hm : (N + 2 ≤ q ∧ q < N + 2 + 2) ∨ (N + 4 ≤ q ∧ q < N + 4 + 2) ∨ N + 8 ≤ q) => by have := hC1 q hq; omega)
    replace hF := hF.trans F37 (fun c' (hm : (N + 2 ≤ c' ∧ c' < N + 2 + 2) ∨ (N + 4 ≤ c' ∧ c' < N + 4 + 2) ∨ N + 8 ≤ c') => by show (r0 ≤ c' ∧ c' < r0 + 2) ∨ N ≤ c'; omega)
    refine st_val hS36 rfl rfl rfl (r_move hS36 rfl rfl) fun a38 hS38 => st_val hS38 rfl rfl rfl (r_extract hS38 rfl rfl rfl) fun a39 hS39 => st_val hS39 rfl rfl rfl (r_extract hS39 rfl rfl rfl) fun a40 hS40 => st_val hS40 rfl rfl rfl (r_assign hS40 rfl rfl) fun a41 hS41 => st_val hS41 rfl rfl rfl (r_assign hS41 rfl rfl) fun a42 hS42 => wpList_nil (hK _ _ ?_)
    replace hS : Sl 63 _ [(0, .int .i64 p0), (6, .slice A7 r5.1.length cap8), (8, .slice A28 r26.1.length cap29)] := hS42.re ⟨rfl, rfl, rfl, trivial⟩
    clear hK K
    try clear hS24 hS25 hS36 hS38 hS39 hS40 hS41 hS42
    obtain ⟨a, ha⟩ : ∃ a', a' = a42 := ⟨_, rfl⟩
    rw [← ha] at hS ⊢; clear ha
    obtain ⟨y44, hy45, H⟩ := bind_el H
    refine c_region (fun K hK => ?_)
    refine st_val hS rfl rfl rfl (r_move hS rfl rfl) fun a43 hS43 => ?_
    refine st_eff hS43 rfl rfl rfl (e_make (e := 3) (sz := 1) (by_ := 8) (z := [.int .i64 0]) (kd := (kint .i64)) (N + 6) g37 hS43 rfl rfl (by kernel_rfl) (by kernel_rfl) rfl rfl rfl (fun _ _ _ => rfl) hy45) ?_
    rintro _ a50 w51 g51 ⟨⟨A46, cap47, rfl, h48⟩, F51⟩ hS50
    replace h9 := OwS.fr h9 F51 (fun _ _ h => h)
    replace h30 := OwS.fr h30 F51 (fun _ _ h => h)
    replace hF := hF.trans F51 (fun _ h => h.elim)
    refine st_val hS50 rfl rfl rfl (r_assign hS50 rfl rfl) fun a52 hS52 => wpList_nil (hK _ _ ?_)
    replace hS : Sl 63 _ [(6, .slice A7 r5.1.length cap8), (8, .slice A28 r26.1.length cap29), (10, .slice A46 y44.length cap47)] := hS52.re ⟨rfl, rfl, rfl, trivial⟩
    clear hK K
    try clear hS43 hS50 hS52
    obtain ⟨a, ha⟩ : ∃ a', a' = a52 := ⟨_, rfl⟩
    rw [← ha] at hS ⊢; clear ha
    obtain ⟨v54, H, Hl56⟩ := bind_el H
    refine c_cut (fun a w53 => ∃ (g53 : Nat → Nat), Sl 63 a [(10, .slice A46 v54.length cap47)] ∧ OwS (kint .i64) 3 w53 g53 (N + 6) A46 cap47 v54 ∧ Fr (fun q => (r0 ≤ q ∧ q < r0 + 2) ∨ N ≤ q) w g w53 g53) ?_ ?_
    · refine c_pure [(8, .slice A28 r26.1.length cap29), (10, .slice A46 y44.length cap47), (32, .slice A7 r5.1.length cap8), (33, .int .i64 (r5.1.length : Int)), (34, .int .i64 0)] (fun R hR => st_val hS rfl rfl rfl (r_move hS rfl rfl) fun a57 hS57 => st_val hS57 rfl rfl rfl (r_len (e := 3) (sz := 1) (by_ := 8) hS57 rfl rfl (by kernel_rfl)) fun a58 hS58 => st_val hS58 rfl rfl rfl (r_move hS58 rfl rfl) fun a59 hS59 => wpList_nil (hR _ (hS59.re ⟨rfl, rfl, rfl, rfl, rfl, trivial⟩))) ?_
      clear hS
      clear a
      intro a hS
      refine wp_block ?_
      refine wp_loop_ghost (fun kq => fun a w60 => ∃ (m0_0 : List Int), ∃ (m0_1 : Int), ∃ (g60 : Nat → Nat), depgraph_Levels.l0 r5 r26 kq m0_0 m0_1 = some v54 ∧ Sl 63 a [(8, .slice A28 r26.1.length cap29), (10, .slice A46 m0_0.length cap47), (32, .slice A7 r5.1.length cap8), (33, .int .i64 (r5.1.length : Int)), (34, .int .i64 m0_1)] ∧ OwS (kint .i64) 3 w60 g60 (N + 0) A7 cap8 r5.1 ∧ OwS (kslice (kint .i64) (by decide)) 26 w60 g60 (N + 2) A28 cap29 r26.1 ∧ OwS (kint .i64) 3 w60 g60 (N + 6) A46 cap47 m0_0 ∧ Fr (fun q => (r0 ≤ q ∧ q < r0 + 2) ∨ N ≤ q) w g w60 g60) FUEL ?_ ?_
      · exact ⟨y44, 0, g51, H, hS.re ⟨rfl, rfl, rfl, rfl, rfl, trivial⟩, h9, h30, h48, hF⟩
      · clear H
        clear h9 h30 h48 hF
        clear hS
        rintro k61 a w60 ⟨m0_0, m0_1, g60, hpre0, hS, h9, h30, h48, hF⟩
        have H := hpre0
        clear hpre0
        cases k61 with
        | zero => exact absurd H (by simp [depgraph_Levels.l0])
        | succ k61 =>
          rw [depgraph_Levels.l0] at H
          refine c_pure [(8, .slice A28 r26.1.length cap29), (10, .slice A46 m0_0.length cap47), (32, .slice A7 r5.1.length cap8), (33, .int .i64 (r5.1.length : Int)), (34, .int .i64 m0_1), (35, .bool (decide (m0_1 < (r5.1.length : Int))))] (fun R hR => st_val hS rfl rfl rfl (r_bin hS rfl rfl rfl b_lss) fun a62 hS62 => wpList_nil (hR _ (hS62.re ⟨rfl, rfl, rfl, rfl, rfl, rfl, trivial⟩))) ?_
          clear hS
          clear a
          intro a hS
          refine c_if hS rfl (fun hb63 => ?_) (fun hb63 => ?_)
          · replace H := ite_t hb63 H
            refine wp_skip ?_
            change Code.wp _ _ _ _ _
            obtain ⟨v65, H, Hl67⟩ := bind_el H
            refine c_cut (fun a w64 => ∃ (g64 : Nat → Nat), Sl 63 a [(8, .slice A28 r26.1.length cap29), (10, .slice A46 v65.length cap47), (32, .slice A7 r5.1.length cap8), (33, .int .i64 (r5.1.length : Int)), (34, .int .i64 m0_1)] ∧ OwS (kint .i64) 3 w64 g64 (N + 0) A7 cap8 r5.1 ∧ OwS (kslice (kint .i64) (by decide)) 26 w64 g64 (N + 2) A28 cap29 r26.1 ∧ OwS (kint .i64) 3 w64 g64 (N + 6) A46 cap47 v65 ∧ Fr (fun q => (r0 ≤ q ∧ q < r0 + 2) ∨ N ≤ q) w g w64 g64) ?_ ?_
            · refine wp_block ?_
              obtain ⟨x68, hx69, H⟩ := bind_el H
              refine c_pure [(8, .slice A28 r26.1.length cap29), (10, .slice A46 m0_0.length cap47), (12, .int .i64 x68), (32, .slice A7 r5.1.length cap8), (33, .int .i64 (r5.1.length : Int)), (34, .int .i64 m0_1)] (fun R hR => st_val hS rfl rfl rfl (r_index (e := 3) (sz := 1) (by_ := 8) hS rfl rfl rfl (by kernel_rfl) (RdS.some_ (OwS.rd h9) hx69) (idx_lo hx69) (idx_hi hx69)) fun a70 hS70 => st_val hS70 rfl rfl rfl (r_load1 (n := 1) hS70 rfl rfl (by kernel_rfl) (RdS.cell (i := m0_1) (sz := 1) (j := 0) (OwS.rd h9) hx69 rfl)) fun a71 hS71 => st_val hS71 rfl rfl rfl (r_assign hS71 rfl rfl) fun a72 hS72 => wpList_nil (hR _ (hS72.re ⟨rfl, rfl, rfl, rfl, rfl, rfl, trivial⟩))) ?_
              clear hS
              clear a
              intro a hS
              obtain ⟨x75, hx76, H⟩ := bind_el H
              refine c_region (fun K hK => ?_)
              refine st_val hS rfl rfl rfl (r_move hS rfl rfl) fun a73 hS73 => st_val hS73 rfl rfl rfl (r_move hS73 rfl rfl) fun a74 hS74 => ?_
              obtain ⟨_, ⟨A78, cap79, rfl, h80⟩, hel77⟩ := El.of (OwD.rdx h30) hx76 (by decide)
              replace hel77 : El w60 g60 (fun q => q = N + 2) A28 (x68.toNat * 1) [.slice A78 x75.length cap79] := hel77
              refine st_val hS74 rfl rfl rfl (r_index (e := 26) (sz := 1) (by_ := 24) hS74 rfl rfl rfl (by kernel_rfl) (RdS.some_ (OwS.rd h30) hx76) (idx_lo hx76) (idx_hi hx76)) fun a83 hS83 => st_val hS83 rfl rfl rfl (r_load1 (n := 1) hS83 rfl rfl (by kernel_rfl) (El.cell (j := 0) hel77 rfl)) fun a84 hS84 => st_val hS84 rfl rfl rfl (r_len (e := 3) (sz := 1) (by_ := 8) hS84 rfl rfl (by kernel_rfl)) fun a85 hS85 => st_val hS85 rfl rfl rfl (r_move hS85 rfl rfl) fun a86 hS86 => wpList_nil (hK _ _ ?_)
              replace hS : Sl 63 _ [(8, .slice A28 r26.1.length cap29), (10, .slice A46 m0_0.length cap47), (12, .int .i64 x68), (32, .slice A7 r5.1.length cap8), (33, .int .i64 (r5.1.length : Int)), (34, .int .i64 m0_1), (41, .slice A78 x75.length cap79), (42, .int .i64 (x75.length : Int)), (43, .int .i64 0)] := hS86.re ⟨rfl, rfl, rfl, rfl, rfl, rfl, rfl, rfl, rfl, trivial⟩
              clear hK K
              try clear hS73 hS74 hS83 hS84 hS85 hS86
              obtain ⟨a, ha⟩ : ∃ a', a' = a86 := ⟨_, rfl⟩
              rw [← ha] at hS ⊢; clear ha
              refine wp_block ?_
              refine wp_loop_ghost (fun kq => fun a w87 => ∃ (m1_0 : List Int), ∃ (m1_1 : Int), ∃ (g87 : Nat → Nat), depgraph_Levels.l1 x68 x75 kq m1_0 m1_1 = some v65 ∧ Sl 63 a [(8, .slice A28 r26.1.length cap29), (10, .slice A46 m1_0.length cap47), (12, .int .i64 x68), (32, .slice A7 r5.1.length cap8), (33, .int .i64 (r5.1.length : Int)), (34, .int .i64 m0_1), (41, .slice A78 x75.length cap79), (42, .int .i64 (x75.length : Int)), (43, .int .i64 m1_1)] ∧ OwS (kint .i64) 3 w87 g87 (N + 0) A7 cap8 r5.1 ∧ OwS (kslice (kint .i64) (by decide)) 26 w87 g87 (N + 2) A28 cap29 r26.1 ∧ OwS (kint .i64) 3 w87 g87 (N + 6) A46 cap47 m1_0 ∧ RdS (kint .i64) w87 g87 (fun q => q = N + 2 + 1) A78 cap79 x75 ∧ Fr (fun q => (r0 ≤ q ∧ q < r0 + 2) ∨ N ≤ q) w g w87 g87) FUEL ?_ ?_
              · exact ⟨m0_0, 0, g60, H, hS.re ⟨rfl, rfl, rfl, rfl, rfl, rfl, rfl, rfl, rfl, trivial⟩, h9, h30, h48, h80, hF⟩
              · clear H
                clear h9 h30 h48 h80 hF
                clear hS
                rintro k88 a w87 ⟨m1_0, m1_1, g87, hpre0, hS, h9, h30, h48, h80, hF⟩
                have H := hpre0
                clear hpre0
                cases k88 with
                | zero => exact absurd H (by simp [depgraph_Levels.l1])
                | succ k88 =>
                  rw [depgraph_Levels.l1] at H
                  refine c_pure [(8, .slice A28 r26.1.length cap29), (10, .slice A46 m1_0.length cap47), (12, .int .i64 x68), (32, .slice A7 r5.1.length cap8), (33, .int .i64 (r5.1.length : Int)), (34, .int .i64 m0_1), (41, .slice A78 x75.length cap79), (42, .int .i64 (x75.length : Int)), (43, .int .i64 m1_1), (44, .bool (decide (m1_1 < (x75.length : Int))))] (fun R hR => st_val hS rfl rfl rfl (r_bin hS rfl rfl rfl b_lss) fun a89 hS89 => wpList_nil (hR _ (hS89.re ⟨rfl, rfl, rfl, rfl, rfl, rfl, rfl, rfl, rfl, rfl, trivial⟩))) ?_
                  clear hS
                  clear a
                  intro a hS
                  refine c_if hS rfl (fun hb90 => ?_) (fun hb90 => ?_)
                  · replace H := ite_t hb90 H
                    refine wp_skip ?_
                    change Code.wp _ _ _ _ _
                    refine wp_seq ?_
                    refine wp_block ?_
                    obtain ⟨x91, hx92, H⟩ := bind_el H
                    refine c_pure [(8, .slice A28 r26.1.length cap29), (10, .slice A46 m1_0.length cap47), (12, .int .i64 x68), (14, .int .i64 x91), (32, .slice A7 r5.1.length cap8), (33, .int .i64 (r5.1.length : Int)), (34, .int .i64 m0_1), (41, .slice A78 x75.length cap79), (42, .int .i64 (x75.length : Int)), (43, .int .i64 m1_1)] (fun R hR => st_val hS rfl rfl rfl (r_index (e := 3) (sz := 1) (by_ := 8) hS rfl rfl rfl (by kernel_rfl) (RdS.some_ h80 hx92) (idx_lo hx92) (idx_hi hx92)) fun a93 hS93 => st_val hS93 rfl rfl rfl (r_load1 (n := 1) hS93 rfl rfl (by kernel_rfl) (RdS.cell (i := m1_1) (sz := 1) (j := 0) h80 hx92 rfl)) fun a94 hS94 => st_val hS94 rfl rfl rfl (r_assign hS94 rfl rfl) fun a95 hS95 => wpList_nil (hR _ (hS95.re ⟨rfl, rfl, rfl, rfl, rfl, rfl, rfl, rfl, rfl, rfl, trivial⟩))) ?_
                    clear hS
                    clear a
                    intro a hS
                    obtain ⟨x96, hx97, H⟩ := bind_el H
                    obtain ⟨x98, hx99, H⟩ := bind_el H
                    refine c_draw1 (fun K hK => d_start (fun q => False) g87 [13] 14 #[false, false, false, false, false, false, false, false, false, false, false, false, false, false] (by kernel_rfl) rfl rfl (fun w100 hw100 => ?_))
                    have F100 : Fr (fun _ => False) w87 g87 w100 g87 := by rw [hw100]; exact Fr.drew _ _ _
                    replace h9 := OwS.fr h9 F100 (fun _ _ h => h)
                    replace h30 := OwS.fr h30 F100 (fun _ _ h => h)
                    replace h48 := OwS.fr h48 F100 (fun _ _ h => h)
                    replace h80 := RdS.fr h80 F100 (by decide) (fun _ _ h => h)
                    replace hF := hF.trans F100 (fun _ h => h.elim)
                    have hC : Fr (fun q => False) w100 g87 w100 g87 := Fr.refl _ _ _
                    refine d_pure hS 0 #[true, false, false, false, false, false, false, false, false, false, false, false, false, false] rfl rfl rfl rfl (by kernel_rfl) (fun _ _ _ h => h) (fun _ => (r_move hS rfl rfl)) fun a101 hS101 => d_pure hS101 1 #[true, true, false, false, false, false, false, false, false, false, false, false, false, false] rfl rfl rfl rfl (by kernel_rfl) (fun _ _ _ h => h) (fun _ => (r_move hS101 rfl rfl)) fun a102 hS102 => d_pure hS102 2 #[true, true, true, false, false, false, false, false, false, false, false, false, false, false] rfl rfl rfl rfl (by kernel_rfl) (fun _ _ _ h => h) (fun _ => (r_move hS102 rfl rfl)) fun a103 hS103 => d_pure hS103 3 #[true, true, true, true, false, false, false, false, false, false, false, false, false, false] rfl rfl rfl rfl (by kernel_rfl) (fun _ _ _ h => h) (fun _ => (r_move hS103 rfl rfl)) fun a104 hS104 => d_pure hS104 4 #[true, true, true, true, true, false, false, false, false, false, false, false, false, false] rfl rfl rfl rfl (by kernel_rfl) (fun _ _ _ h => h) (fun _ => (r_index (e := 3) (sz := 1) (by_ := 8) hS104 rfl rfl rfl (by kernel_rfl) (RdS.some_ (OwS.rd h48) hx97) (idx_lo hx97) (idx_hi hx97))) fun a105 hS105 => d_take hS105 5 #[true, true, true, true, true, true, false, false, false, false, false, false, false, false] rfl rfl rfl rfl (by kernel_rfl) (fun _ _ _ h => h) ⟨_, hC⟩ (fun w' g' Fz => (r_load1 (n := 1) hS105 rfl rfl (by kernel_rfl) (RdS.cell (i := x91) (sz := 1) (j := 0) (OwS.rd (OwS.fr h48 Fz (fun _ _ h => h))) hx97 rfl))) fun a106 hS106 => d_pure hS106 6 #[true, true, true, true, true, true, true, false, false, false, false, false, false, false] rfl rfl rfl rfl (by kernel_rfl) (fun _ _ _ h => h) (fun _ => (r_move hS106 rfl rfl)) fun a107 hS107 => d_pure hS107 7 #[true, true, true, true, true, true, true, true, false, false, false, false, false, false] rfl rfl rfl rfl (by kernel_rfl) (fun _ _ _ h => h) (fun _ => (r_move hS107 rfl rfl)) fun a108 hS108 => d_pure hS108 8 #[true, true, true, true, true, true, true, true, true, false, false, false, false, false] rfl rfl rfl rfl (by kernel_rfl) (fun _ _ _ h => h) (fun _ => (r_index (e := 3) (sz := 1) (by_ := 8) hS108 rfl rfl rfl (by kernel_rfl) (RdS.some_ (OwS.rd h48) hx99) (idx_lo hx99) (idx_hi hx99))) fun a109 hS109 => d_take hS109 9 #[true, true, true, true, true, true, true, true, true, true, false, false, false, false] rfl rfl rfl rfl (by kernel_rfl) (fun _ _ _ h => h) ⟨_, hC⟩ (fun w' g' Fz => (r_load1 (n := 1) hS109 rfl rfl (by kernel_rfl) (RdS.cell (i := x68) (sz := 1) (j := 0) (OwS.rd (OwS.fr h48 Fz (fun _ _ h => h))) hx99 rfl))) fun a110 hS110 => d_pure hS110 10 #[true, true, true, true, true, true, true, true, true, true, true, false, false, false] rfl rfl rfl rfl (by kernel_rfl) (fun _ _ _ h => h) (fun _ => (r_bin hS110 rfl rfl rfl b_add)) fun a111 hS111 => d_pure hS111 11 #[true, true, true, true, true, true, true, true, true, true, true, true, false, false] rfl rfl rfl rfl (by kernel_rfl) (fun _ _ _ h => h) (fun _ => (r_max hS111 rfl rfl rfl)) fun a112 hS112 => d_pure hS112 12 #[true, true, true, true, true, true, true, true, true, true, true, true, true, false] rfl rfl rfl rfl (by kernel_rfl) (fun _ _ _ h => h) (fun _ => (r_index (e := 3) (sz := 1) (by_ := 8) hS112 rfl rfl rfl (by kernel_rfl) (RdS.some_ (OwS.rd h48) hx97) (idx_lo hx97) (idx_hi hx97))) fun a113 hS113 => ?_
                    refine d_one 13 #[true, true, true, true, true, true, true, true, true, true, true, true, true, true] rfl (by kernel_rfl) (arm_effS hS113 rfl rfl (e_storeE (n := 1) (bb := false) (kd := (kint .i64)) (j := 0) (x' := (max x96 (wi (x98 + 1)))) (us := [.int .i64 (max x96 (wi (x98 + 1)))]) g87 hS113 rfl rfl rfl rfl (by kernel_rfl) rfl rfl (by intro v hv; simp only [List.mem_cons, List.not_mem_nil, or_false] at hv; rcases hv with rfl <;> rfl) h48 hx97 rfl (fun _ _ cs hR => by rw [show cs = _ from hR]; rfl)) (.inl (by decide)) ?_)
                    rintro a114 w115 g115 ⟨h48, F115⟩ hS114
                    replace h9 := OwS.fr h9 F115 (fun c' hc (hm : c' = N + 6) => by omega)
                    replace h30 := OwS.fr h30 F115 (fun c' hc (hm : c' = N + 6) => by omega)
                    replace h80 := RdS.fr h80 F115 (by decide) (fun q (hq : q = N + 2 + 1) (hm : q = N + 6) => by omega)
                    replace hF := hF.trans F115 (fun c' (hm : c' = N + 6) => by show (r0 ≤ c' ∧ c' < r0 + 2) ∨ N ≤ c'; omega)
                    have hT : Sl 63 a114 [(8, .slice A28 r26.1.length cap29), (10, .slice A46 m1_0.length cap47), (12, .int .i64 x68), (32, .slice A7 r5.1.length cap8), (33, .int .i64 (r5.1.length : Int)), (34, .int .i64 m0_1), (41, .slice A78 x75.length cap79), (42, .int .i64 (x75.length : Int)), (43, .int .i64 m1_1)] := hS114.re ⟨rfl, rfl, rfl, rfl, rfl, rfl, rfl, rfl, rfl, trivial⟩
                    replace hS114 : Sl 63 a114 [(8, .slice A28 r26.1.length cap29), (10, .slice A46 (upd m1_0 x91 (max x96 (wi (x98 + 1)))).length cap47), (12, .int .i64 x68), (32, .slice A7 r5.1.length cap8), (33, .int .i64 (r5.1.length : Int)), (34, .int .i64 m0_1), (41, .slice A78 x75.length cap79), (42, .int .i64 (x75.length : Int)), (43, .int .i64 m1_1)] := by simpa only [upd_length] using hT
                    clear hT
                    refine d_done (by kernel_rfl) (hK _ _ ?_)
                    replace hS : Sl 63 _ [(8, .slice A28 r26.1.length cap29), (10, .slice A46 (upd m1_0 x91 (max x96 (wi (x98 + 1)))).length cap47), (12, .int .i64 x68), (32, .slice A7 r5.1.length cap8), (33, .int .i64 (r5.1.length : Int)), (34, .int .i64 m0_1), (41, .slice A78 x75.length cap79), (42, .int .i64 (x75.length : Int)), (43, .int .i64 m1_1)] := hS114.re ⟨rfl, rfl, rfl, rfl, rfl, rfl, rfl, rfl, rfl, trivial⟩
                    clear hK K hC
                    try clear hS101 hS102 hS103 hS104 hS105 hS106 hS107 hS108 hS109 hS110 hS111 hS112 hS113 hS114
                    obtain ⟨a, ha⟩ : ∃ a', a' = a114 := ⟨_, rfl⟩
                    rw [← ha] at hS ⊢; clear ha
                    change Code.wp _ _ _ _ _
                    refine c_pure1 [(8, .slice A28 r26.1.length cap29), (10, .slice A46 (upd m1_0 x91 (max x96 (wi (x98 + 1)))).length cap47), (12, .int .i64 x68), (32, .slice A7 r5.1.length cap8), (33, .int .i64 (r5.1.length : Int)), (34, .int .i64 m0_1), (41, .slice A78 x75.length cap79), (42, .int .i64 (x75.length : Int)), (43, .int .i64 (wi (m1_1 + 1)))] (fun R hR => st_val hS rfl rfl rfl (r_bin hS rfl rfl rfl b_add) fun a116 hS116 => st_val hS116 rfl rfl rfl (r_move hS116 rfl rfl) fun a117 hS117 => wpList_nil (hR _ (hS117.re ⟨rfl, rfl, rfl, rfl, rfl, rfl, rfl, rfl, rfl, trivial⟩))) ?_
                    clear hS
                    clear a
                    intro a hS
                    refine ⟨k88, Nat.lt_succ_self _, ?_⟩
                    exact ⟨(upd m1_0 x91 (max x96 (wi (x98 + 1)))), wi (m1_1 + 1), g115, H, hS.re ⟨rfl, rfl, rfl, rfl, rfl, rfl, rfl, rfl, rfl, trivial⟩, h9, h30, h48, h80, hF⟩
                  · replace H := ite_f hb90 H
                    refine wp_exit ?_
                    have e := Option.some.inj H
                    subst e
                    exact ⟨g87, hS.re ⟨rfl, rfl, rfl, rfl, rfl, trivial⟩, h9, h30, h48, hF⟩
            · clear H
              clear h9 h30 h48 hF
              clear hS
              rintro a w64 ⟨g64, hS, h9, h30, h48, hF⟩
              have H := Hl67
              clear Hl67
              refine c_pure1 [(8, .slice A28 r26.1.length cap29), (10, .slice A46 v65.length cap47), (32, .slice A7 r5.1.length cap8), (33, .int .i64 (r5.1.length : Int)), (34, .int .i64 (wi (m0_1 + 1)))] (fun R hR => st_val hS rfl rfl rfl (r_bin hS rfl rfl rfl b_add) fun a118 hS118 => st_val hS118 rfl rfl rfl (r_move hS118 rfl rfl) fun a119 hS119 => wpList_nil (hR _ (hS119.re ⟨rfl, rfl, rfl, rfl, rfl, trivial⟩))) ?_
              clear hS
              clear a
              intro a hS
              refine ⟨k61, Nat.lt_succ_self _, ?_⟩
              exact ⟨v65, wi (m0_1 + 1), g64, H, hS.re ⟨rfl, rfl, rfl, rfl, rfl, trivial⟩, h9, h30, h48, hF⟩
          · replace H := ite_f hb63 H
            refine wp_exit ?_
            have e := Option.some.inj H
            subst e
            exact ⟨g60, hS.re ⟨rfl, trivial⟩, h48, hF⟩
    · clear H
      clear h9 h30 h48 hF
      clear hS
      rintro a w53 ⟨g53, hS, h48, hF⟩
      have H := Hl56
      clear Hl56
      refine c_pure [(4, .slice A46 v54.length cap47), (5, .int .i64 0)] (fun R hR => st_val hS rfl rfl rfl (r_move hS rfl rfl) fun a120 hS120 => st_val hS120 rfl rfl rfl (r_assign hS120 rfl rfl) fun a121 hS121 => st_val hS121 rfl rfl rfl (r_assign hS121 rfl rfl) fun a122 hS122 => wpList_nil (hR _ (hS122.re ⟨rfl, rfl, trivial⟩))) ?_
      clear hS
      clear a
      intro a hS
      refine wp_ret ?_
      have e := Option.some.inj H
      subst e
      have F123 := Fr.recol2 w53 g53 (N + 6) r0
      replace h48 := h48.recol2 r0
      replace hF := hF.trans F123 (fun c' (hm : c' = N + 6 ∨ c' = N + 6 + 1) => by show (r0 ≤ c' ∧ c' < r0 + 2) ∨ N ≤ c'; omega)
      repeat (with_reducible first | refine then_ret ?_ | refine inBlock_ret ?_)
      exact c_ret2 hS Try.results23 rfl rfl ⟨_, rfl, (recol2 g53 (N + 6) r0), A46, cap47, rfl, h48, hF⟩

/-! ### depgraph_reversed: function 45 -/
def depgraph_reversed.l0 (p0 : List api_Link) : Nat → (List api_Link) → Int → Option ((List api_Link))
  | 0, _, _ => none
  | k17 + 1, m0_0, m0_1 => if decide (m0_1 < (p0.length : Int)) = true then ((idx p0 m0_1).bind fun x20 => (app m0_0 [(api_Link.mk x20.Supplier x20.Consumer)]).bind fun y42 => depgraph_reversed.l0 p0 k17 y42 (wi (m0_1 + 1))) else (some m0_0)
def depgraph_reversed.f (p0 : List api_Link) : Option ((List api_Link)) := (depgraph_reversed.l0 p0 FUEL [] 0 : Option ((List api_Link))).bind fun v7 => some v7
set_option maxRecDepth 100000 in
set_option maxHeartbeats 4000000 in
theorem depgraph_reversed.calls {p0 : List api_Link} {A0 : Option Addr} {cap0 : Nat} {C0 : Nat → Prop} {w : World} {g : Nat → Nat} {out : (List api_Link)} (N : Nat) (r0 : Nat) (hp0 : RdS kd_api_Link w g C0 A0 cap0 p0) (hC0 : ∀ c, C0 c → c < N) (hr0 : r0 + 2 ≤ N) (H : depgraph_reversed.f p0 = some out) :
    Calls Try.prog 45 #[.slice A0 p0.length cap0] w (fun e w' => ∃ v, e = .returned v ∧ ∃ (g' : Nat → Nat) (A_r0 : Option Addr) (cap_r0 : Nat), v = .slice A_r0 out.length cap_r0 ∧ OwS kd_api_Link 34 w' g' r0 A_r0 cap_r0 out ∧ Fr (fun q => (r0 ≤ q ∧ q < r0 + 2) ∨ N ≤ q) w g w' g') := by
  unfold depgraph_reversed.f at H
  refine calls_enter Try.func45 rfl Try.ntmps45 rfl (fun a hS => ?_)
  replace hS : Sl 22 a [(0, .slice A0 p0.length cap0)] := hS
  have hF : Fr (fun q => (r0 ≤ q ∧ q < r0 + 2) ∨ N ≤ q) w g w g := Fr.refl _ _ _
  refine c_pure [(0, .slice A0 p0.length cap0)] (fun R hR => st_val hS rfl rfl rfl (r_assign hS rfl rfl) fun a1 hS1 => wpList_nil (hR _ (hS1.re ⟨rfl, trivial⟩))) ?_
  clear hS
  clear a
  intro a hS
  refine c_pure [(0, .slice A0 p0.length cap0), (3, .slice none 0 0)] (fun R hR => st_val hS rfl rfl rfl (r_assign hS rfl rfl) fun a2 hS2 => wpList_nil (hR _ (hS2.re ⟨rfl, rfl, trivial⟩))) ?_
  clear hS
  clear a
  intro a hS
  obtain ⟨v7, H, Hl9⟩ := bind_el H
  refine c_cut (fun a w3 => ∃ (g3 : Nat → Nat), ∃ (A4 : Option Addr), ∃ (cap5 : Nat), Sl 22 a [(3, .slice A4 v7.length cap5)] ∧ OwS kd_api_Link 34 w3 g3 (N + 4) A4 cap5 v7 ∧ Fr (fun q => (r0 ≤ q ∧ q < r0 + 2) ∨ N ≤ q) w g w3 g3) ?_ ?_
  · refine c_pure [(3, .slice none 0 0), (6, .slice A0 p0.length cap0), (7, .int .i64 (p0.length : Int)), (8, .int .i64 0)] (fun R hR => st_val hS rfl rfl rfl (r_move hS rfl rfl) fun a10 hS10 => st_val hS10 rfl rfl rfl (r_len (e := 34) (sz := 2) (by_ := 16) hS10 rfl rfl (by kernel_rfl)) fun a11 hS11 => st_val hS11 rfl rfl rfl (r_move hS11 rfl rfl) fun a12 hS12 => wpList_nil (hR _ (hS12.re ⟨rfl, rfl, rfl, rfl, trivial⟩))) ?_
    clear hS
    clear a
    intro a hS
    refine wp_block ?_
    refine wp_loop_ghost (fun kq => fun a w13 => ∃ (m0_0 : List api_Link), ∃ (m0_1 : Int), ∃ (g13 : Nat → Nat), ∃ (A14 : Option Addr), ∃ (cap15 : Nat), depgraph_reversed.l0 p0 kq m0_0 m0_1 = some v7 ∧ Sl 22 a [(3, .slice A14 m0_0.length cap15), (6, .slice A0 p0.length cap0), (7, .int .i64 (p0.length : Int)), (8, .int .i64 m0_1)] ∧ OwS kd_api_Link 34 w13 g13 (N + 4) A14 cap15 m0_0 ∧ RdS kd_api_Link w13 g13 C0 A0 cap0 p0 ∧ Fr (fun q => (r0 ≤ q ∧ q < r0 + 2) ∨ N ≤ q) w g w13 g13) FUEL ?_ ?_
    · exact ⟨[], 0, g, none, 0, H, hS.re ⟨rfl, rfl, rfl, rfl, trivial⟩, OwS.nil kd_api_Link 34 w g (N + 4), hp0, hF⟩
    · clear H
      clear hp0 hF
      clear hS
      rintro k17 a w13 ⟨m0_0, m0_1, g13, A14, cap15, hpre0, hS, h16, hp0, hF⟩
      have H := hpre0
      clear hpre0
      cases k17 with
      | zero => exact absurd H (by simp [depgraph_reversed.l0])
      | succ k17 =>
        rw [depgraph_reversed.l0] at H
        refine c_pure [(3, .slice A14 m0_0.length cap15), (6, .slice A0 p0.length cap0), (7, .int .i64 (p0.length : Int)), (8, .int .i64 m0_1), (9, .bool (decide (m0_1 < (p0.length : Int))))] (fun R hR => st_val hS rfl rfl rfl (r_bin hS rfl rfl rfl b_lss) fun a18 hS18 => wpList_nil (hR _ (hS18.re ⟨rfl, rfl, rfl, rfl, rfl, trivial⟩))) ?_
        clear hS
        clear a
        intro a hS
        refine c_if hS rfl (fun hb19 => ?_) (fun hb19 => ?_)
        · replace H := ite_t hb19 H
          refine wp_skip ?_
          change Code.wp _ _ _ _ _
          refine wp_seq ?_
          refine wp_block ?_
          obtain ⟨x20, hx21, H⟩ := bind_el H
          refine c_region (fun K hK => ?_)
          refine st_val hS rfl rfl rfl (r_index (e := 34) (sz := 2) (by_ := 16) hS rfl rfl rfl (by kernel_rfl) (RdS.some_ hp0 hx21) (idx_lo hx21) (idx_hi hx21)) fun a22 hS22 => st_val hS22 rfl rfl rfl (r_loadN (n := 2) (cs := [.int .i64 x20.Consumer, .int .i64 x20.Supplier]) hS22 rfl rfl (by kernel_rfl) rfl (RdS.cells_off hp0 hx21 0 2)) fun a23 hS23 => ?_
          refine st_eff hS23 rfl rfl rfl (e_alloc (cs := [.int .i64 0, .int .i64 0]) (N + 0) g13 hS23 rfl (by kernel_rfl)) ?_
          rintro _ a27 w28 g28 ⟨⟨b24, rfl, h25⟩, F28⟩ hS27
          replace h16 := OwS.fr h16 F28 (fun _ _ h => h)
          replace hp0 := RdS.fr hp0 F28 (by decide) (fun _ _ h => h)
          replace hF := hF.trans F28 (fun _ h => h.elim)
          refine st_effS hS27 rfl rfl (e_storeB (n := 2) (bb := true) (cs' := [.int .i64 x20.Consumer, .int .i64 x20.Supplier]) g28 hS27 rfl rfl rfl (by kernel_rfl) rfl rfl rfl h25 rfl rfl) ?_
          rintro a29 w30 g30 ⟨h25, F30⟩ hS29
          replace h16 := OwS.fr h16 F30 (fun c' hc (hm : c' = N + 0) => by omega)
          replace hp0 := RdS.fr hp0 F30 (by decide) (fun q (hq : C0 q) (hm : q = N + 0) => by have := hC0 q hq; omega)
          replace hF := hF.trans F30 (fun c' (hm : c' = N + 0) => by show (r0 ≤ c' ∧ c' < r0 + 2) ∨ N ≤ c'; omega)
          refine wpList_nil (hK _ _ ?_)
          replace hS : Sl 22 _ [(3, .slice A14 m0_0.length cap15), (5, .pointer (some ⟨b24, 0, none⟩)), (6, .slice A0 p0.length cap0), (7, .int .i64 (p0.length : Int)), (8, .int .i64 m0_1)] := hS29.re ⟨rfl, rfl, rfl, rfl, rfl, trivial⟩
          clear hK K
          try clear hS22 hS23 hS27 hS29
          obtain ⟨a, ha⟩ : ∃ a', a' = a29 := ⟨_, rfl⟩
          rw [← ha] at hS ⊢; clear ha
          obtain ⟨y42, hy43, H⟩ := bind_el H
          refine c_region1 (fun K hK => ?_)
          refine st_val hS rfl rfl rfl (r_move hS rfl rfl) fun a31 hS31 => st_val hS31 rfl rfl rfl (r_fieldB (off := 1) hS31 rfl rfl (by kernel_rfl)) fun a32 hS32 => st_val hS32 rfl rfl rfl (r_load1 (n := 1) hS32 rfl rfl (by kernel_rfl) (Bx.cell h25 rfl)) fun a33 hS33 => st_val hS33 rfl rfl rfl (r_fieldB (off := 0) hS33 rfl rfl (by kernel_rfl)) fun a34 hS34 => st_val hS34 rfl rfl rfl (r_load1 (n := 1) hS34 rfl rfl (by kernel_rfl) (Bx.cell h25 rfl)) fun a35 hS35 => st_val hS35 rfl rfl rfl (r_build (parts := [(0, .int .i64 x20.Supplier), (1, .int .i64 x20.Consumer)]) (u := .agg #[.int .i64 x20.Supplier, .int .i64 x20.Consumer]) hS35 rfl rfl (fun _ => by kernel_rfl)) fun a36 hS36 => ?_
          refine st_eff hS36 rfl rfl rfl (e_lit (e := 34) (parts := [(0, .agg #[.int .i64 x20.Supplier, .int .i64 x20.Consumer])]) (cs := [.int .i64 x20.Supplier, .int .i64 x20.Consumer]) kd_api_Link [(api_Link.mk x20.Supplier x20.Consumer)] (N + 2) g30 hS36 rfl rfl (fun _ => by kernel_rfl) rfl (by decide) (Rows.cons (cs := [.int .i64 x20.Supplier, .int .i64 x20.Consumer]) rfl Rows.nil)) ?_
          rintro _ a40 w41 g41 ⟨⟨A37, rfl, h38⟩, F41⟩ hS40
          replace h25 := h25.fr F41 (fun h => h)
          replace h16 := OwS.fr h16 F41 (fun _ _ h => h)
          replace hp0 := RdS.fr hp0 F41 (by decide) (fun _ _ h => h)
          replace hF := hF.trans F41 (fun _ h => h.elim)
          refine st_eff hS40 rfl rfl rfl (e_append (e := 34) (sz := 2) (by_ := 16) (z := [.int .i64 0, .int .i64 0]) (kd := kd_api_Link) g41 hS40 rfl rfl rfl rfl (by kernel_rfl) (by kernel_rfl) rfl rfl rfl rfl h16 (OwD.rdx h38) (fun _ _ _ h => h) hy43) ?_
          rintro _ a48 w49 g49 ⟨⟨A44, cap45, rfl, h46⟩, F49⟩ hS48
          replace h25 := h25.fr F49 (fun (hm : N + 0 = N + 4) => by omega)
          replace h38 := OwS.fr h38 F49 (fun c' hc (hm : c' = N + 4) => by omega)
          replace hp0 := RdS.fr hp0 F49 (by decide) (fun q (hq : C0 q) (hm : q = N + 4) => by have := hC0 q hq; omega)
          replace hF := hF.trans F49 (fun c' (hm : c' = N + 4) => by show (r0 ≤ c' ∧ c' < r0 + 2) ∨ N ≤ c'; omega)
          refine st_val hS48 rfl rfl rfl (r_assign hS48 rfl rfl) fun a50 hS50 => wpList_nil (hK _ _ ?_)
          replace hS : Sl 22 _ [(3, .slice A44 y42.length cap45), (6, .slice A0 p0.length cap0), (7, .int .i64 (p0.length : Int)), (8, .int .i64 m0_1)] := hS50.re ⟨rfl, rfl, rfl, rfl, trivial⟩
          clear hK K
          try clear hS31 hS32 hS33 hS34 hS35 hS36 hS40 hS48 hS50
          obtain ⟨a, ha⟩ : ∃ a', a' = a50 := ⟨_, rfl⟩
          rw [← ha] at hS ⊢; clear ha
          change Code.wp _ _ _ _ _
          refine c_pure1 [(3, .slice A44 y42.length cap45), (6, .slice A0 p0.length cap0), (7, .int .i64 (p0.length : Int)), (8, .int .i64 (wi (m0_1 + 1)))] (fun R hR => st_val hS rfl rfl rfl (r_bin hS rfl rfl rfl b_add) fun a51 hS51 => st_val hS51 rfl rfl rfl (r_move hS51 rfl rfl) fun a52 hS52 => wpList_nil (hR _ (hS52.re ⟨rfl, rfl, rfl, rfl, trivial⟩))) ?_
          clear hS
          clear a
          intro a hS
          refine ⟨k17, Nat.lt_succ_self _, ?_⟩
          exact ⟨y42, wi (m0_1 + 1), g49, A44, cap45, H, hS.re ⟨rfl, rfl, rfl, rfl, trivial⟩, h46, hp0, hF⟩
        · replace H := ite_f hb19 H
          refine wp_exit ?_
          have e := Option.some.inj H
          subst e
          exact ⟨g13, A14, cap15, hS.re ⟨rfl, trivial⟩, h16, hF⟩
  · clear H
    clear hp0 hF
    clear hS
    rintro a w3 ⟨g3, A4, cap5, hS, h6, hF⟩
    have H := Hl9
    clear Hl9
    refine c_pure [(2, .slice A4 v7.length cap5)] (fun R hR => st_val hS rfl rfl rfl (r_move hS rfl rfl) fun a53 hS53 => st_val hS53 rfl rfl rfl (r_assign hS53 rfl rfl) fun a54 hS54 => wpList_nil (hR _ (hS54.re ⟨rfl, trivial⟩))) ?_
    clear hS
    clear a
    intro a hS
    refine wp_ret ?_
    have e := Option.some.inj H
    subst e
    have F55 := Fr.recol2 w3 g3 (N + 4) r0
    replace h6 := h6.recol2 r0
    replace hF := hF.trans F55 (fun c' (hm : c' = N + 4 ∨ c' = N + 4 + 1) => by show (r0 ≤ c' ∧ c' < r0 + 2) ∨ N ≤ c'; omega)
    repeat (with_reducible first | refine then_ret ?_ | refine inBlock_ret ?_)
    exact c_ret1 hS Try.results45 rfl ⟨_, rfl, (recol2 g3 (N + 4) r0), A4, cap5, rfl, h6, hF⟩

/-! ### depgraph_closure: function 46 -/
def depgraph_closure.l0 (p0 : Int) (p2 : List Int) : Nat → (List Bool) → (List Int) → Int → Option (Fl ((List Int) × Int) ((List Bool) × (List Int)))
  | 0, _, _, _ => none
  | k28 + 1, m0_0, m0_1, m0_2 => if decide (m0_2 < (p2.length : Int)) = true then (((idx p2 m0_2).bind fun x38 => if ((decide (x38 < 0)) || (decide (p0 ≤ x38))) = true then (some (.out (.out ([], 1)))) else ((idx m0_0 x38).bind fun x64 => if (!x64) = true then ((app m0_1 [x38]).bind fun y82 => some (.nxt ((upd m0_0 x38 true), y82))) else (some (.nxt (m0_0, m0_1)))) : Option (Fl (Fl ((List Int) × Int) ((List Bool) × (List Int))) ((List Bool) × (List Int)))).bind fun o36 => o36.go fun v35 => depgraph_closure.l0 p0 p2 k28 v35.1 v35.2 (wi (m0_2 + 1))) else (some (.nxt (m0_0, m0_1)))
def depgraph_closure.l2 (x134 : List Int) : Nat → (List Bool) → (List Int) → Int → Option ((List Bool) × (List Int))
  | 0, _, _, _ => none
  | k150 + 1, m2_0, m2_1, m2_2 => if decide (m2_2 < (x134.length : Int)) = true then (((idx x134 m2_2).bind fun x160 => (idx m2_0 x160).bind fun x167 => if (!x167) = true then ((app m2_1 [x160]).bind fun y185 => some ((upd m2_0 x160 true), y185)) else (some (m2_0, m2_1)) : Option ((List Bool) × (List Int))).bind fun v157 => depgraph_closure.l2 x134 k150 v157.1 v157.2 (wi (m2_2 + 1))) else (some (m2_0, m2_1))
def depgraph_closure.l1 (p1 : List (List Int)) : Nat → (List Bool) → (List Int) → Option ((List Bool))
  | 0, _, _ => none
  | k101 + 1, m1_0, m1_1 => if decide (0 < (m1_1.length : Int)) = true then (((idx m1_1 (wi ((m1_1.length : Int) - 1))).bind fun x117 => (slc m1_1 0 (wi ((m1_1.length : Int) - 1))).bind fun y126 => (idx p1 x117).bind fun x134 => depgraph_closure.l2 x134 FUEL m1_0 y126 0 : Option ((List Bool) × (List Int))).bind fun v110 => depgraph_closure.l1 p1 k101 v110.1 v110.2) else (some m1_0)
def depgraph_closure.l3 (v94 : (List Bool)) : Nat → (List Int) → Int → Option ((List Int))
  | 0, _, _ => none
  | k211 + 1, m3_0, m3_1 => if decide (m3_1 < (v94.length : Int)) = true then (((idx v94 m3_1).bind fun x222 => if x222 = true then ((app m3_0 [m3_1]).bind fun y237 => some y237) else (some m3_0) : Option ((List Int))).bind fun v218 => depgraph_closure.l3 v94 k211 v218 (wi (m3_1 + 1))) else (some m3_0)
def depgraph_closure.f (p0 : Int) (p1 : List (List Int)) (p2 : List Int) : Option ((List Int) × Int) := (mk p0 false).bind fun y4 => (depgraph_closure.l0 p0 p2 FUEL y4 [] 0 : Option (Fl ((List Int) × Int) ((List Bool) × (List Int)))).bind fun o19 => o19.go fun v18 => (depgraph_closure.l1 p1 FUEL v18.1 v18.2 : Option ((List Bool))).bind fun v94 => (depgraph_closure.l3 v94 FUEL [] 0 : Option ((List Int))).bind fun v201 => some (v201, 0)
set_option maxRecDepth 100000 in
set_option maxHeartbeats 4000000 in
theorem depgraph_closure.calls {p0 : Int} {p1 : List (List Int)} {A1 : Option Addr} {cap1 : Nat} {C1 : Nat → Prop} {p2 : List Int} {A2 : Option Addr} {cap2 : Nat} {C2 : Nat → Prop} {w : World} {g : Nat → Nat} {out : (List Int) × Int} (N : Nat) (r0 : Nat) (hp1 : RdS (kslice (kint .i64) (by decide)) w g C1 A1 cap1 p1) (hC1 : ∀ c, C1 c → c < N) (hp2 : RdS (kint .i64) w g C2 A2 cap2 p2) (hC2 : ∀ c, C2 c → c < N) (hr0 : r0 + 2 ≤ N) (H : depgraph_closure.f p0 p1 p2 = some out) :
    Calls Try.prog 46 #[.int .i64 p0, .slice A1 p1.length cap1, .slice A2 p2.length cap2] w (fun e w' => ∃ v, e = .returned v ∧ ∃ (g' : Nat → Nat) (A_r0 : Option Addr) (cap_r0 : Nat), v = .tuple #[.slice A_r0 out.1.length cap_r0, .int .i64 out.2] ∧ OwS (kint .i64) 3 w' g' r0 A_r0 cap_r0 out.1 ∧ Fr (fun q => (r0 ≤ q ∧ q < r0 + 2) ∨ N ≤ q) w g w' g') := by
  unfold depgraph_closure.f at H
  refine calls_enter Try.func46 rfl Try.ntmps46 rfl (fun a hS => ?_)
  replace hS : Sl 96 a [(0, .int .i64 p0), (1, .slice A1 p1.length cap1), (2, .slice A2 p2.length cap2)] := hS
  have hF : Fr (fun q => (r0 ≤ q ∧ q < r0 + 2) ∨ N ≤ q) w g w g := Fr.refl _ _ _
  refine c_pure [(0, .int .i64 p0), (1, .slice A1 p1.length cap1), (2, .slice A2 p2.length cap2)] (fun R hR => st_val hS rfl rfl rfl (r_assign hS rfl rfl) fun a1 hS1 => st_val hS1 rfl rfl rfl (r_assign hS1 rfl rfl) fun a2 hS2 => wpList_nil (hR _ (hS2.re ⟨rfl, rfl, rfl, trivial⟩))) ?_
  clear hS
  clear a
  intro a hS
  obtain ⟨y4, hy5, H⟩ := bind_el H
  refine c_region (fun K hK => ?_)
  refine st_val hS rfl rfl rfl (r_move hS rfl rfl) fun a3 hS3 => ?_
  refine st_eff hS3 rfl rfl rfl (e_make (e := 4) (sz := 1) (by_ := 1) (z := [.bool false]) (kd := kbool) (N + 0) g hS3 rfl rfl (by kernel_rfl) (by kernel_rfl) rfl rfl rfl (fun _ _ _ => rfl) hy5) ?_
  rintro _ a10 w11 g11 ⟨⟨A6, cap7, rfl, h8⟩, F11⟩ hS10
  replace hp1 := RdS.fr hp1 F11 (by decide) (fun _ _ h => h)
  replace hp2 := RdS.fr hp2 F11 (by decide) (fun _ _ h => h)
  replace hF := hF.trans F11 (fun _ h => h.elim)
  refine st_val hS10 rfl rfl rfl (r_assign hS10 rfl rfl) fun a12 hS12 => wpList_nil (hK _ _ ?_)
  replace hS : Sl 96 _ [(0, .int .i64 p0), (1, .slice A1 p1.length cap1), (2, .slice A2 p2.length cap2), (8, .slice A6 y4.length cap7)] := hS12.re ⟨rfl, rfl, rfl, rfl, trivial⟩
  clear hK K
  try clear hS3 hS10 hS12
  obtain ⟨a, ha⟩ : ∃ a', a' = a12 := ⟨_, rfl⟩
  rw [← ha] at hS ⊢; clear ha
  refine c_pure [(0, .int .i64 p0), (1, .slice A1 p1.length cap1), (2, .slice A2 p2.length cap2), (8, .slice A6 y4.length cap7), (9, .slice none 0 0)] (fun R hR => st_val hS rfl rfl rfl (r_assign hS rfl rfl) fun a13 hS13 => wpList_nil (hR _ (hS13.re ⟨rfl, rfl, rfl, rfl, rfl, trivial⟩))) ?_
  clear hS
  clear a
  intro a hS
  obtain ⟨o19, H, Hl20⟩ := bind_el H
  refine c_cut (fun a w14 => ∃ (v18 : (List Bool) × (List Int)), ∃ (g14 : Nat → Nat), ∃ (A15 : Option Addr), ∃ (cap16 : Nat), o19 = .nxt v18 ∧ Sl 96 a [(1, .slice A1 p1.length cap1), (8, .slice A6 v18.1.length cap7), (9, .slice A15 v18.2.length cap16)] ∧ OwS kbool 4 w14 g14 (N + 0) A6 cap7 v18.1 ∧ OwS (kint .i64) 3 w14 g14 (N + 4) A15 cap16 v18.2 ∧ RdS (kslice (kint .i64) (by decide)) w14 g14 C1 A1 cap1 p1 ∧ Fr (fun q => (r0 ≤ q ∧ q < r0 + 2) ∨ N ≤ q) w g w14 g14) ?_ ?_
  · refine c_pure [(0, .int .i64 p0), (1, .slice A1 p1.length cap1), (8, .slice A6 y4.length cap7), (9, .slice none 0 0), (20, .slice A2 p2.length cap2), (21, .int .i64 (p2.length : Int)), (22, .int .i64 0)] (fun R hR => st_val hS rfl rfl rfl (r_move hS rfl rfl) fun a21 hS21 => st_val hS21 rfl rfl rfl (r_len (e := 3) (sz := 1) (by_ := 8) hS21 rfl rfl (by kernel_rfl)) fun a22 hS22 => st_val hS22 rfl rfl rfl (r_move hS22 rfl rfl) fun a23 hS23 => wpList_nil (hR _ (hS23.re ⟨rfl, rfl, rfl, rfl, rfl, rfl, rfl, trivial⟩))) ?_
    clear hS
    clear a
    intro a hS
    refine wp_block ?_
    refine wp_loop_ghost (fun kq => fun a w24 => ∃ (m0_0 : List Bool), ∃ (m0_1 : List Int), ∃ (m0_2 : Int), ∃ (g24 : Nat → Nat), ∃ (A25 : Option Addr), ∃ (cap26 : Nat), depgraph_closure.l0 p0 p2 kq m0_0 m0_1 m0_2 = some o19 ∧ Sl 96 a [(0, .int .i64 p0), (1, .slice A1 p1.length cap1), (8, .slice A6 m0_0.length cap7), (9, .slice A25 m0_1.length cap26), (20, .slice A2 p2.length cap2), (21, .int .i64 (p2.length : Int)), (22, .int .i64 m0_2)] ∧ OwS kbool 4 w24 g24 (N + 0) A6 cap7 m0_0 ∧ OwS (kint .i64) 3 w24 g24 (N + 4) A25 cap26 m0_1 ∧ RdS (kslice (kint .i64) (by decide)) w24 g24 C1 A1 cap1 p1 ∧ RdS (kint .i64) w24 g24 C2 A2 cap2 p2 ∧ Fr (fun q => (r0 ≤ q ∧ q < r0 + 2) ∨ N ≤ q) w g w24 g24) FUEL ?_ ?_
    · exact ⟨y4, [], 0, g11, none, 0, H, hS.re ⟨rfl, rfl, rfl, rfl, rfl, rfl, rfl, trivial⟩, h8, OwS.nil (kint .i64) 3 w11 g11 (N + 4), hp1, hp2, hF⟩
    · clear H
      clear hp1 hp2 h8 hF
      clear hS
      rintro k28 a w24 ⟨m0_0, m0_1, m0_2, g24, A25, cap26, hpre0, hS, h8, h27, hp1, hp2, hF⟩
      have H := hpre0
      clear hpre0
      cases k28 with
      | zero => exact absurd H (by simp [depgraph_closure.l0])
      | succ k28 =>
        rw [depgraph_closure.l0] at H
        refine c_pure [(0, .int .i64 p0), (1, .slice A1 p1.length cap1), (8, .slice A6 m0_0.length cap7), (9, .slice A25 m0_1.length cap26), (20, .slice A2 p2.length cap2), (21, .int .i64 (p2.length : Int)), (22, .int .i64 m0_2), (23, .bool (decide (m0_2 < (p2.length : Int))))] (fun R hR => st_val hS rfl rfl rfl (r_bin hS rfl rfl rfl b_lss) fun a29 hS29 => wpList_nil (hR _ (hS29.re ⟨rfl, rfl, rfl, rfl, rfl, rfl, rfl, rfl, trivial⟩))) ?_
        clear hS
        clear a
        intro a hS
        refine c_if hS rfl (fun hb30 => ?_) (fun hb30 => ?_)
        · replace H := ite_t hb30 H
          refine wp_skip ?_
          change Code.wp _ _ _ _ _
          obtain ⟨o36, H, Hl37⟩ := bind_el H
          refine c_cut (fun a w31 => ∃ (v35 : (List Bool) × (List Int)), ∃ (g31 : Nat → Nat), ∃ (A32 : Option Addr), ∃ (cap33 : Nat), o36 = .nxt v35 ∧ Sl 96 a [(0, .int .i64 p0), (1, .slice A1 p1.length cap1), (8, .slice A6 v35.1.length cap7), (9, .slice A32 v35.2.length cap33), (20, .slice A2 p2.length cap2), (21, .int .i64 (p2.length : Int)), (22, .int .i64 m0_2)] ∧ OwS kbool 4 w31 g31 (N + 0) A6 cap7 v35.1 ∧ OwS (kint .i64) 3 w31 g31 (N + 4) A32 cap33 v35.2 ∧ RdS (kslice (kint .i64) (by decide)) w31 g31 C1 A1 cap1 p1 ∧ RdS (kint .i64) w31 g31 C2 A2 cap2 p2 ∧ Fr (fun q => (r0 ≤ q ∧ q < r0 + 2) ∨ N ≤ q) w g w31 g31) ?_ ?_
          · refine wp_block ?_
            obtain ⟨x38, hx39, H⟩ := bind_el H
            refine c_pure [(0, .int .i64 p0), (1, .slice A1 p1.length cap1), (8, .slice A6 m0_0.length cap7), (9, .slice A25 m0_1.length cap26), (11, .int .i64 x38), (20, .slice A2 p2.length cap2), (21, .int .i64 (p2.length : Int)), (22, .int .i64 m0_2)] (fun R hR => st_val hS rfl rfl rfl (r_index (e := 3) (sz := 1) (by_ := 8) hS rfl rfl rfl (by kernel_rfl) (RdS.some_ hp2 hx39) (idx_lo hx39) (idx_hi hx39)) fun a40 hS40 => st_val hS40 rfl rfl rfl (r_load1 (n := 1) hS40 rfl rfl (by kernel_rfl) (RdS.cell (i := m0_2) (sz := 1) (j := 0) hp2 hx39 rfl)) fun a41 hS41 => st_val hS41 rfl rfl rfl (r_assign hS41 rfl rfl) fun a42 hS42 => wpList_nil (hR _ (hS42.re ⟨rfl, rfl, rfl, rfl, rfl, rfl, rfl, rfl, trivial⟩))) ?_
            clear hS
            clear a
            intro a hS
            refine wp_seq ?_
            refine c_region (fun K hK => ?_)
            refine st_val hS rfl rfl rfl (r_move hS rfl rfl) fun a43 hS43 => st_val hS43 rfl rfl rfl (r_bin hS43 rfl rfl rfl b_lss) fun a44 hS44 => st_val hS44 rfl rfl rfl (r_move hS44 rfl rfl) fun a45 hS45 => ?_
            refine g_join (N := 96) 4 [(0, .int .i64 p0), (1, .slice A1 p1.length cap1), (8, .slice A6 m0_0.length cap7), (9, .slice A25 m0_1.length cap26), (11, .int .i64 x38), (20, .slice A2 p2.length cap2), (21, .int .i64 (p2.length : Int)), (22, .int .i64 m0_2), (32, .bool ((decide (x38 < 0)) || (decide (p0 ≤ x38))))] ?_ (fun hk => ?_)
            rotate_left
            · rcases Bool.eq_false_or_eq_true (decide (x38 < 0)) with hb46 | hb46
              · refine st_off hS45 (want_off hS45 rfl rfl rfl hb46) rfl rfl fun a50 hS50 => st_off hS50 (want_off hS50 rfl rfl rfl hb46) rfl rfl fun a51 hS51 => st_off hS51 (want_off hS51 rfl rfl rfl hb46) rfl rfl fun a52 hS52 => st_val hS52 rfl rfl rfl (r_pickT hS52 rfl rfl rfl hb46) fun a53 hS53 => hk _ (hS53.re ⟨rfl, rfl, rfl, rfl, rfl, rfl, rfl, rfl, (by rw [hb46]; rfl), trivial⟩)
              · refine st_valW hS45 (want_on hS45 rfl rfl rfl hb46) rfl rfl (r_move hS45 rfl rfl) fun a54 hS54 => st_valW hS54 (want_on hS54 rfl rfl rfl hb46) rfl rfl (r_move hS54 rfl rfl) fun a55 hS55 => st_valW hS55 (want_on hS55 rfl rfl rfl hb46) rfl rfl (r_bin hS55 rfl rfl rfl b_geq) fun a56 hS56 => st_val hS56 rfl rfl rfl (r_pickF hS56 rfl rfl rfl hb46) fun a57 hS57 => hk _ (hS57.re ⟨rfl, rfl, rfl, rfl, rfl, rfl, rfl, rfl, (by rw [hb46]; rfl), trivial⟩)
            intro a58 hS58
            refine wpList_nil (hK _ _ ?_)
            replace hS : Sl 96 _ [(0, .int .i64 p0), (1, .slice A1 p1.length cap1), (8, .slice A6 m0_0.length cap7), (9, .slice A25 m0_1.length cap26), (11, .int .i64 x38), (20, .slice A2 p2.length cap2), (21, .int .i64 (p2.length : Int)), (22, .int .i64 m0_2), (32, .bool ((decide (x38 < 0)) || (decide (p0 ≤ x38))))] := hS58.re ⟨rfl, rfl, rfl, rfl, rfl, rfl, rfl, rfl, rfl, trivial⟩
            clear hK K
            try clear hS43 hS44 hS45 hS58
            obtain ⟨a, ha⟩ : ∃ a', a' = a58 := ⟨_, rfl⟩
            rw [← ha] at hS ⊢; clear ha
            refine c_cond hS rfl (fun hb59 => ?_) (fun hb59 => ?_)
            · replace H := ite_t hb59 H
              refine c_pure [(6, .slice none 0 0), (7, .int .i64 1)] (fun R hR => st_val hS rfl rfl rfl (r_assign hS rfl rfl) fun a60 hS60 => st_val hS60 rfl rfl rfl (r_assign hS60 rfl rfl) fun a61 hS61 => wpList_nil (hR _ (hS61.re ⟨rfl, rfl, trivial⟩))) ?_
              clear hS
              clear a
              intro a hS
              refine wp_ret ?_
              have e := Option.some.inj H
              subst e
              replace H := Fl.go_out Hl37
              have e := Option.some.inj H
              subst e
              replace H := Fl.go_out Hl20
              have e := Option.some.inj H
              subst e
              repeat (with_reducible first | refine then_ret ?_ | refine inBlock_ret ?_)
              exact c_ret2 hS Try.results46 rfl rfl ⟨_, rfl, g24, none, 0, rfl, OwS.nil (kint .i64) 3 w24 g24 r0, hF⟩
            · replace H := ite_f hb59 H
              refine wp_skip ?_
              change Code.wp _ _ _ _ _
              obtain ⟨x64, hx65, H⟩ := bind_el H
              refine c_pure [(0, .int .i64 p0), (1, .slice A1 p1.length cap1), (8, .slice A6 m0_0.length cap7), (9, .slice A25 m0_1.length cap26), (11, .int .i64 x38), (20, .slice A2 p2.length cap2), (21, .int .i64 (p2.length : Int)), (22, .int .i64 m0_2), (37, .bool (!x64))] (fun R hR => st_val hS rfl rfl rfl (r_move hS rfl rfl) fun a62 hS62 => st_val hS62 rfl rfl rfl (r_move hS62 rfl rfl) fun a63 hS63 => st_val hS63 rfl rfl rfl (r_index (e := 4) (sz := 1) (by_ := 1) hS63 rfl rfl rfl (by kernel_rfl) (RdS.some_ (OwS.rd h8) hx65) (idx_lo hx65) (idx_hi hx65)) fun a66 hS66 => st_val hS66 rfl rfl rfl (r_load1 (n := 1) hS66 rfl rfl (by kernel_rfl) (RdS.cell (i := x38) (sz := 1) (j := 0) (OwS.rd h8) hx65 rfl)) fun a67 hS67 => st_val hS67 rfl rfl rfl (r_not hS67 rfl rfl) fun a68 hS68 => wpList_nil (hR _ (hS68.re ⟨rfl, rfl, rfl, rfl, rfl, rfl, rfl, rfl, rfl, trivial⟩))) ?_
              clear hS
              clear a
              intro a hS
              refine c_cond hS rfl (fun hb69 => ?_) (fun hb69 => ?_)
              · replace H := ite_t hb69 H
                refine c_region (fun K hK => ?_)
                refine st_val hS rfl rfl rfl (r_move hS rfl rfl) fun a70 hS70 => st_val hS70 rfl rfl rfl (r_move hS70 rfl rfl) fun a71 hS71 => st_val hS71 rfl rfl rfl (r_index (e := 4) (sz := 1) (by_ := 1) hS71 rfl rfl rfl (by kernel_rfl) (RdS.some_ (OwS.rd h8) hx65) (idx_lo hx65) (idx_hi hx65)) fun a72 hS72 => ?_
                refine st_effS hS72 rfl rfl (e_storeE (n := 1) (bb := false) (kd := kbool) (j := 0) (x' := true) (us := [.bool true]) g24 hS72 rfl rfl rfl rfl (by kernel_rfl) rfl rfl (by intro v hv; simp only [List.mem_cons, List.not_mem_nil, or_false] at hv; rcases hv with rfl <;> rfl) h8 hx65 rfl (fun _ _ cs hR => by rw [show cs = _ from hR]; rfl)) ?_
                rintro a73 w74 g74 ⟨h8, F74⟩ hS73
                replace h27 := OwS.fr h27 F74 (fun c' hc (hm : c' = N + 0) => by omega)
                replace hp1 := RdS.fr hp1 F74 (by decide) (fun q (hq : C1 q) (hm : q = N + 0) => by have := hC1 q hq; omega)
                replace hp2 := RdS.fr hp2 F74 (by decide) (fun q (hq : C2 q) (hm : q = N + 0) => by have := hC2 q hq; omega)
                replace hF := hF.trans F74 (fun c' (hm : c' = N + 0) => by show (r0 ≤ c' ∧ c' < r0 + 2) ∨ N ≤ c'; omega)
                have hT : Sl 96 a73 [(0, .int .i64 p0), (1, .slice A1 p1.length cap1), (8, .slice A6 m0_0.length cap7), (9, .slice A25 m0_1.length cap26), (11, .int .i64 x38), (20, .slice A2 p2.length cap2), (21, .int .i64 (p2.length : Int)), (22, .int .i64 m0_2)] := hS73.re ⟨rfl, rfl, rfl, rfl, rfl, rfl, rfl, rfl, trivial⟩
                replace hS73 : Sl 96 a73 [(0, .int .i64 p0), (1, .slice A1 p1.length cap1), (8, .slice A6 (upd m0_0 x38 true).length cap7), (9, .slice A25 m0_1.length cap26), (11, .int .i64 x38), (20, .slice A2 p2.length cap2), (21, .int .i64 (p2.length : Int)), (22, .int .i64 m0_2)] := by simpa only [upd_length] using hT
                clear hT
                refine wpList_nil (hK _ _ ?_)
                replace hS : Sl 96 _ [(0, .int .i64 p0), (1, .slice A1 p1.length cap1), (8, .slice A6 (upd m0_0 x38 true).length cap7), (9, .slice A25 m0_1.length cap26), (11, .int .i64 x38), (20, .slice A2 p2.length cap2), (21, .int .i64 (p2.length : Int)), (22, .int .i64 m0_2)] := hS73.re ⟨rfl, rfl, rfl, rfl, rfl, rfl, rfl, rfl, trivial⟩
                clear hK K
                try clear hS70 hS71 hS72 hS73
                obtain ⟨a, ha⟩ : ∃ a', a' = a73 := ⟨_, rfl⟩
                rw [← ha] at hS ⊢; clear ha
                obtain ⟨y82, hy83, H⟩ := bind_el H
                refine c_region1 (fun K hK => ?_)
                refine st_val hS rfl rfl rfl (r_move hS rfl rfl) fun a75 hS75 => st_val hS75 rfl rfl rfl (r_move hS75 rfl rfl) fun a76 hS76 => ?_
                refine st_eff hS76 rfl rfl rfl (e_lit (e := 3) (parts := [(0, .int .i64 x38)]) (cs := [.int .i64 x38]) (kint .i64) [x38] (N + 2) g74 hS76 rfl rfl (fun _ => by kernel_rfl) rfl (by decide) (Rows.cons (cs := [.int .i64 x38]) rfl Rows.nil)) ?_
                rintro _ a80 w81 g81 ⟨⟨A77, rfl, h78⟩, F81⟩ hS80
                replace h8 := OwS.fr h8 F81 (fun _ _ h => h)
                replace h27 := OwS.fr h27 F81 (fun _ _ h => h)
                replace hp1 := RdS.fr hp1 F81 (by decide) (fun _ _ h => h)
                replace hp2 := RdS.fr hp2 F81 (by decide) (fun _ _ h => h)
                replace hF := hF.trans F81 (fun _ h => h.elim)
                refine st_eff hS80 rfl rfl rfl (e_append (e := 3) (sz := 1) (by_ := 8) (z := [.int .i64 0]) (kd := (kint .i64)) g81 hS80 rfl rfl rfl rfl (by kernel_rfl) (by kernel_rfl) rfl rfl rfl rfl h27 (OwD.rdx h78) (fun _ _ _ h => h) hy83) ?_
                rintro _ a88 w89 g89 ⟨⟨A84, cap85, rfl, h86⟩, F89⟩ hS88
                replace h78 := OwS.fr h78 F89 (fun c' hc (hm : c' = N + 4) => by omega)
                replace h8 := OwS.fr h8 F89 (fun c' hc (hm : c' = N + 4) => by omega)
                replace hp1 := RdS.fr hp1 F89 (by decide) (fun q (hq : C1 q) (hm : q = N + 4) => by have := hC1 q hq; omega)
                replace hp2 := RdS.fr hp2 F89 (by decide) (fun q (hq : C2 q) (hm : q = N + 4) => by have := hC2 q hq; omega)
                replace hF := hF.trans F89 (fun c' (hm : c' = N + 4) => by show (r0 ≤ c' ∧ c' < r0 + 2) ∨ N ≤ c'; omega)
                refine st_val hS88 rfl rfl rfl (r_assign hS88 rfl rfl) fun a90 hS90 => wpList_nil (hK _ _ ?_)
                replace hS : Sl 96 _ [(0, .int .i64 p0), (1, .slice A1 p1.length cap1), (8, .slice A6 (upd m0_0 x38 true).length cap7), (9, .slice A84 y82.length cap85), (20, .slice A2 p2.length cap2), (21, .int .i64 (p2.length : Int)), (22, .int .i64 m0_2)] := hS90.re ⟨rfl, rfl, rfl, rfl, rfl, rfl, rfl, trivial⟩
                clear hK K
                try clear hS75 hS76 hS80 hS88 hS90
                obtain ⟨a, ha⟩ : ∃ a', a' = a90 := ⟨_, rfl⟩
                rw [← ha] at hS ⊢; clear ha
                have e := Option.some.inj H
                exact ⟨((upd m0_0 x38 true), y82), g89, A84, cap85, e.symm, hS.re ⟨rfl, rfl, rfl, rfl, rfl, rfl, rfl, trivial⟩, h8, h86, hp1, hp2, hF⟩
              · replace H := ite_f hb69 H
                refine wp_skip ?_
                have e := Option.some.inj H
                exact ⟨(m0_0, m0_1), g24, A25, cap26, e.symm, hS.re ⟨rfl, rfl, rfl, rfl, rfl, rfl, rfl, trivial⟩, h8, h27, hp1, hp2, hF⟩
          · clear H
            clear hp1 hp2 h8 h27 hF
            clear hS
            rintro a w31 ⟨v35, g31, A32, cap33, hpre0, hS, h8, h34, hp1, hp2, hF⟩
            subst hpre0
            have H := Fl.go_nxt Hl37
            clear Hl37
            refine c_pure1 [(0, .int .i64 p0), (1, .slice A1 p1.length cap1), (8, .slice A6 v35.1.length cap7), (9, .slice A32 v35.2.length cap33), (20, .slice A2 p2.length cap2), (21, .int .i64 (p2.length : Int)), (22, .int .i64 (wi (m0_2 + 1)))] (fun R hR => st_val hS rfl rfl rfl (r_bin hS rfl rfl rfl b_add) fun a91 hS91 => st_val hS91 rfl rfl rfl (r_move hS91 rfl rfl) fun a92 hS92 => wpList_nil (hR _ (hS92.re ⟨rfl, rfl, rfl, rfl, rfl, rfl, rfl, trivial⟩))) ?_
            clear hS
            clear a
            intro a hS
            refine ⟨k28, Nat.lt_succ_self _, ?_⟩
            exact ⟨v35.1, v35.2, wi (m0_2 + 1), g31, A32, cap33, H, hS.re ⟨rfl, rfl, rfl, rfl, rfl, rfl, rfl, trivial⟩, h8, h34, hp1, hp2, hF⟩
        · replace H := ite_f hb30 H
          refine wp_exit ?_
          have e := Option.some.inj H
          exact ⟨(m0_0, m0_1), g24, A25, cap26, e.symm, hS.re ⟨rfl, rfl, rfl, trivial⟩, h8, h27, hp1, hF⟩
  · clear H
    clear hp1 hp2 h8 hF
    clear hS
    rintro a w14 ⟨v18, g14, A15, cap16, hpre0, hS, h8, h17, hp1, hF⟩
    subst hpre0
    have H := Fl.go_nxt Hl20
    clear Hl20
    obtain ⟨v94, H, Hl96⟩ := bind_el H
    refine c_cut (fun a w93 => ∃ (g93 : Nat → Nat), Sl 96 a [(8, .slice A6 v94.length cap7)] ∧ OwS kbool 4 w93 g93 (N + 0) A6 cap7 v94 ∧ Fr (fun q => (r0 ≤ q ∧ q < r0 + 2) ∨ N ≤ q) w g w93 g93) ?_ ?_
    · refine wp_block ?_
      refine wp_loop_ghost (fun kq => fun a w97 => ∃ (m1_0 : List Bool), ∃ (m1_1 : List Int), ∃ (g97 : Nat → Nat), ∃ (A98 : Option Addr), ∃ (cap99 : Nat), depgraph_closure.l1 p1 kq m1_0 m1_1 = some v94 ∧ Sl 96 a [(1, .slice A1 p1.length cap1), (8, .slice A6 m1_0.length cap7), (9, .slice A98 m1_1.length cap99)] ∧ OwS kbool 4 w97 g97 (N + 0) A6 cap7 m1_0 ∧ OwS (kint .i64) 3 w97 g97 (N + 4) A98 cap99 m1_1 ∧ RdS (kslice (kint .i64) (by decide)) w97 g97 C1 A1 cap1 p1 ∧ Fr (fun q => (r0 ≤ q ∧ q < r0 + 2) ∨ N ≤ q) w g w97 g97) FUEL ?_ ?_
      · exact ⟨v18.1, v18.2, g14, A15, cap16, H, hS.re ⟨rfl, rfl, rfl, trivial⟩, h8, h17, hp1, hF⟩
      · clear H
        clear hp1 h8 h17 hF
        clear hS
        rintro k101 a w97 ⟨m1_0, m1_1, g97, A98, cap99, hpre0, hS, h8, h100, hp1, hF⟩
        have H := hpre0
        clear hpre0
        cases k101 with
        | zero => exact absurd H (by simp [depgraph_closure.l1])
        | succ k101 =>
          rw [depgraph_closure.l1] at H
          refine wp_seq ?_
          refine c_pure [(1, .slice A1 p1.length cap1), (8, .slice A6 m1_0.length cap7), (9, .slice A98 m1_1.length cap99), (48, .bool (decide (0 < (m1_1.length : Int))))] (fun R hR => st_val hS rfl rfl rfl (r_move hS rfl rfl) fun a102 hS102 => st_val hS102 rfl rfl rfl (r_len (e := 3) (sz := 1) (by_ := 8) hS102 rfl rfl (by kernel_rfl)) fun a103 hS103 => st_val hS103 rfl rfl rfl (r_bin hS103 rfl rfl rfl b_gtr) fun a104 hS104 => wpList_nil (hR _ (hS104.re ⟨rfl, rfl, rfl, rfl, trivial⟩))) ?_
          clear hS
          clear a
          intro a hS
          refine c_cond hS rfl (fun hb105 => ?_) (fun hb105 => ?_)
          · replace H := ite_t hb105 H
            refine wp_skip ?_
            change Code.wp _ _ _ _ _
            obtain ⟨v110, H, Hl112⟩ := bind_el H
            refine c_cut1 (fun a w106 => ∃ (g106 : Nat → Nat), ∃ (A107 : Option Addr), ∃ (cap108 : Nat), Sl 96 a [(1, .slice A1 p1.length cap1), (8, .slice A6 v110.1.length cap7), (9, .slice A107 v110.2.length cap108)] ∧ OwS kbool 4 w106 g106 (N + 0) A6 cap7 v110.1 ∧ OwS (kint .i64) 3 w106 g106 (N + 4) A107 cap108 v110.2 ∧ RdS (kslice (kint .i64) (by decide)) w106 g106 C1 A1 cap1 p1 ∧ Fr (fun q => (r0 ≤ q ∧ q < r0 + 2) ∨ N ≤ q) w g w106 g106) ?_ ?_
            · refine wp_block ?_
              obtain ⟨x117, hx118, H⟩ := bind_el H
              refine c_pure [(1, .slice A1 p1.length cap1), (8, .slice A6 m1_0.length cap7), (9, .slice A98 m1_1.length cap99), (12, .int .i64 x117)] (fun R hR => st_val hS rfl rfl rfl (r_move hS rfl rfl) fun a113 hS113 => st_val hS113 rfl rfl rfl (r_move hS113 rfl rfl) fun a114 hS114 => st_val hS114 rfl rfl rfl (r_len (e := 3) (sz := 1) (by_ := 8) hS114 rfl rfl (by kernel_rfl)) fun a115 hS115 => st_val hS115 rfl rfl rfl (r_bin hS115 rfl rfl rfl b_sub) fun a116 hS116 => st_val hS116 rfl rfl rfl (r_index (e := 3) (sz := 1) (by_ := 8) hS116 rfl rfl rfl (by kernel_rfl) (RdS.some_ (OwS.rd h100) hx118) (idx_lo hx118) (idx_hi hx118)) fun a119 hS119 => st_val hS119 rfl rfl rfl (r_load1 (n := 1) hS119 rfl rfl (by kernel_rfl) (RdS.cell (i := wi ((m1_1.length : Int) - 1)) (sz := 1) (j := 0) (OwS.rd h100) hx118 rfl)) fun a120 hS120 => st_val hS120 rfl rfl rfl (r_assign hS120 rfl rfl) fun a121 hS121 => wpList_nil (hR _ (hS121.re ⟨rfl, rfl, rfl, rfl, trivial⟩))) ?_
              clear hS
              clear a
              intro a hS
              obtain ⟨y126, hy127, H⟩ := bind_el H
              refine c_region (fun K hK => ?_)
              refine st_val hS rfl rfl rfl (r_move hS rfl rfl) fun a122 hS122 => st_val hS122 rfl rfl rfl (r_move hS122 rfl rfl) fun a123 hS123 => st_val hS123 rfl rfl rfl (r_len (e := 3) (sz := 1) (by_ := 8) hS123 rfl rfl (by kernel_rfl)) fun a124 hS124 => st_val hS124 rfl rfl rfl (r_bin hS124 rfl rfl rfl b_sub) fun a125 hS125 => ?_
              have h128 := OwS.slc0 h100 hy127
              refine st_val hS125 rfl rfl rfl (r_slice (e := 3) (sz := 1) (by_ := 8) (l := 0) (h := wi ((m1_1.length : Int) - 1)) hS125 rfl rfl (by kernel_rfl) rfl rfl hy127 (OwS.rd h100).1) fun a130 hS130 => st_val hS130 rfl rfl rfl (r_assign hS130 rfl rfl) fun a131 hS131 => wpList_nil (hK _ _ ?_)
              replace hS : Sl 96 _ [(1, .slice A1 p1.length cap1), (8, .slice A6 m1_0.length cap7), (9, .slice (slA A98 cap99 (0 : Int).toNat 1) y126.length (cap99 - (0 : Int).toNat)), (12, .int .i64 x117)] := hS131.re ⟨rfl, rfl, rfl, rfl, trivial⟩
              clear hK K
              try clear hS122 hS123 hS124 hS125 hS130 hS131
              obtain ⟨a, ha⟩ : ∃ a', a' = a131 := ⟨_, rfl⟩
              rw [← ha] at hS ⊢; clear ha
              obtain ⟨x134, hx135, H⟩ := bind_el H
              refine c_region (fun K hK => ?_)
              refine st_val hS rfl rfl rfl (r_move hS rfl rfl) fun a132 hS132 => st_val hS132 rfl rfl rfl (r_move hS132 rfl rfl) fun a133 hS133 => ?_
              obtain ⟨_, ⟨A137, cap138, rfl, h139⟩, hel136⟩ := El.of hp1 hx135 (by decide)
              replace hel136 : El w97 g97 C1 A1 (x117.toNat * 1) [.slice A137 x134.length cap138] := hel136
              refine st_val hS133 rfl rfl rfl (r_index (e := 26) (sz := 1) (by_ := 24) hS133 rfl rfl rfl (by kernel_rfl) (RdS.some_ hp1 hx135) (idx_lo hx135) (idx_hi hx135)) fun a142 hS142 => st_val hS142 rfl rfl rfl (r_load1 (n := 1) hS142 rfl rfl (by kernel_rfl) (El.cell (j := 0) hel136 rfl)) fun a143 hS143 => st_val hS143 rfl rfl rfl (r_len (e := 3) (sz := 1) (by_ := 8) hS143 rfl rfl (by kernel_rfl)) fun a144 hS144 => st_val hS144 rfl rfl rfl (r_move hS144 rfl rfl) fun a145 hS145 => wpList_nil (hK _ _ ?_)
              replace hS : Sl 96 _ [(1, .slice A1 p1.length cap1), (8, .slice A6 m1_0.length cap7), (9, .slice (slA A98 cap99 (0 : Int).toNat 1) y126.length (cap99 - (0 : Int).toNat)), (63, .slice A137 x134.length cap138), (64, .int .i64 (x134.length : Int)), (65, .int .i64 0)] := hS145.re ⟨rfl, rfl, rfl, rfl, rfl, rfl, trivial⟩
              clear hK K
              try clear hS132 hS133 hS142 hS143 hS144 hS145
              obtain ⟨a, ha⟩ : ∃ a', a' = a145 := ⟨_, rfl⟩
              rw [← ha] at hS ⊢; clear ha
              refine wp_block ?_
              refine wp_loop_ghost (fun kq => fun a w146 => ∃ (m2_0 : List Bool), ∃ (m2_1 : List Int), ∃ (m2_2 : Int), ∃ (g146 : Nat → Nat), ∃ (A147 : Option Addr), ∃ (cap148 : Nat), depgraph_closure.l2 x134 kq m2_0 m2_1 m2_2 = some v110 ∧ Sl 96 a [(1, .slice A1 p1.length cap1), (8, .slice A6 m2_0.length cap7), (9, .slice A147 m2_1.length cap148), (63, .slice A137 x134.length cap138), (64, .int .i64 (x134.length : Int)), (65, .int .i64 m2_2)] ∧ RdS (kint .i64) w146 g146 C1 A137 cap138 x134 ∧ OwS kbool 4 w146 g146 (N + 0) A6 cap7 m2_0 ∧ OwS (kint .i64) 3 w146 g146 (N + 4) A147 cap148 m2_1 ∧ RdS (kslice (kint .i64) (by decide)) w146 g146 C1 A1 cap1 p1 ∧ Fr (fun q => (r0 ≤ q ∧ q < r0 + 2) ∨ N ≤ q) w g w146 g146) FUEL ?_ ?_
              · exact ⟨m1_0, y126, 0, g97, (slA A98 cap99 (0 : Int).toNat 1), (cap99 - (0 : Int).toNat), H, hS.re ⟨rfl, rfl, rfl, rfl, rfl, rfl, trivial⟩, h139, h8, h128, hp1, hF⟩
              · clear H
                clear hp1 h8 h128 h139 hF
                clear hS
                rintro k150 a w146 ⟨m2_0, m2_1, m2_2, g146, A147, cap148, hpre0, hS, h139, h8, h149, hp1, hF⟩
                have H := hpre0
                clear hpre0
                cases k150 with
                | zero => exact absurd H (by simp [depgraph_closure.l2])
                | succ k150 =>
                  rw [depgraph_closure.l2] at H
                  refine c_pure [(1, .slice A1 p1.length cap1), (8, .slice A6 m2_0.length cap7), (9, .slice A147 m2_1.length cap148), (63, .slice A137 x134.length cap138), (64, .int .i64 (x134.length : Int)), (65, .int .i64 m2_2), (66, .bool (decide (m2_2 < (x134.length : Int))))] (fun R hR => st_val hS rfl rfl rfl (r_bin hS rfl rfl rfl b_lss) fun a151 hS151 => wpList_nil (hR _ (hS151.re ⟨rfl, rfl, rfl, rfl, rfl, rfl, rfl, trivial⟩))) ?_
                  clear hS
                  clear a
                  intro a hS
                  refine c_if hS rfl (fun hb152 => ?_) (fun hb152 => ?_)
                  · replace H := ite_t hb152 H
                    refine wp_skip ?_
                    change Code.wp _ _ _ _ _
                    obtain ⟨v157, H, Hl159⟩ := bind_el H
                    refine c_cut (fun a w153 => ∃ (g153 : Nat → Nat), ∃ (A154 : Option Addr), ∃ (cap155 : Nat), Sl 96 a [(1, .slice A1 p1.length cap1), (8, .slice A6 v157.1.length cap7), (9, .slice A154 v157.2.length cap155), (63, .slice A137 x134.length cap138), (64, .int .i64 (x134.length : Int)), (65, .int .i64 m2_2)] ∧ RdS (kint .i64) w153 g153 C1 A137 cap138 x134 ∧ OwS kbool 4 w153 g153 (N + 0) A6 cap7 v157.1 ∧ OwS (kint .i64) 3 w153 g153 (N + 4) A154 cap155 v157.2 ∧ RdS (kslice (kint .i64) (by decide)) w153 g153 C1 A1 cap1 p1 ∧ Fr (fun q => (r0 ≤ q ∧ q < r0 + 2) ∨ N ≤ q) w g w153 g153) ?_ ?_
                    · refine wp_block ?_
                      obtain ⟨x160, hx161, H⟩ := bind_el H
                      refine c_pure [(1, .slice A1 p1.length cap1), (8, .slice A6 m2_0.length cap7), (9, .slice A147 m2_1.length cap148), (14, .int .i64 x160), (63, .slice A137 x134.length cap138), (64, .int .i64 (x134.length : Int)), (65, .int .i64 m2_2)] (fun R hR => st_val hS rfl rfl rfl (r_index (e := 3) (sz := 1) (by_ := 8) hS rfl rfl rfl (by kernel_rfl) (RdS.some_ h139 hx161) (idx_lo hx161) (idx_hi hx161)) fun a162 hS162 => st_val hS162 rfl rfl rfl (r_load1 (n := 1) hS162 rfl rfl (by kernel_rfl) (RdS.cell (i := m2_2) (sz := 1) (j := 0) h139 hx161 rfl)) fun a163 hS163 => st_val hS163 rfl rfl rfl (r_assign hS163 rfl rfl) fun a164 hS164 => wpList_nil (hR _ (hS164.re ⟨rfl, rfl, rfl, rfl, rfl, rfl, rfl, trivial⟩))) ?_
                      clear hS
                      clear a
                      intro a hS
                      obtain ⟨x167, hx168, H⟩ := bind_el H
                      refine c_pure [(1, .slice A1 p1.length cap1), (8, .slice A6 m2_0.length cap7), (9, .slice A147 m2_1.length cap148), (14, .int .i64 x160), (63, .slice A137 x134.length cap138), (64, .int .i64 (x134.length : Int)), (65, .int .i64 m2_2), (73, .bool (!x167))] (fun R hR => st_val hS rfl rfl rfl (r_move hS rfl rfl) fun a165 hS165 => st_val hS165 rfl rfl rfl (r_move hS165 rfl rfl) fun a166 hS166 => st_val hS166 rfl rfl rfl (r_index (e := 4) (sz := 1) (by_ := 1) hS166 rfl rfl rfl (by kernel_rfl) (RdS.some_ (OwS.rd h8) hx168) (idx_lo hx168) (idx_hi hx168)) fun a169 hS169 => st_val hS169 rfl rfl rfl (r_load1 (n := 1) hS169 rfl rfl (by kernel_rfl) (RdS.cell (i := x160) (sz := 1) (j := 0) (OwS.rd h8) hx168 rfl)) fun a170 hS170 => st_val hS170 rfl rfl rfl (r_not hS170 rfl rfl) fun a171 hS171 => wpList_nil (hR _ (hS171.re ⟨rfl, rfl, rfl, rfl, rfl, rfl, rfl, rfl, trivial⟩))) ?_
                      clear hS
                      clear a
                      intro a hS
                      refine c_cond hS rfl (fun hb172 => ?_) (fun hb172 => ?_)
                      · replace H := ite_t hb172 H
                        refine c_region (fun K hK => ?_)
                        refine st_val hS rfl rfl rfl (r_move hS rfl rfl) fun a173 hS173 => st_val hS173 rfl rfl rfl (r_move hS173 rfl rfl) fun a174 hS174 => st_val hS174 rfl rfl rfl (r_index (e := 4) (sz := 1) (by_ := 1) hS174 rfl rfl rfl (by kernel_rfl) (RdS.some_ (OwS.rd h8) hx168) (idx_lo hx168) (idx_hi hx168)) fun a175 hS175 => ?_
                        refine st_effS hS175 rfl rfl (e_storeE (n := 1) (bb := false) (kd := kbool) (j := 0) (x' := true) (us := [.bool true]) g146 hS175 rfl rfl rfl rfl (by kernel_rfl) rfl rfl (by intro v hv; simp only [List.mem_cons, List.not_mem_nil, or_false] at hv; rcases hv with rfl <;> rfl) h8 hx168 rfl (fun _ _ cs hR => by rw [show cs = _ from hR]; rfl)) ?_
                        rintro a176 w177 g177 ⟨h8, F177⟩ hS176
                        replace h139 := RdS.fr h139 F177 (by decide) (fun q (hq : C1 q) (hm : q = N + 0) => by have := hC1 q hq; omega)
                        replace h149 := OwS.fr h149 F177 (fun c' hc (hm : c' = N + 0) => by omega)
                        replace hp1 := RdS.fr hp1 F177 (by decide) (fun q (hq : C1 q) (hm : q = N + 0) => by have := hC1 q hq; omega)
                        replace hF := hF.trans F177 (fun c' (hm : c' = N + 0) => by show (r0 ≤ c' ∧ c' < r0 + 2) ∨ N ≤ c'; omega)
                        have hT : Sl 96 a176 [(1, .slice A1 p1.length cap1), (8, .slice A6 m2_0.length cap7), (9, .slice A147 m2_1.length cap148), (14, .int .i64 x160), (63, .slice A137 x134.length cap138), (64, .int .i64 (x134.length : Int)), (65, .int .i64 m2_2)] := hS176.re ⟨rfl, rfl, rfl, rfl, rfl, rfl, rfl, trivial⟩
                        replace hS176 : Sl 96 a176 [(1, .slice A1 p1.length cap1), (8, .slice A6 (upd m2_0 x160 true).length cap7), (9, .slice A147 m2_1.length cap148), (14, .int .i64 x160), (63, .slice A137 x134.length cap138), (64, .int .i64 (x134.length : Int)), (65, .int .i64 m2_2)] := by simpa only [upd_length] using hT
                        clear hT
                        refine wpList_nil (hK _ _ ?_)
                        replace hS : Sl 96 _ [(1, .slice A1 p1.length cap1), (8, .slice A6 (upd m2_0 x160 true).length cap7), (9, .slice A147 m2_1.length cap148), (14, .int .i64 x160), (63, .slice A137 x134.length cap138), (64, .int .i64 (x134.length : Int)), (65, .int .i64 m2_2)] := hS176.re ⟨rfl, rfl, rfl, rfl, rfl, rfl, rfl, trivial⟩
                        clear hK K
                        try clear hS173 hS174 hS175 hS176
                        obtain ⟨a, ha⟩ : ∃ a', a' = a176 := ⟨_, rfl⟩
                        rw [← ha] at hS ⊢; clear ha
                        obtain ⟨y185, hy186, H⟩ := bind_el H
                        refine c_region1 (fun K hK => ?_)
                        refine st_val hS rfl rfl rfl (r_move hS rfl rfl) fun a178 hS178 => st_val hS178 rfl rfl rfl (r_move hS178 rfl rfl) fun a179 hS179 => ?_
                        refine st_eff hS179 rfl rfl rfl (e_lit (e := 3) (parts := [(0, .int .i64 x160)]) (cs := [.int .i64 x160]) (kint .i64) [x160] (N + 6) g177 hS179 rfl rfl (fun _ => by kernel_rfl) rfl (by decide) (Rows.cons (cs := [.int .i64 x160]) rfl Rows.nil)) ?_
                        rintro _ a183 w184 g184 ⟨⟨A180, rfl, h181⟩, F184⟩ hS183
                        replace h139 := RdS.fr h139 F184 (by decide) (fun _ _ h => h)
                        replace h8 := OwS.fr h8 F184 (fun _ _ h => h)
                        replace h149 := OwS.fr h149 F184 (fun _ _ h => h)
                        replace hp1 := RdS.fr hp1 F184 (by decide) (fun _ _ h => h)
                        replace hF := hF.trans F184 (fun _ h => h.elim)
                        refine st_eff hS183 rfl rfl rfl (e_append (e := 3) (sz := 1) (by_ := 8) (z := [.int .i64 0]) (kd := (kint .i64)) g184 hS183 rfl rfl rfl rfl (by kernel_rfl) (by kernel_rfl) rfl rfl rfl rfl h149 (OwD.rdx h181) (fun _ _ _ h => h) hy186) ?_
                        rintro _ a191 w192 g192 ⟨⟨A187, cap188, rfl, h189⟩, F192⟩ hS191
                        replace h139 := RdS.fr h139 F192 (by decide) (fun q (hq : C1 q) (hm : q = N + 4) => by have := hC1 q hq; omega)
                        replace h181 := OwS.fr h181 F192 (fun c' hc (hm : c' = N + 4) => by omega)
                        replace h8 := OwS.fr h8 F192 (fun c' hc (hm : c' = N + 4) => by omega)
                        replace hp1 := RdS.fr hp1 F192 (by decide) (fun q (hq : C1 q) (hm : q = N + 4) => by have := hC1 q hq; omega)
                        replace hF := hF.trans F192 (fun c' (hm : c' = N + 4) => by show (r0 ≤ c' ∧ c' < r0 + 2) ∨ N ≤ c'; omega)
                        refine st_val hS191 rfl rfl rfl (r_assign hS191 rfl rfl) fun a193 hS193 => wpList_nil (hK _ _ ?_)
                        replace hS : Sl 96 _ [(1, .slice A1 p1.length cap1), (8, .slice A6 (upd m2_0 x160 true).length cap7), (9, .slice A187 y185.length cap188), (63, .slice A137 x134.length cap138), (64, .int .i64 (x134.length : Int)), (65, .int .i64 m2_2)] := hS193.re ⟨rfl, rfl, rfl, rfl, rfl, rfl, trivial⟩
                        clear hK K
                        try clear hS178 hS179 hS183 hS191 hS193
                        obtain ⟨a, ha⟩ : ∃ a', a' = a193 := ⟨_, rfl⟩
                        rw [← ha] at hS ⊢; clear ha
                        have e := Option.some.inj H
                        subst e
                        exact ⟨g192, A187, cap188, hS.re ⟨rfl, rfl, rfl, rfl, rfl, rfl, trivial⟩, h139, h8, h189, hp1, hF⟩
                      · replace H := ite_f hb172 H
                        refine wp_skip ?_
                        have e := Option.some.inj H
                        subst e
                        exact ⟨g146, A147, cap148, hS.re ⟨rfl, rfl, rfl, rfl, rfl, rfl, trivial⟩, h139, h8, h149, hp1, hF⟩
                    · clear H
                      clear hp1 h8 h139 h149 hF
                      clear hS
                      rintro a w153 ⟨g153, A154, cap155, hS, h139, h8, h156, hp1, hF⟩
                      have H := Hl159
                      clear Hl159
                      refine c_pure1 [(1, .slice A1 p1.length cap1), (8, .slice A6 v157.1.length cap7), (9, .slice A154 v157.2.length cap155), (63, .slice A137 x134.length cap138), (64, .int .i64 (x134.length : Int)), (65, .int .i64 (wi (m2_2 + 1)))] (fun R hR => st_val hS rfl rfl rfl (r_bin hS rfl rfl rfl b_add) fun a194 hS194 => st_val hS194 rfl rfl rfl (r_move hS194 rfl rfl) fun a195 hS195 => wpList_nil (hR _ (hS195.re ⟨rfl, rfl, rfl, rfl, rfl, rfl, trivial⟩))) ?_
                      clear hS
                      clear a
                      intro a hS
                      refine ⟨k150, Nat.lt_succ_self _, ?_⟩
                      exact ⟨v157.1, v157.2, wi (m2_2 + 1), g153, A154, cap155, H, hS.re ⟨rfl, rfl, rfl, rfl, rfl, rfl, trivial⟩, h139, h8, h156, hp1, hF⟩
                  · replace H := ite_f hb152 H
                    refine wp_exit ?_
                    have e := Option.some.inj H
                    subst e
                    exact ⟨g146, A147, cap148, hS.re ⟨rfl, rfl, rfl, trivial⟩, h8, h149, hp1, hF⟩
            · clear H
              clear hp1 h8 h100 hF
              clear hS
              rintro a w106 ⟨g106, A107, cap108, hS, h8, h109, hp1, hF⟩
              have H := Hl112
              clear Hl112
              refine ⟨k101, Nat.lt_succ_self _, ?_⟩
              exact ⟨v110.1, v110.2, g106, A107, cap108, H, hS.re ⟨rfl, rfl, rfl, trivial⟩, h8, h109, hp1, hF⟩
          · replace H := ite_f hb105 H
            refine wp_exit ?_
            have e := Option.some.inj H
            subst e
            exact ⟨g97, hS.re ⟨rfl, trivial⟩, h8, hF⟩
    · clear H
      clear hp1 h8 h17 hF
      clear hS
      rintro a w93 ⟨g93, hS, h8, hF⟩
      have H := Hl96
      clear Hl96
      refine c_pure [(8, .slice A6 v94.length cap7), (15, .slice none 0 0)] (fun R hR => st_val hS rfl rfl rfl (r_assign hS rfl rfl) fun a196 hS196 => wpList_nil (hR _ (hS196.re ⟨rfl, rfl, trivial⟩))) ?_
      clear hS
      clear a
      intro a hS
      obtain ⟨v201, H, Hl203⟩ := bind_el H
      refine c_cut (fun a w197 => ∃ (g197 : Nat → Nat), ∃ (A198 : Option Addr), ∃ (cap199 : Nat), Sl 96 a [(15, .slice A198 v201.length cap199)] ∧ OwS (kint .i64) 3 w197 g197 (N + 10) A198 cap199 v201 ∧ Fr (fun q => (r0 ≤ q ∧ q < r0 + 2) ∨ N ≤ q) w g w197 g197) ?_ ?_
      · refine c_pure [(15, .slice none 0 0), (82, .slice A6 v94.length cap7), (83, .int .i64 (v94.length : Int)), (84, .int .i64 0)] (fun R hR => st_val hS rfl rfl rfl (r_move hS rfl rfl) fun a204 hS204 => st_val hS204 rfl rfl rfl (r_len (e := 4) (sz := 1) (by_ := 1) hS204 rfl rfl (by kernel_rfl)) fun a205 hS205 => st_val hS205 rfl rfl rfl (r_move hS205 rfl rfl) fun a206 hS206 => wpList_nil (hR _ (hS206.re ⟨rfl, rfl, rfl, rfl, trivial⟩))) ?_
        clear hS
        clear a
        intro a hS
        refine wp_block ?_
        refine wp_loop_ghost (fun kq => fun a w207 => ∃ (m3_0 : List Int), ∃ (m3_1 : Int), ∃ (g207 : Nat → Nat), ∃ (A208 : Option Addr), ∃ (cap209 : Nat), depgraph_closure.l3 v94 kq m3_0 m3_1 = some v201 ∧ Sl 96 a [(15, .slice A208 m3_0.length cap209), (82, .slice A6 v94.length cap7), (83, .int .i64 (v94.length : Int)), (84, .int .i64 m3_1)] ∧ OwS kbool 4 w207 g207 (N + 0) A6 cap7 v94 ∧ OwS (kint .i64) 3 w207 g207 (N + 10) A208 cap209 m3_0 ∧ Fr (fun q => (r0 ≤ q ∧ q < r0 + 2) ∨ N ≤ q) w g w207 g207) FUEL ?_ ?_
        · exact ⟨[], 0, g93, none, 0, H, hS.re ⟨rfl, rfl, rfl, rfl, trivial⟩, h8, OwS.nil (kint .i64) 3 w93 g93 (N + 10), hF⟩
        · clear H
          clear h8 hF
          clear hS
          rintro k211 a w207 ⟨m3_0, m3_1, g207, A208, cap209, hpre0, hS, h8, h210, hF⟩
          have H := hpre0
          clear hpre0
          cases k211 with
          | zero => exact absurd H (by simp [depgraph_closure.l3])
          | succ k211 =>
            rw [depgraph_closure.l3] at H
            refine c_pure [(15, .slice A208 m3_0.length cap209), (82, .slice A6 v94.length cap7), (83, .int .i64 (v94.length : Int)), (84, .int .i64 m3_1), (85, .bool (decide (m3_1 < (v94.length : Int))))] (fun R hR => st_val hS rfl rfl rfl (r_bin hS rfl rfl rfl b_lss) fun a212 hS212 => wpList_nil (hR _ (hS212.re ⟨rfl, rfl, rfl, rfl, rfl, trivial⟩))) ?_
            clear hS
            clear a
            intro a hS
            refine c_if hS rfl (fun hb213 => ?_) (fun hb213 => ?_)
            · replace H := ite_t hb213 H
              refine wp_skip ?_
              change Code.wp _ _ _ _ _
              obtain ⟨v218, H, Hl220⟩ := bind_el H
              refine c_cut (fun a w214 => ∃ (g214 : Nat → Nat), ∃ (A215 : Option Addr), ∃ (cap216 : Nat), Sl 96 a [(15, .slice A215 v218.length cap216), (82, .slice A6 v94.length cap7), (83, .int .i64 (v94.length : Int)), (84, .int .i64 m3_1)] ∧ OwS kbool 4 w214 g214 (N + 0) A6 cap7 v94 ∧ OwS (kint .i64) 3 w214 g214 (N + 10) A215 cap216 v218 ∧ Fr (fun q => (r0 ≤ q ∧ q < r0 + 2) ∨ N ≤ q) w g w214 g214) ?_ ?_
              · refine wp_block ?_
                obtain ⟨x222, hx223, H⟩ := bind_el H
                refine c_pure [(15, .slice A208 m3_0.length cap209), (16, .int .i64 m3_1), (17, .bool x222), (82, .slice A6 v94.length cap7), (83, .int .i64 (v94.length : Int)), (84, .int .i64 m3_1)] (fun R hR => st_val hS rfl rfl rfl (r_move hS rfl rfl) fun a221 hS221 => st_val hS221 rfl rfl rfl (r_index (e := 4) (sz := 1) (by_ := 1) hS221 rfl rfl rfl (by kernel_rfl) (RdS.some_ (OwS.rd h8) hx223) (idx_lo hx223) (idx_hi hx223)) fun a224 hS224 => st_val hS224 rfl rfl rfl (r_load1 (n := 1) hS224 rfl rfl (by kernel_rfl) (RdS.cell (i := m3_1) (sz := 1) (j := 0) (OwS.rd h8) hx223 rfl)) fun a225 hS225 => st_val hS225 rfl rfl rfl (r_assign hS225 rfl rfl) fun a226 hS226 => st_val hS226 rfl rfl rfl (r_assign hS226 rfl rfl) fun a227 hS227 => wpList_nil (hR _ (hS227.re ⟨rfl, rfl, rfl, rfl, rfl, rfl, trivial⟩))) ?_
                clear hS
                clear a
                intro a hS
                refine c_pure [(15, .slice A208 m3_0.length cap209), (16, .int .i64 m3_1), (82, .slice A6 v94.length cap7), (83, .int .i64 (v94.length : Int)), (84, .int .i64 m3_1), (89, .bool x222)] (fun R hR => st_val hS rfl rfl rfl (r_move hS rfl rfl) fun a228 hS228 => wpList_nil (hR _ (hS228.re ⟨rfl, rfl, rfl, rfl, rfl, rfl, trivial⟩))) ?_
                clear hS
                clear a
                intro a hS
                refine c_cond hS rfl (fun hb229 => ?_) (fun hb229 => ?_)
                · replace H := ite_t hb229 H
                  obtain ⟨y237, hy238, H⟩ := bind_el H
                  refine c_region1 (fun K hK => ?_)
                  refine st_val hS rfl rfl rfl (r_move hS rfl rfl) fun a230 hS230 => st_val hS230 rfl rfl rfl (r_move hS230 rfl rfl) fun a231 hS231 => ?_
                  refine st_eff hS231 rfl rfl rfl (e_lit (e := 3) (parts := [(0, .int .i64 m3_1)]) (cs := [.int .i64 m3_1]) (kint .i64) [m3_1] (N + 8) g207 hS231 rfl rfl (fun _ => by kernel_rfl) rfl (by decide) (Rows.cons (cs := [.int .i64 m3_1]) rfl Rows.nil)) ?_
                  rintro _ a235 w236 g236 ⟨⟨A232, rfl, h233⟩, F236⟩ hS235
                  replace h8 := OwS.fr h8 F236 (fun _ _ h => h)
                  replace h210 := OwS.fr h210 F236 (fun _ _ h => h)
                  replace hF := hF.trans F236 (fun _ h => h.elim)
                  refine st_eff hS235 rfl rfl rfl (e_append (e := 3) (sz := 1) (by_ := 8) (z := [.int .i64 0]) (kd := (kint .i64)) g236 hS235 rfl rfl rfl rfl (by kernel_rfl) (by kernel_rfl) rfl rfl rfl rfl h210 (OwD.rdx h233) (fun _ _ _ h => h) hy238) ?_
                  rintro _ a243 w244 g244 ⟨⟨A239, cap240, rfl, h241⟩, F244⟩ hS243
                  replace h233 := OwS.fr h233 F244 (fun c' hc (hm : c' = N + 10) => by omega)
                  replace h8 := OwS.fr h8 F244 (fun c' hc (hm : c' = N + 10) => by omega)
                  replace hF := hF.trans F244 (fun c' (hm : c' = N + 10) => by show (r0 ≤ c' ∧ c' < r0 + 2) ∨ N ≤ c'; omega)
                  refine st_val hS243 rfl rfl rfl (r_assign hS243 rfl rfl) fun a245 hS245 => wpList_nil (hK _ _ ?_)
                  replace hS : Sl 96 _ [(15, .slice A239 y237.length cap240), (82, .slice A6 v94.length cap7), (83, .int .i64 (v94.length : Int)), (84, .int .i64 m3_1)] := hS245.re ⟨rfl, rfl, rfl, rfl, trivial⟩
                  clear hK K
                  try clear hS230 hS231 hS235 hS243 hS245
                  obtain ⟨a, ha⟩ : ∃ a', a' = a245 := ⟨_, rfl⟩
                  rw [← ha] at hS ⊢; clear ha
                  have e := Option.some.inj H
                  subst e
                  exact ⟨g244, A239, cap240, hS.re ⟨rfl, rfl, rfl, rfl, trivial⟩, h8, h241, hF⟩
                · replace H := ite_f hb229 H
                  refine wp_skip ?_
                  have e := Option.some.inj H
                  subst e
                  exact ⟨g207, A208, cap209, hS.re ⟨rfl, rfl, rfl, rfl, trivial⟩, h8, h210, hF⟩
              · clear H
                clear h8 h210 hF
                clear hS
                rintro a w214 ⟨g214, A215, cap216, hS, h8, h217, hF⟩
                have H := Hl220
                clear Hl220
                refine c_pure1 [(15, .slice A215 v218.length cap216), (82, .slice A6 v94.length cap7), (83, .int .i64 (v94.length : Int)), (84, .int .i64 (wi (m3_1 + 1)))] (fun R hR => st_val hS rfl rfl rfl (r_bin hS rfl rfl rfl b_add) fun a246 hS246 => st_val hS246 rfl rfl rfl (r_move hS246 rfl rfl) fun a247 hS247 => wpList_nil (hR _ (hS247.re ⟨rfl, rfl, rfl, rfl, trivial⟩))) ?_
                clear hS
                clear a
                intro a hS
                refine ⟨k211, Nat.lt_succ_self _, ?_⟩
                exact ⟨v218, wi (m3_1 + 1), g214, A215, cap216, H, hS.re ⟨rfl, rfl, rfl, rfl, trivial⟩, h8, h217, hF⟩
            · replace H := ite_f hb213 H
              refine wp_exit ?_
              have e := Option.some.inj H
              subst e
              exact ⟨g207, A208, cap209, hS.re ⟨rfl, trivial⟩, h210, hF⟩
      · clear H
        clear h8 hF
        clear hS
        rintro a w197 ⟨g197, A198, cap199, hS, h200, hF⟩
        have H := Hl203
        clear Hl203
        refine c_pure [(6, .slice A198 v201.length cap199), (7, .int .i64 0)] (fun R hR => st_val hS rfl rfl rfl (r_move hS rfl rfl) fun a248 hS248 => st_val hS248 rfl rfl rfl (r_assign hS248 rfl rfl) fun a249 hS249 => st_val hS249 rfl rfl rfl (r_assign hS249 rfl rfl) fun a250 hS250 => wpList_nil (hR _ (hS250.re ⟨rfl, rfl, trivial⟩))) ?_
        clear hS
        clear a
        intro a hS
        refine wp_ret ?_
        have e := Option.some.inj H
        subst e
        have F251 := Fr.recol2 w197 g197 (N + 10) r0
        replace h200 := h200.recol2 r0
        replace hF := hF.trans F251 (fun c' (hm : c' = N + 10 ∨ c' = N + 10 + 1) => by show (r0 ≤ c' ∧ c' < r0 + 2) ∨ N ≤ c'; omega)
        repeat (with_reducible first | refine then_ret ?_ | refine inBlock_ret ?_)
        exact c_ret2 hS Try.results46 rfl rfl ⟨_, rfl, (recol2 g197 (N + 10) r0), A198, cap199, rfl, h200, hF⟩

/-! ### depgraph_Suppliers: function 28 -/
def depgraph_Suppliers.f (p0 : Int) (p1 : List api_Link) (p2 : List Int) : Option ((List Int) × Int) := (depgraph_validate.f p0 p1).bind fun r5 => if (r5 != 0) = true then (some ([], r5)) else ((depgraph_reversed.f p1).bind fun r18 => (depgraph_adjacent.f p0 r18).bind fun r26 => (depgraph_closure.f p0 r26.1 p2).bind fun r46 => some (r46.1, r46.2))
set_option maxRecDepth 100000 in
set_option maxHeartbeats 4000000 in
theorem depgraph_Suppliers.calls {p0 : Int} {p1 : List api_Link} {A1 : Option Addr} {cap1 : Nat} {C1 : Nat → Prop} {p2 : List Int} {A2 : Option Addr} {cap2 : Nat} {C2 : Nat → Prop} {w : World} {g : Nat → Nat} {out : (List Int) × Int} (N : Nat) (r0 : Nat) (hp1 : RdS kd_api_Link w g C1 A1 cap1 p1) (hC1 : ∀ c, C1 c → c < N) (hp2 : RdS (kint .i64) w g C2 A2 cap2 p2) (hC2 : ∀ c, C2 c → c < N) (hr0 : r0 + 2 ≤ N) (H : depgraph_Suppliers.f p0 p1 p2 = some out) :
    Calls Try.prog 28 #[.int .i64 p0, .slice A1 p1.length cap1, .slice A2 p2.length cap2] w (fun e w' => ∃ v, e = .returned v ∧ ∃ (g' : Nat → Nat) (A_r0 : Option Addr) (cap_r0 : Nat), v = .tuple #[.slice A_r0 out.1.length cap_r0, .int .i64 out.2] ∧ OwS (kint .i64) 3 w' g' r0 A_r0 cap_r0 out.1 ∧ Fr (fun q => (r0 ≤ q ∧ q < r0 + 2) ∨ N ≤ q) w g w' g') := by
  unfold depgraph_Suppliers.f at H
  refine calls_enter Try.func28 rfl Try.ntmps28 rfl (fun a hS => ?_)
  replace hS : Sl 30 a [(0, .int .i64 p0), (1, .slice A1 p1.length cap1), (2, .slice A2 p2.length cap2)] := hS
  have hF : Fr (fun q => (r0 ≤ q ∧ q < r0 + 2) ∨ N ≤ q) w g w g := Fr.refl _ _ _
  refine c_pure [(0, .int .i64 p0), (1, .slice A1 p1.length cap1), (2, .slice A2 p2.length cap2)] (fun R hR => st_val hS rfl rfl rfl (r_assign hS rfl rfl) fun a1 hS1 => st_val hS1 rfl rfl rfl (r_assign hS1 rfl rfl) fun a2 hS2 => wpList_nil (hR _ (hS2.re ⟨rfl, rfl, rfl, trivial⟩))) ?_
  clear hS
  clear a
  intro a hS
  refine wp_seq ?_
  obtain ⟨r5, hr6, H⟩ := bind_el H
  refine c_region (fun K hK => ?_)
  refine st_val hS rfl rfl rfl (r_move hS rfl rfl) fun a3 hS3 => st_val hS3 rfl rfl rfl (r_move hS3 rfl rfl) fun a4 hS4 => ?_
  refine st_enter hS4 rfl rfl rfl (r_call hS4 rfl rfl (by kernel_rfl)) (depgraph_validate.calls (C1 := C1) (p0 := p0) (p1 := p1) (g := g) (N + 8)  hp1 (fun q (hq : C1 q) => by have := hC1 q hq; omega) hr6) ?_
  rintro _ a7 w8 ⟨g8, rfl, F8⟩ hS7
  replace hp1 := RdS.fr hp1 F8 (by decide) (fun q (hq : C1 q) (hm : N + 8 ≤ q) => by have := hC1 q hq; omega)
  replace hp2 := RdS.fr hp2 F8 (by decide) (fun q (hq : C2 q) (hm : N + 8 ≤ q) => by have := hC2 q hq; omega)
  replace hF := hF.trans F8 (fun c' (hm : N + 8 ≤ c') => by show (r0 ≤ c' ∧ c' < r0 + 2) ∨ N ≤ c'; omega)
  refine st_val hS7 rfl rfl rfl (r_assign hS7 rfl rfl) fun a9 hS9 => wpList_nil (hK _ _ ?_)
  replace hS : Sl 30 _ [(0, .int .i64 p0), (1, .slice A1 p1.length cap1), (2, .slice A2 p2.length cap2), (8, .int .i64 r5)] := hS9.re ⟨rfl, rfl, rfl, rfl, trivial⟩
  clear hK K
  try clear hS3 hS4 hS7 hS9
  obtain ⟨a, ha⟩ : ∃ a', a' = a9 := ⟨_, rfl⟩
  rw [← ha] at hS ⊢; clear ha
  refine c_pure [(0, .int .i64 p0), (1, .slice A1 p1.length cap1), (2, .slice A2 p2.length cap2), (8, .int .i64 r5), (15, .bool (r5 != 0))] (fun R hR => st_val hS rfl rfl rfl (r_move hS rfl rfl) fun a10 hS10 => st_val hS10 rfl rfl rfl (r_bin hS10 rfl rfl rfl b_neq) fun a11 hS11 => wpList_nil (hR _ (hS11.re ⟨rfl, rfl, rfl, rfl, rfl, trivial⟩))) ?_
  clear hS
  clear a
  intro a hS
  refine c_cond hS rfl (fun hb12 => ?_) (fun hb12 => ?_)
  · replace H := ite_t hb12 H
    refine c_pure [(6, .slice none 0 0), (7, .int .i64 r5)] (fun R hR => st_val hS rfl rfl rfl (r_move hS rfl rfl) fun a13 hS13 => st_val hS13 rfl rfl rfl (r_assign hS13 rfl rfl) fun a14 hS14 => st_val hS14 rfl rfl rfl (r_assign hS14 rfl rfl) fun a15 hS15 => wpList_nil (hR _ (hS15.re ⟨rfl, rfl, trivial⟩))) ?_
    clear hS
    clear a
    intro a hS
    refine wp_ret ?_
    have e := Option.some.inj H
    subst e
    repeat (with_reducible first | refine then_ret ?_ | refine inBlock_ret ?_)
    exact c_ret2 hS Try.results28 rfl rfl ⟨_, rfl, g8, none, 0, rfl, OwS.nil (kint .i64) 3 w8 g8 r0, hF⟩
  · replace H := ite_f hb12 H
    refine wp_skip ?_
    change Code.wp _ _ _ _ _
    obtain ⟨r18, hr19, H⟩ := bind_el H
    obtain ⟨r26, hr27, H⟩ := bind_el H
    refine c_region (fun K hK => ?_)
    refine st_val hS rfl rfl rfl (r_move hS rfl rfl) fun a16 hS16 => st_val hS16 rfl rfl rfl (r_move hS16 rfl rfl) fun a17 hS17 => ?_
    refine st_enter hS17 rfl rfl rfl (r_call hS17 rfl rfl (by kernel_rfl)) (depgraph_reversed.calls (C0 := C1) (p0 := p1) (g := g8) (N + 8) (N + 0) hp1 (fun q (hq : C1 q) => by have := hC1 q hq; omega) (by omega) hr19) ?_
    rintro _ a24 w25 ⟨g25, A20, cap21, rfl, h22, F25⟩ hS24
    replace hp1 := RdS.fr hp1 F25 (by decide) (fun q (hq : C1 q) (hm : (N + 0 ≤ q ∧ q < N + 0 + 2) ∨ N + 8 ≤ q) => by have := hC1 q hq; omega)
    replace hp2 := RdS.fr hp2 F25 (by decide) (fun q (hq : C2 q) (hm : (N + 0 ≤ q ∧ q < N + 0 + 2) ∨ N + 8 ≤ q) => by have := hC2 q hq; omega)
    replace hF := hF.trans F25 (fun c' (hm : (N + 0 ≤ c' ∧ c' < N + 0 + 2) ∨ N + 8 ≤ c') => by show (r0 ≤ c' ∧ c' < r0 + 2) ∨ N ≤ c'; omega)
    refine st_enter hS24 rfl rfl rfl (r_call hS24 rfl rfl (by kernel_rfl)) (depgraph_adjacent.calls (C1 := (fun q => q = N + 0)) (p0 := p0) (p1 := r18) (g := g25) (N + 8) (N + 2) (N + 4) (OwD.rdf (fun _ _ _ _ _ _ h => h) h22) (fun q (hq : q = N + 0) => by omega) (by omega) (by omega) (by omega) hr27) ?_
    rintro _ a36 w37 ⟨g37, A28, cap29, A32, cap33, rfl, h30, h34, F37⟩ hS36
    replace h22 := OwS.fr h22 F37 (fun c' hc (hm : (N + 2 ≤ c' ∧ c' < N + 2 + 2) ∨ (N + 4 ≤ c' ∧ c' < N + 4 + 2) ∨ N + 8 ≤ c') => by omega)
    replace hp1 := RdS.fr hp1 F37 (by decide) (fun q (hq : C1 q) (hm : (N + 2 ≤ q ∧ q < N + 2 + 2) ∨ (N + 4 ≤ q ∧ q < N + 4 + 2) ∨ N + 8 ≤ q) => by have := hC1 q hq; omega)
    replace hp2 := RdS.fr hp2 F37 (by decide) (fun q (hq : C2 q) (hm : (N + 2 ≤ q ∧ q < N + 2 + 2) ∨ (N + 4 ≤ q ∧ q < N + 4 + 2) ∨ N + 8 ≤ q) => by have := hC2 q hq; omega)
    replace hF := hF.trans F37 (fun c' (hm : (N + 2 ≤ c' ∧ c' < N + 2 + 2) ∨ (N + 4 ≤ c' ∧ c' < N + 4 + 2) ∨ N + 8 ≤ c') => by show (r0 ≤ c' ∧ c' < r0 + 2) ∨ N ≤ c'; omega)
    refine st_val hS36 rfl rfl rfl (r_move hS36 rfl rfl) fun a38 hS38 => st_val hS38 rfl rfl rfl (r_extract hS38 rfl rfl rfl) fun a39 hS39 => st_val hS39 rfl rfl rfl (r_extract hS39 rfl rfl rfl) fun a40 hS40 => st_val hS40 rfl rfl rfl (r_assign hS40 rfl rfl) fun a41 hS41 => st_val hS41 rfl rfl rfl (r_assign hS41 rfl rfl) fun a42 hS42 => wpList_nil (hK _ _ ?_)
    replace hS : Sl 30 _ [(0, .int .i64 p0), (2, .slice A2 p2.length cap2), (9, .slice A28 r26.1.length cap29)] := hS42.re ⟨rfl, rfl, rfl, trivial⟩
    clear hK K
    try clear hS16 hS17 hS24 hS36 hS38 hS39 hS40 hS41 hS42
    obtain ⟨a, ha⟩ : ∃ a', a' = a42 := ⟨_, rfl⟩
    rw [← ha] at hS ⊢; clear ha
    obtain ⟨r46, hr47, H⟩ := bind_el H
    refine c_region (fun K hK => ?_)
    refine st_val hS rfl rfl rfl (r_move hS rfl rfl) fun a43 hS43 => st_val hS43 rfl rfl rfl (r_move hS43 rfl rfl) fun a44 hS44 => st_val hS44 rfl rfl rfl (r_move hS44 rfl rfl) fun a45 hS45 => ?_
    refine st_enter hS45 rfl rfl rfl (r_call hS45 rfl rfl (by kernel_rfl)) (depgraph_closure.calls (C1 := (fun q => q = N + 2 ∨ q = N + 2 + 1)) (C2 := C2) (p0 := p0) (p1 := r26.1) (p2 := p2) (g := g37) (N + 8) (N + 6) (OwS.rd h30) (fun q (hq : q = N + 2 ∨ q = N + 2 + 1) => by rcases hq with hq | hq; all_goals first | (omega; done) | (omega; done)) hp2 (fun q (hq : C2 q) => by have := hC2 q hq; omega) (by omega) hr47) ?_
    rintro _ a52 w53 ⟨g53, A48, cap49, rfl, h50, F53⟩ hS52
    replace h30 := OwS.fr h30 F53 (fun c' hc (hm : (N + 6 ≤ c' ∧ c' < N + 6 + 2) ∨ N + 8 ≤ c') => by omega)
    replace hp2 := RdS.fr hp2 F53 (by decide) (fun q (hq : C2 q) (hm : (N + 6 ≤ q ∧ q < N + 6 + 2) ∨ N + 8 ≤ q) => by have := hC2 q hq; omega)
    replace hF := hF.trans F53 (fun c' (hm : (N + 6 ≤ c' ∧ c' < N + 6 + 2) ∨ N + 8 ≤ c') => by show (r0 ≤ c' ∧ c' < r0 + 2) ∨ N ≤ c'; omega)
    refine st_val hS52 rfl rfl rfl (r_extract hS52 rfl rfl rfl) fun a54 hS54 => st_val hS54 rfl rfl rfl (r_extract hS54 rfl rfl rfl) fun a55 hS55 => st_val hS55 rfl rfl rfl (r_assign hS55 rfl rfl) fun a56 hS56 => st_val hS56 rfl rfl rfl (r_assign hS56 rfl rfl) fun a57 hS57 => wpList_nil (hK _ _ ?_)
    replace hS : Sl 30 _ [(6, .slice A48 r46.1.length cap49), (7, .int .i64 r46.2)] := hS57.re ⟨rfl, rfl, trivial⟩
    clear hK K
    try clear hS43 hS44 hS45 hS52 hS54 hS55 hS56 hS57
    obtain ⟨a, ha⟩ : ∃ a', a' = a57 := ⟨_, rfl⟩
    rw [← ha] at hS ⊢; clear ha
    refine wp_ret ?_
    have e := Option.some.inj H
    subst e
    have F58 := Fr.recol2 w53 g53 (N + 6) r0
    replace h50 := h50.recol2 r0
    replace hF := hF.trans F58 (fun c' (hm : c' = N + 6 ∨ c' = N + 6 + 1) => by show (r0 ≤ c' ∧ c' < r0 + 2) ∨ N ≤ c'; omega)
    repeat (with_reducible first | refine then_ret ?_ | refine inBlock_ret ?_)
    exact c_ret2 hS Try.results28 rfl rfl ⟨_, rfl, (recol2 g53 (N + 6) r0), A48, cap49, rfl, h50, hF⟩

/-! ### depgraph_Consumers: function 30 -/
def depgraph_Consumers.f (p0 : Int) (p1 : List api_Link) (p2 : List Int) : Option ((List Int) × Int) := (depgraph_validate.f p0 p1).bind fun r5 => if (r5 != 0) = true then (some ([], r5)) else ((depgraph_adjacent.f p0 p1).bind fun r18 => (depgraph_closure.f p0 r18.1 p2).bind fun r38 => some (r38.1, r38.2))
set_option maxRecDepth 100000 in
set_option maxHeartbeats 4000000 in
theorem depgraph_Consumers.calls {p0 : Int} {p1 : List api_Link} {A1 : Option Addr} {cap1 : Nat} {C1 : Nat → Prop} {p2 : List Int} {A2 : Option Addr} {cap2 : Nat} {C2 : Nat → Prop} {w : World} {g : Nat → Nat} {out : (List Int) × Int} (N : Nat) (r0 : Nat) (hp1 : RdS kd_api_Link w g C1 A1 cap1 p1) (hC1 : ∀ c, C1 c → c < N) (hp2 : RdS (kint .i64) w g C2 A2 cap2 p2) (hC2 : ∀ c, C2 c → c < N) (hr0 : r0 + 2 ≤ N) (H : depgraph_Consumers.f p0 p1 p2 = some out) :
    Calls Try.prog 30 #[.int .i64 p0, .slice A1 p1.length cap1, .slice A2 p2.length cap2] w (fun e w' => ∃ v, e = .returned v ∧ ∃ (g' : Nat → Nat) (A_r0 : Option Addr) (cap_r0 : Nat), v = .tuple #[.slice A_r0 out.1.length cap_r0, .int .i64 out.2] ∧ OwS (kint .i64) 3 w' g' r0 A_r0 cap_r0 out.1 ∧ Fr (fun q => (r0 ≤ q ∧ q < r0 + 2) ∨ N ≤ q) w g w' g') := by
  unfold depgraph_Consumers.f at H
  refine calls_enter Try.func30 rfl Try.ntmps30 rfl (fun a hS => ?_)
  replace hS : Sl 29 a [(0, .int .i64 p0), (1, .slice A1 p1.length cap1), (2, .slice A2 p2.length cap2)] := hS
  have hF : Fr (fun q => (r0 ≤ q ∧ q < r0 + 2) ∨ N ≤ q) w g w g := Fr.refl _ _ _
  refine c_pure [(0, .int .i64 p0), (1, .slice A1 p1.length cap1), (2, .slice A2 p2.length cap2)] (fun R hR => st_val hS rfl rfl rfl (r_assign hS rfl rfl) fun a1 hS1 => st_val hS1 rfl rfl rfl (r_assign hS1 rfl rfl) fun a2 hS2 => wpList_nil (hR _ (hS2.re ⟨rfl, rfl, rfl, trivial⟩))) ?_
  clear hS
  clear a
  intro a hS
  refine wp_seq ?_
  obtain ⟨r5, hr6, H⟩ := bind_el H
  refine c_region (fun K hK => ?_)
  refine st_val hS rfl rfl rfl (r_move hS rfl rfl) fun a3 hS3 => st_val hS3 rfl rfl rfl (r_move hS3 rfl rfl) fun a4 hS4 => ?_
  refine st_enter hS4 rfl rfl rfl (r_call hS4 rfl rfl (by kernel_rfl)) (depgraph_validate.calls (C1 := C1) (p0 := p0) (p1 := p1) (g := g) (N + 6)  hp1 (fun q (hq : C1 q) => by have := hC1 q hq; omega) hr6) ?_
  rintro _ a7 w8 ⟨g8, rfl, F8⟩ hS7
  replace hp1 := RdS.fr hp1 F8 (by decide) (fun q (hq : C1 q) (hm : N + 6 ≤ q) => by have := hC1 q hq; omega)
  replace hp2 := RdS.fr hp2 F8 (by decide) (fun q (hq : C2 q) (hm : N + 6 ≤ q) => by have := hC2 q hq; omega)
  replace hF := hF.trans F8 (fun c' (hm : N + 6 ≤ c') => by show (r0 ≤ c' ∧ c' < r0 + 2) ∨ N ≤ c'; omega)
  refine st_val hS7 rfl rfl rfl (r_assign hS7 rfl rfl) fun a9 hS9 => wpList_nil (hK _ _ ?_)
  replace hS : Sl 29 _ [(0, .int .i64 p0), (1, .slice A1 p1.length cap1), (2, .slice A2 p2.length cap2), (8, .int .i64 r5)] := hS9.re ⟨rfl, rfl, rfl, rfl, trivial⟩
  clear hK K
  try clear hS3 hS4 hS7 hS9
  obtain ⟨a, ha⟩ : ∃ a', a' = a9 := ⟨_, rfl⟩
  rw [← ha] at hS ⊢; clear ha
  refine c_pure [(0, .int .i64 p0), (1, .slice A1 p1.length cap1), (2, .slice A2 p2.length cap2), (8, .int .i64 r5), (15, .bool (r5 != 0))] (fun R hR => st_val hS rfl rfl rfl (r_move hS rfl rfl) fun a10 hS10 => st_val hS10 rfl rfl rfl (r_bin hS10 rfl rfl rfl b_neq) fun a11 hS11 => wpList_nil (hR _ (hS11.re ⟨rfl, rfl, rfl, rfl, rfl, trivial⟩))) ?_
  clear hS
  clear a
  intro a hS
  refine c_cond hS rfl (fun hb12 => ?_) (fun hb12 => ?_)
  · replace H := ite_t hb12 H
    refine c_pure [(6, .slice none 0 0), (7, .int .i64 r5)] (fun R hR => st_val hS rfl rfl rfl (r_move hS rfl rfl) fun a13 hS13 => st_val hS13 rfl rfl rfl (r_assign hS13 rfl rfl) fun a14 hS14 => st_val hS14 rfl rfl rfl (r_assign hS14 rfl rfl) fun a15 hS15 => wpList_nil (hR _ (hS15.re ⟨rfl, rfl, trivial⟩))) ?_
    clear hS
    clear a
    intro a hS
    refine wp_ret ?_
    have e := Option.some.inj H
    subst e
    repeat (with_reducible first | refine then_ret ?_ | refine inBlock_ret ?_)
    exact c_ret2 hS Try.results30 rfl rfl ⟨_, rfl, g8, none, 0, rfl, OwS.nil (kint .i64) 3 w8 g8 r0, hF⟩
  · replace H := ite_f hb12 H
    refine wp_skip ?_
    change Code.wp _ _ _ _ _
    obtain ⟨r18, hr19, H⟩ := bind_el H
    refine c_region (fun K hK => ?_)
    refine st_val hS rfl rfl rfl (r_move hS rfl rfl) fun a16 hS16 => st_val hS16 rfl rfl rfl (r_move hS16 rfl rfl) fun a17 hS17 => ?_
    refine st_enter hS17 rfl rfl rfl (r_call hS17 rfl rfl (by kernel_rfl)) (depgraph_adjacent.calls (C1 := C1) (p0 := p0) (p1 := p1) (g := g8) (N + 6) (N + 0) (N + 2) hp1 (fun q (hq : C1 q) => by have := hC1 q hq; omega) (by omega) (by omega) (by omega) hr19) ?_
    rintro _ a28 w29 ⟨g29, A20, cap21, A24, cap25, rfl, h22, h26, F29⟩ hS28
    replace hp1 := RdS.fr hp1 F29 (by decide) (fun q (hq : C1 q) (hm : (N + 0 ≤ q ∧ q < N + 0 + 2) ∨ (N + 2 ≤ q ∧ q < N + 2 + 2) ∨ N + 6 ≤ q) => by have := hC1 q hq; omega)
    replace hp2 := RdS.fr hp2 F29 (by decide) (fun q (hq : C2 q) (hm : (N + 0 ≤ q ∧ q < N + 0 + 2) ∨ (N + 2 ≤ q ∧ q < N + 2 + 2) ∨ N + 6 ≤ q) => by have := hC2 q hq; omega)
    replace hF := hF.trans F29 (fun c' (hm : (N + 0 ≤ c' ∧ c' < N + 0 + 2) ∨ (N + 2 ≤ c' ∧ c' < N + 2 + 2) ∨ N + 6 ≤ c') => by show (r0 ≤ c' ∧ c' < r0 + 2) ∨ N ≤ c'; omega)
    refine st_val hS28 rfl rfl rfl (r_move hS28 rfl rfl) fun a30 hS30 => st_val hS30 rfl rfl rfl (r_extract hS30 rfl rfl rfl) fun a31 hS31 => st_val hS31 rfl rfl rfl (r_extract hS31 rfl rfl rfl) fun a32 hS32 => st_val hS32 rfl rfl rfl (r_assign hS32 rfl rfl) fun a33 hS33 => st_val hS33 rfl rfl rfl (r_assign hS33 rfl rfl) fun a34 hS34 => wpList_nil (hK _ _ ?_)
    replace hS : Sl 29 _ [(0, .int .i64 p0), (2, .slice A2 p2.length cap2), (9, .slice A20 r18.1.length cap21)] := hS34.re ⟨rfl, rfl, rfl, trivial⟩
    clear hK K
    try clear hS16 hS17 hS28 hS30 hS31 hS32 hS33 hS34
    obtain ⟨a, ha⟩ : ∃ a', a' = a34 := ⟨_, rfl⟩
    rw [← ha] at hS ⊢; clear ha
    obtain ⟨r38, hr39, H⟩ := bind_el H
    refine c_region (fun K hK => ?_)
    refine st_val hS rfl rfl rfl (r_move hS rfl rfl) fun a35 hS35 => st_val hS35 rfl rfl rfl (r_move hS35 rfl rfl) fun a36 hS36 => st_val hS36 rfl rfl rfl (r_move hS36 rfl rfl) fun a37 hS37 => ?_
    refine st_enter hS37 rfl rfl rfl (r_call hS37 rfl rfl (by kernel_rfl)) (depgraph_closure.calls (C1 := (fun q => q = N + 0 ∨ q = N + 0 + 1)) (C2 := C2) (p0 := p0) (p1 := r18.1) (p2 := p2) (g := g29) (N + 6) (N + 4) (OwS.rd h22) (fun q (hq : q = N + 0 ∨ q = N + 0 + 1) => by rcases hq with hq | hq; all_goals first | (omega; done) | (omega; done)) hp2 (fun q (hq : C2 q) => by have := hC2 q hq; omega) (by omega) hr39) ?_
    rintro _ a44 w45 ⟨g45, A40, cap41, rfl, h42, F45⟩ hS44
    replace h22 := OwS.fr h22 F45 (fun c' hc (hm : (N + 4 ≤ c' ∧ c' < N + 4 + 2) ∨ N + 6 ≤ c') => by omega)
    replace hp2 := RdS.fr hp2 F45 (by decide) (fun q (hq : C2 q) (hm : (N + 4 ≤ q ∧ q < N + 4 + 2) ∨ N + 6 ≤ q) => by have := hC2 q hq; omega)
    replace hF := hF.trans F45 (fun c' (hm : (N + 4 ≤ c' ∧ c' < N + 4 + 2) ∨ N + 6 ≤ c') => by show (r0 ≤ c' ∧ c' < r0 + 2) ∨ N ≤ c'; omega)
    refine st_val hS44 rfl rfl rfl (r_extract hS44 rfl rfl rfl) fun a46 hS46 => st_val hS46 rfl rfl rfl (r_extract hS46 rfl rfl rfl) fun a47 hS47 => st_val hS47 rfl rfl rfl (r_assign hS47 rfl rfl) fun a48 hS48 => st_val hS48 rfl rfl rfl (r_assign hS48 rfl rfl) fun a49 hS49 => wpList_nil (hK _ _ ?_)
    replace hS : Sl 29 _ [(6, .slice A40 r38.1.length cap41), (7, .int .i64 r38.2)] := hS49.re ⟨rfl, rfl, trivial⟩
    clear hK K
    try clear hS35 hS36 hS37 hS44 hS46 hS47 hS48 hS49
    obtain ⟨a, ha⟩ : ∃ a', a' = a49 := ⟨_, rfl⟩
    rw [← ha] at hS ⊢; clear ha
    refine wp_ret ?_
    have e := Option.some.inj H
    subst e
    have F50 := Fr.recol2 w45 g45 (N + 4) r0
    replace h42 := h42.recol2 r0
    replace hF := hF.trans F50 (fun c' (hm : c' = N + 4 ∨ c' = N + 4 + 1) => by show (r0 ≤ c' ∧ c' < r0 + 2) ∨ N ≤ c'; omega)
    repeat (with_reducible first | refine then_ret ?_ | refine inBlock_ret ?_)
    exact c_ret2 hS Try.results30 rfl rfl ⟨_, rfl, (recol2 g45 (N + 4) r0), A40, cap41, rfl, h42, hF⟩

/-! ### ref24_invalid: function 56 -/
def ref24_invalid.l0 (p0 : Int) (p1 : List api_Link) : Nat → Int → Option (Fl (Bool) (Unit))
  | 0, _ => none
  | k35 + 1, m0_0 => if decide (m0_0 < (p1.length : Int)) = true then ((idx p1 m0_0).bind fun x43 => if ((((decide (x43.Consumer < 0)) || (decide (p0 ≤ x43.Consumer))) || (decide (x43.Supplier < 0))) || (decide (p0 ≤ x43.Supplier))) = true then (some (.out true)) else (ref24_invalid.l0 p0 p1 k35 (wi (m0_0 + 1)))) else (some (.nxt ()))
def ref24_invalid.f (p0 : Int) (p1 : List api_Link) : Option (Bool) := if (((decide (p0 < 0)) || (decide (128 < p0))) || (decide (1024 < (p1.length : Int)))) = true then (some true) else ((ref24_invalid.l0 p0 p1 FUEL 0 : Option (Fl (Bool) (Unit))).bind fun o32 => o32.go fun _ => some false)
set_option maxRecDepth 100000 in
set_option maxHeartbeats 4000000 in
theorem ref24_invalid.calls {p0 : Int} {p1 : List api_Link} {A1 : Option Addr} {cap1 : Nat} {C1 : Nat → Prop} {w : World} {g : Nat → Nat} {out : Bool} (N : Nat) (hp1 : RdS kd_api_Link w g C1 A1 cap1 p1) (hC1 : ∀ c, C1 c → c < N) (H : ref24_invalid.f p0 p1 = some out) :
    Calls Try.prog 56 #[.int .i64 p0, .slice A1 p1.length cap1] w (fun e w' => ∃ v, e = .returned v ∧ ∃ (g' : Nat → Nat), v = .bool out ∧ Fr (fun q => N ≤ q) w g w' g') := by
  unfold ref24_invalid.f at H
  refine calls_enter Try.func56 rfl Try.ntmps56 rfl (fun a hS => ?_)
  replace hS : Sl 55 a [(0, .int .i64 p0), (1, .slice A1 p1.length cap1)] := hS
  have hF : Fr (fun q => N ≤ q) w g w g := Fr.refl _ _ _
  refine c_pure [(0, .int .i64 p0), (1, .slice A1 p1.length cap1)] (fun R hR => st_val hS rfl rfl rfl (r_assign hS rfl rfl) fun a1 hS1 => wpList_nil (hR _ (hS1.re ⟨rfl, rfl, trivial⟩))) ?_
  clear hS
  clear a
  intro a hS
  refine wp_seq ?_
  refine c_region (fun K hK => ?_)
  refine st_val hS rfl rfl rfl (r_move hS rfl rfl) fun a2 hS2 => st_val hS2 rfl rfl rfl (r_bin hS2 rfl rfl rfl b_lss) fun a3 hS3 => st_val hS3 rfl rfl rfl (r_move hS3 rfl rfl) fun a4 hS4 => ?_
  refine g_join (N := 55) 3 [(0, .int .i64 p0), (1, .slice A1 p1.length cap1), (11, .bool ((decide (p0 < 0)) || (decide (128 < p0))))] ?_ (fun hk => ?_)
  rotate_left
  · rcases Bool.eq_false_or_eq_true (decide (p0 < 0)) with hb5 | hb5
    · refine st_off hS4 (want_off hS4 rfl rfl rfl hb5) rfl rfl fun a8 hS8 => st_off hS8 (want_off hS8 rfl rfl rfl hb5) rfl rfl fun a9 hS9 => st_val hS9 rfl rfl rfl (r_pickT hS9 rfl rfl rfl hb5) fun a10 hS10 => hk _ (hS10.re ⟨rfl, rfl, (by rw [hb5]; rfl), trivial⟩)
    · refine st_valW hS4 (want_on hS4 rfl rfl rfl hb5) rfl rfl (r_move hS4 rfl rfl) fun a11 hS11 => st_valW hS11 (want_on hS11 rfl rfl rfl hb5) rfl rfl (r_bin hS11 rfl rfl rfl b_gtr) fun a12 hS12 => st_val hS12 rfl rfl rfl (r_pickF hS12 rfl rfl rfl hb5) fun a13 hS13 => hk _ (hS13.re ⟨rfl, rfl, (by rw [hb5]; rfl), trivial⟩)
  intro a14 hS14
  refine st_val hS14 rfl rfl rfl (r_move hS14 rfl rfl) fun a15 hS15 => ?_
  refine g_join (N := 55) 4 [(0, .int .i64 p0), (1, .slice A1 p1.length cap1), (16, .bool (((decide (p0 < 0)) || (decide (128 < p0))) || (decide (1024 < (p1.length : Int)))))] ?_ (fun hk => ?_)
  rotate_left
  · rcases Bool.eq_false_or_eq_true (((decide (p0 < 0)) || (decide (128 < p0)))) with hb16 | hb16
    · refine st_off hS15 (want_off hS15 rfl rfl rfl hb16) rfl rfl fun a20 hS20 => st_off hS20 (want_off hS20 rfl rfl rfl hb16) rfl rfl fun a21 hS21 => st_off hS21 (want_off hS21 rfl rfl rfl hb16) rfl rfl fun a22 hS22 => st_val hS22 rfl rfl rfl (r_pickT hS22 rfl rfl rfl hb16) fun a23 hS23 => hk _ (hS23.re ⟨rfl, rfl, (by rw [hb16]; rfl), trivial⟩)
    · refine st_valW hS15 (want_on hS15 rfl rfl rfl hb16) rfl rfl (r_move hS15 rfl rfl) fun a24 hS24 => st_valW hS24 (want_on hS24 rfl rfl rfl hb16) rfl rfl (r_len (e := 34) (sz := 2) (by_ := 16) hS24 rfl rfl (by kernel_rfl)) fun a25 hS25 => st_valW hS25 (want_on hS25 rfl rfl rfl hb16) rfl rfl (r_bin hS25 rfl rfl rfl b_gtr) fun a26 hS26 => st_val hS26 rfl rfl rfl (r_pickF hS26 rfl rfl rfl hb16) fun a27 hS27 => hk _ (hS27.re ⟨rfl, rfl, (by rw [hb16]; rfl), trivial⟩)
  intro a28 hS28
  refine wpList_nil (hK _ _ ?_)
  replace hS : Sl 55 _ [(0, .int .i64 p0), (1, .slice A1 p1.length cap1), (16, .bool (((decide (p0 < 0)) || (decide (128 < p0))) || (decide (1024 < (p1.length : Int)))))] := hS28.re ⟨rfl, rfl, rfl, trivial⟩
  clear hK K
  try clear hS2 hS3 hS4 hS14 hS15 hS28
  obtain ⟨a, ha⟩ : ∃ a', a' = a28 := ⟨_, rfl⟩
  rw [← ha] at hS ⊢; clear ha
  refine c_cond hS rfl (fun hb29 => ?_) (fun hb29 => ?_)
  · replace H := ite_t hb29 H
    refine c_pure [(4, .bool true)] (fun R hR => st_val hS rfl rfl rfl (r_assign hS rfl rfl) fun a30 hS30 => wpList_nil (hR _ (hS30.re ⟨rfl, trivial⟩))) ?_
    clear hS
    clear a
    intro a hS
    refine wp_ret ?_
    have e := Option.some.inj H
    subst e
    repeat (with_reducible first | refine then_ret ?_ | refine inBlock_ret ?_)
    exact c_ret1 hS Try.results56 rfl ⟨_, rfl, g, rfl, hF⟩
  · replace H := ite_f hb29 H
    refine wp_skip ?_
    change Code.wp _ _ _ _ _
    obtain ⟨o32, H, Hl33⟩ := bind_el H
    refine c_cut (fun a w' => o32 = .nxt () ∧ w = w' ∧ Sl 55 a []) ?_ ?_
    · refine c_pure [(0, .int .i64 p0), (1, .slice A1 p1.length cap1), (5, .int .i64 0)] (fun R hR => st_val hS rfl rfl rfl (r_assign hS rfl rfl) fun a34 hS34 => wpList_nil (hR _ (hS34.re ⟨rfl, rfl, rfl, trivial⟩))) ?_
      clear hS
      clear a
      intro a hS
      refine wp_block ?_
      refine wp_loop_ghost (fun kq => fun a w' => ∃ (m0_0 : Int), ref24_invalid.l0 p0 p1 kq m0_0 = some o32 ∧ w = w' ∧ Sl 55 a [(0, .int .i64 p0), (1, .slice A1 p1.length cap1), (5, .int .i64 m0_0)]) FUEL ?_ ?_
      · exact ⟨0, H, rfl, hS.re ⟨rfl, rfl, rfl, trivial⟩⟩
      · clear H
        clear hS
        rintro k35 a w' ⟨m0_0, hpre0, hw, hS⟩
        subst hw
        have H := hpre0
        clear hpre0
        cases k35 with
        | zero => exact absurd H (by simp [ref24_invalid.l0])
        | succ k35 =>
          rw [ref24_invalid.l0] at H
          refine wp_seq ?_
          refine c_pure [(0, .int .i64 p0), (1, .slice A1 p1.length cap1), (5, .int .i64 m0_0), (20, .bool (decide (m0_0 < (p1.length : Int))))] (fun R hR => st_val hS rfl rfl rfl (r_move hS rfl rfl) fun a36 hS36 => st_val hS36 rfl rfl rfl (r_move hS36 rfl rfl) fun a37 hS37 => st_val hS37 rfl rfl rfl (r_len (e := 34) (sz := 2) (by_ := 16) hS37 rfl rfl (by kernel_rfl)) fun a38 hS38 => st_val hS38 rfl rfl rfl (r_bin hS38 rfl rfl rfl b_lss) fun a39 hS39 => wpList_nil (hR _ (hS39.re ⟨rfl, rfl, rfl, rfl, trivial⟩))) ?_
          clear hS
          clear a
          intro a hS
          refine c_cond hS rfl (fun hb40 => ?_) (fun hb40 => ?_)
          · replace H := ite_t hb40 H
            refine wp_skip ?_
            change Code.wp _ _ _ _ _
            refine wp_seq ?_
            refine wp_block ?_
            obtain ⟨x43, hx44, H⟩ := bind_el H
            refine c_region (fun K hK => ?_)
            refine st_val hS rfl rfl rfl (r_move hS rfl rfl) fun a41 hS41 => st_val hS41 rfl rfl rfl (r_move hS41 rfl rfl) fun a42 hS42 => st_val hS42 rfl rfl rfl (r_index (e := 34) (sz := 2) (by_ := 16) hS42 rfl rfl rfl (by kernel_rfl) (RdS.some_ hp1 hx44) (idx_lo hx44) (idx_hi hx44)) fun a45 hS45 => st_val hS45 rfl rfl rfl (r_fieldE (off := 0) hS45 rfl rfl (by kernel_rfl)) fun a46 hS46 => st_val hS46 rfl rfl rfl (r_load1 (n := 1) hS46 rfl rfl (by kernel_rfl) (RdS.cell (i := m0_0) (sz := 2) (j := 0) hp1 hx44 rfl)) fun a47 hS47 => st_val hS47 rfl rfl rfl (r_bin hS47 rfl rfl rfl b_lss) fun a48 hS48 => st_val hS48 rfl rfl rfl (r_move hS48 rfl rfl) fun a49 hS49 => ?_
            refine g_join (N := 55) 8 [(0, .int .i64 p0), (1, .slice A1 p1.length cap1), (5, .int .i64 m0_0), (37, .bool ((decide (x43.Consumer < 0)) || (decide (p0 ≤ x43.Consumer))))] ?_ (fun hk => ?_)
            rotate_left
            · rcases Bool.eq_false_or_eq_true (decide (x43.Consumer < 0)) with hb50 | hb50
              · refine st_off hS49 (want_off hS49 rfl rfl rfl hb50) rfl rfl fun a58 hS58 => st_off hS58 (want_off hS58 rfl rfl rfl hb50) rfl rfl fun a59 hS59 => st_off hS59 (want_off hS59 rfl rfl rfl hb50) rfl rfl fun a60 hS60 => st_off hS60 (want_off hS60 rfl rfl rfl hb50) rfl rfl fun a61 hS61 => st_off hS61 (want_off hS61 rfl rfl rfl hb50) rfl rfl fun a62 hS62 => st_off hS62 (want_off hS62 rfl rfl rfl hb50) rfl rfl fun a63 hS63 => st_off hS63 (want_off hS63 rfl rfl rfl hb50) rfl rfl fun a64 hS64 => st_val hS64 rfl rfl rfl (r_pickT hS64 rfl rfl rfl hb50) fun a65 hS65 => hk _ (hS65.re ⟨rfl, rfl, rfl, (by rw [hb50]; rfl), trivial⟩)
              · refine st_valW hS49 (want_on hS49 rfl rfl rfl hb50) rfl rfl (r_move hS49 rfl rfl) fun a66 hS66 => st_valW hS66 (want_on hS66 rfl rfl rfl hb50) rfl rfl (r_move hS66 rfl rfl) fun a67 hS67 => st_valW hS67 (want_on hS67 rfl rfl rfl hb50) rfl rfl (r_index (e := 34) (sz := 2) (by_ := 16) hS67 rfl rfl rfl (by kernel_rfl) (RdS.some_ hp1 hx44) (idx_lo hx44) (idx_hi hx44)) fun a68 hS68 => st_valW hS68 (want_on hS68 rfl rfl rfl hb50) rfl rfl (r_fieldE (off := 0) hS68 rfl rfl (by kernel_rfl)) fun a69 hS69 => st_valW hS69 (want_on hS69 rfl rfl rfl hb50) rfl rfl (r_load1 (n := 1) hS69 rfl rfl (by kernel_rfl) (RdS.cell (i := m0_0) (sz := 2) (j := 0) hp1 hx44 rfl)) fun a70 hS70 => st_valW hS70 (want_on hS70 rfl rfl rfl hb50) rfl rfl (r_move hS70 rfl rfl) fun a71 hS71 => st_valW hS71 (want_on hS71 rfl rfl rfl hb50) rfl rfl (r_bin hS71 rfl rfl rfl b_geq) fun a72 hS72 => st_val hS72 rfl rfl rfl (r_pickF hS72 rfl rfl rfl hb50) fun a73 hS73 => hk _ (hS73.re ⟨rfl, rfl, rfl, (by rw [hb50]; rfl), trivial⟩)
            intro a74 hS74
            refine st_val hS74 rfl rfl rfl (r_move hS74 rfl rfl) fun a75 hS75 => ?_
            refine g_join (N := 55) 7 [(0, .int .i64 p0), (1, .slice A1 p1.length cap1), (5, .int .i64 m0_0), (45, .bool (((decide (x43.Consumer < 0)) || (decide (p0 ≤ x43.Consumer))) || (decide (x43.Supplier < 0))))] ?_ (fun hk => ?_)
            rotate_left
            · rcases Bool.eq_false_or_eq_true (((decide (x43.Consumer < 0)) || (decide (p0 ≤ x43.Consumer)))) with hb76 | hb76
              · refine st_off hS75 (want_off hS75 rfl rfl rfl hb76) rfl rfl fun a83 hS83 => st_off hS83 (want_off hS83 rfl rfl rfl hb76) rfl rfl fun a84 hS84 => st_off hS84 (want_off hS84 rfl rfl rfl hb76) rfl rfl fun a85 hS85 => st_off hS85 (want_off hS85 rfl rfl rfl hb76) rfl rfl fun a86 hS86 => st_off hS86 (want_off hS86 rfl rfl rfl hb76) rfl rfl fun a87 hS87 => st_off hS87 (want_off hS87 rfl rfl rfl hb76) rfl rfl fun a88 hS88 => st_val hS88 rfl rfl rfl (r_pickT hS88 rfl rfl rfl hb76) fun a89 hS89 => hk _ (hS89.re ⟨rfl, rfl, rfl, (by rw [hb76]; rfl), trivial⟩)
              · refine st_valW hS75 (want_on hS75 rfl rfl rfl hb76) rfl rfl (r_move hS75 rfl rfl) fun a90 hS90 => st_valW hS90 (want_on hS90 rfl rfl rfl hb76) rfl rfl (r_move hS90 rfl rfl) fun a91 hS91 => st_valW hS91 (want_on hS91 rfl rfl rfl hb76) rfl rfl (r_index (e := 34) (sz := 2) (by_ := 16) hS91 rfl rfl rfl (by kernel_rfl) (RdS.some_ hp1 hx44) (idx_lo hx44) (idx_hi hx44)) fun a92 hS92 => st_valW hS92 (want_on hS92 rfl rfl rfl hb76) rfl rfl (r_fieldE (off := 1) hS92 rfl rfl (by kernel_rfl)) fun a93 hS93 => st_valW hS93 (want_on hS93 rfl rfl rfl hb76) rfl rfl (r_load1 (n := 1) hS93 rfl rfl (by kernel_rfl) (RdS.cell (i := m0_0) (sz := 2) (j := 1) hp1 hx44 rfl)) fun a94 hS94 => st_valW hS94 (want_on hS94 rfl rfl rfl hb76) rfl rfl (r_bin hS94 rfl rfl rfl b_lss) fun a95 hS95 => st_val hS95 rfl rfl rfl (r_pickF hS95 rfl rfl rfl hb76) fun a96 hS96 => hk _ (hS96.re ⟨rfl, rfl, rfl, (by rw [hb76]; rfl), trivial⟩)
            intro a97 hS97
            refine st_val hS97 rfl rfl rfl (r_move hS97 rfl rfl) fun a98 hS98 => ?_
            refine g_join (N := 55) 8 [(0, .int .i64 p0), (1, .slice A1 p1.length cap1), (5, .int .i64 m0_0), (54, .bool ((((decide (x43.Consumer < 0)) || (decide (p0 ≤ x43.Consumer))) || (decide (x43.Supplier < 0))) || (decide (p0 ≤ x43.Supplier))))] ?_ (fun hk => ?_)
            rotate_left
            · rcases Bool.eq_false_or_eq_true ((((decide (x43.Consumer < 0)) || (decide (p0 ≤ x43.Consumer))) || (decide (x43.Supplier < 0)))) with hb99 | hb99
              · refine st_off hS98 (want_off hS98 rfl rfl rfl hb99) rfl rfl fun a107 hS107 => st_off hS107 (want_off hS107 rfl rfl rfl hb99) rfl rfl fun a108 hS108 => st_off hS108 (want_off hS108 rfl rfl rfl hb99) rfl rfl fun a109 hS109 => st_off hS109 (want_off hS109 rfl rfl rfl hb99) rfl rfl fun a110 hS110 => st_off hS110 (want_off hS110 rfl rfl rfl hb99) rfl rfl fun a111 hS111 => st_off hS111 (want_off hS111 rfl rfl rfl hb99) rfl rfl fun a112 hS112 => st_off hS112 (want_off hS112 rfl rfl rfl hb99) rfl rfl fun a113 hS113 => st_val hS113 rfl rfl rfl (r_pickT hS113 rfl rfl rfl hb99) fun a114 hS114 => hk _ (hS114.re ⟨rfl, rfl, rfl, (by rw [hb99]; rfl), trivial⟩)
              · refine st_valW hS98 (want_on hS98 rfl rfl rfl hb99) rfl rfl (r_move hS98 rfl rfl) fun a115 hS115 => st_valW hS115 (want_on hS115 rfl rfl rfl hb99) rfl rfl (r_move hS115 rfl rfl) fun a116 hS116 => st_valW hS116 (want_on hS116 rfl rfl rfl hb99) rfl rfl (r_index (e := 34) (sz := 2) (by_ := 16) hS116 rfl rfl rfl (by kernel_rfl) (RdS.some_ hp1 hx44) (idx_lo hx44) (idx_hi hx44)) fun a117 hS117 => st_valW hS117 (want_on hS117 rfl rfl rfl hb99) rfl rfl (r_fieldE (off := 1) hS117 rfl rfl (by kernel_rfl)) fun a118 hS118 => st_valW hS118 (want_on hS118 rfl rfl rfl hb99) rfl rfl (r_load1 (n := 1) hS118 rfl rfl (by kernel_rfl) (RdS.cell (i := m0_0) (sz := 2) (j := 1) hp1 hx44 rfl)) fun a119 hS119 => st_valW hS119 (want_on hS119 rfl rfl rfl hb99) rfl rfl (r_move hS119 rfl rfl) fun a120 hS120 => st_valW hS120 (want_on hS120 rfl rfl rfl hb99) rfl rfl (r_bin hS120 rfl rfl rfl b_geq) fun a121 hS121 => st_val hS121 rfl rfl rfl (r_pickF hS121 rfl rfl rfl hb99) fun a122 hS122 => hk _ (hS122.re ⟨rfl, rfl, rfl, (by rw [hb99]; rfl), trivial⟩)
            intro a123 hS123
            refine wpList_nil (hK _ _ ?_)
            replace hS : Sl 55 _ [(0, .int .i64 p0), (1, .slice A1 p1.length cap1), (5, .int .i64 m0_0), (54, .bool ((((decide (x43.Consumer < 0)) || (decide (p0 ≤ x43.Consumer))) || (decide (x43.Supplier < 0))) || (decide (p0 ≤ x43.Supplier))))] := hS123.re ⟨rfl, rfl, rfl, rfl, trivial⟩
            clear hK K
            try clear hS41 hS42 hS45 hS46 hS47 hS48 hS49 hS74 hS75 hS97 hS98 hS123
            obtain ⟨a, ha⟩ : ∃ a', a' = a123 := ⟨_, rfl⟩
            rw [← ha] at hS ⊢; clear ha
            refine c_cond hS rfl (fun hb124 => ?_) (fun hb124 => ?_)
            · replace H := ite_t hb124 H
              refine c_pure [(4, .bool true)] (fun R hR => st_val hS rfl rfl rfl (r_assign hS rfl rfl) fun a125 hS125 => wpList_nil (hR _ (hS125.re ⟨rfl, trivial⟩))) ?_
              clear hS
              clear a
              intro a hS
              refine wp_ret ?_
              have e := Option.some.inj H
              subst e
              replace H := Fl.go_out Hl33
              have e := Option.some.inj H
              subst e
              repeat (with_reducible first | refine then_ret ?_ | refine inBlock_ret ?_)
              exact c_ret1 hS Try.results56 rfl ⟨_, rfl, g, rfl, hF⟩
            · replace H := ite_f hb124 H
              refine wp_skip ?_
              change Code.wp _ _ _ _ _
              refine c_pure1 [(0, .int .i64 p0), (1, .slice A1 p1.length cap1), (5, .int .i64 (wi (m0_0 + 1)))] (fun R hR => st_val hS rfl rfl rfl (r_move hS rfl rfl) fun a126 hS126 => st_val hS126 rfl rfl rfl (r_bin hS126 rfl rfl rfl b_add) fun a127 hS127 => st_val hS127 rfl rfl rfl (r_assign hS127 rfl rfl) fun a128 hS128 => wpList_nil (hR _ (hS128.re ⟨rfl, rfl, rfl, trivial⟩))) ?_
              clear hS
              clear a
              intro a hS
              refine ⟨k35, Nat.lt_succ_self _, ?_⟩
              exact ⟨wi (m0_0 + 1), H, rfl, hS.re ⟨rfl, rfl, rfl, trivial⟩⟩
          · replace H := ite_f hb40 H
            refine wp_exit ?_
            have e := Option.some.inj H
            exact ⟨e.symm, rfl, hS.re trivial⟩
    · clear H
      clear hS
      rintro a w' ⟨hpre0, hw, hS⟩
      subst hpre0
      subst hw
      have H := Fl.go_nxt Hl33
      clear Hl33
      refine c_pure [(4, .bool false)] (fun R hR => st_val hS rfl rfl rfl (r_assign hS rfl rfl) fun a129 hS129 => wpList_nil (hR _ (hS129.re ⟨rfl, trivial⟩))) ?_
      clear hS
      clear a
      intro a hS
      refine wp_ret ?_
      have e := Option.some.inj H
      subst e
      repeat (with_reducible first | refine then_ret ?_ | refine inBlock_ret ?_)
      exact c_ret1 hS Try.results56 rfl ⟨_, rfl, g, rfl, hF⟩

/-! ### ref24_Basic: function 42 -/
def ref24_Basic.l1 (p1 : List api_Link) (m0_0 : Int) : Nat → Int → Option (Fl (Fl (Int) (Unit)) (Unit))
  | 0, _ => none
  | k28 + 1, m1_0 => if decide (m1_0 < m0_0) = true then ((idx p1 m0_0).bind fun x36 => (idx p1 m1_0).bind fun x42 => if decide (x36 = x42) = true then (some (.out (.out 7))) else (ref24_Basic.l1 p1 m0_0 k28 (wi (m1_0 + 1)))) else (some (.nxt ()))
def ref24_Basic.l0 (p1 : List api_Link) : Nat → Int → Option (Fl (Int) (Unit))
  | 0, _ => none
  | k16 + 1, m0_0 => if decide (m0_0 < (p1.length : Int)) = true then ((ref24_Basic.l1 p1 m0_0 FUEL 0 : Option (Fl (Fl (Int) (Unit)) (Unit))).bind fun o24 => o24.go fun _ => ref24_Basic.l0 p1 k16 (wi (m0_0 + 1))) else (some (.nxt ()))
def ref24_Basic.f (p0 : Int) (p1 : List api_Link) : Option (Int) := (ref24_invalid.f p0 p1).bind fun r4 => if r4 = true then (some 1) else ((ref24_Basic.l0 p1 FUEL 0 : Option (Fl (Int) (Unit))).bind fun o12 => o12.go fun _ => some 0)
set_option maxRecDepth 100000 in
set_option maxHeartbeats 4000000 in
theorem ref24_Basic.calls {p0 : Int} {p1 : List api_Link} {A1 : Option Addr} {cap1 : Nat} {C1 : Nat → Prop} {w : World} {g : Nat → Nat} {out : Int} (N : Nat) (hp1 : RdS kd_api_Link w g C1 A1 cap1 p1) (hC1 : ∀ c, C1 c → c < N) (H : ref24_Basic.f p0 p1 = some out) :
    Calls Try.prog 42 #[.int .i64 p0, .slice A1 p1.length cap1] w (fun e w' => ∃ v, e = .returned v ∧ ∃ (g' : Nat → Nat), v = .int .i64 out ∧ Fr (fun q => N ≤ q) w g w' g') := by
  unfold ref24_Basic.f at H
  refine calls_enter Try.func42 rfl Try.ntmps42 rfl (fun a hS => ?_)
  replace hS : Sl 30 a [(0, .int .i64 p0), (1, .slice A1 p1.length cap1)] := hS
  have hF : Fr (fun q => N ≤ q) w g w g := Fr.refl _ _ _
  refine c_pure [(0, .int .i64 p0), (1, .slice A1 p1.length cap1)] (fun R hR => st_val hS rfl rfl rfl (r_assign hS rfl rfl) fun a1 hS1 => wpList_nil (hR _ (hS1.re ⟨rfl, rfl, trivial⟩))) ?_
  clear hS
  clear a
  intro a hS
  refine wp_seq ?_
  obtain ⟨r4, hr5, H⟩ := bind_el H
  refine c_region (fun K hK => ?_)
  refine st_val hS rfl rfl rfl (r_move hS rfl rfl) fun a2 hS2 => st_val hS2 rfl rfl rfl (r_move hS2 rfl rfl) fun a3 hS3 => ?_
  refine st_enter hS3 rfl rfl rfl (r_call hS3 rfl rfl (by kernel_rfl)) (ref24_invalid.calls (C1 := C1) (p0 := p0) (p1 := p1) (g := g) (N + 0)  hp1 (fun q (hq : C1 q) => by have := hC1 q hq; omega) hr5) ?_
  rintro _ a6 w7 ⟨g7, rfl, F7⟩ hS6
  replace hp1 := RdS.fr hp1 F7 (by decide) (fun q (hq : C1 q) (hm : N + 0 ≤ q) => by have := hC1 q hq; omega)
  replace hF := hF.trans F7 (fun c' (hm : N + 0 ≤ c') => by show N ≤ c'; omega)
  refine wpList_nil (hK _ _ ?_)
  replace hS : Sl 30 _ [(1, .slice A1 p1.length cap1), (9, .bool r4)] := hS6.re ⟨rfl, rfl, trivial⟩
  clear hK K
  try clear hS2 hS3 hS6
  obtain ⟨a, ha⟩ : ∃ a', a' = a6 := ⟨_, rfl⟩
  rw [← ha] at hS ⊢; clear ha
  refine c_cond hS rfl (fun hb8 => ?_) (fun hb8 => ?_)
  · replace H := ite_t hb8 H
    refine c_pure [(4, .int .i64 1)] (fun R hR => st_val hS rfl rfl rfl (r_assign hS rfl rfl) fun a9 hS9 => wpList_nil (hR _ (hS9.re ⟨rfl, trivial⟩))) ?_
    clear hS
    clear a
    intro a hS
    refine wp_ret ?_
    have e := Option.some.inj H
    subst e
    repeat (with_reducible first | refine then_ret ?_ | refine inBlock_ret ?_)
    exact c_ret1 hS Try.results42 rfl ⟨_, rfl, g7, rfl, hF⟩
  · replace H := ite_f hb8 H
    refine wp_skip ?_
    change Code.wp _ _ _ _ _
    obtain ⟨o12, H, Hl13⟩ := bind_el H
    refine c_cut (fun a w10 => ∃ (g10 : Nat → Nat), o12 = .nxt () ∧ Sl 30 a [] ∧ Fr (fun q => N ≤ q) w g w10 g10) ?_ ?_
    · refine c_pure [(1, .slice A1 p1.length cap1), (5, .int .i64 0)] (fun R hR => st_val hS rfl rfl rfl (r_assign hS rfl rfl) fun a14 hS14 => wpList_nil (hR _ (hS14.re ⟨rfl, rfl, trivial⟩))) ?_
      clear hS
      clear a
      intro a hS
      refine wp_block ?_
      refine wp_loop_ghost (fun kq => fun a w15 => ∃ (m0_0 : Int), ∃ (g15 : Nat → Nat), ref24_Basic.l0 p1 kq m0_0 = some o12 ∧ Sl 30 a [(1, .slice A1 p1.length cap1), (5, .int .i64 m0_0)] ∧ RdS kd_api_Link w15 g15 C1 A1 cap1 p1 ∧ Fr (fun q => N ≤ q) w g w15 g15) FUEL ?_ ?_
      · exact ⟨0, g7, H, hS.re ⟨rfl, rfl, trivial⟩, hp1, hF⟩
      · clear H
        clear hp1 hF
        clear hS
        rintro k16 a w15 ⟨m0_0, g15, hpre0, hS, hp1, hF⟩
        have H := hpre0
        clear hpre0
        cases k16 with
        | zero => exact absurd H (by simp [ref24_Basic.l0])
        | succ k16 =>
          rw [ref24_Basic.l0] at H
          refine wp_seq ?_
          refine c_pure [(1, .slice A1 p1.length cap1), (5, .int .i64 m0_0), (13, .bool (decide (m0_0 < (p1.length : Int))))] (fun R hR => st_val hS rfl rfl rfl (r_move hS rfl rfl) fun a17 hS17 => st_val hS17 rfl rfl rfl (r_move hS17 rfl rfl) fun a18 hS18 => st_val hS18 rfl rfl rfl (r_len (e := 34) (sz := 2) (by_ := 16) hS18 rfl rfl (by kernel_rfl)) fun a19 hS19 => st_val hS19 rfl rfl rfl (r_bin hS19 rfl rfl rfl b_lss) fun a20 hS20 => wpList_nil (hR _ (hS20.re ⟨rfl, rfl, rfl, trivial⟩))) ?_
          clear hS
          clear a
          intro a hS
          refine c_cond hS rfl (fun hb21 => ?_) (fun hb21 => ?_)
          · replace H := ite_t hb21 H
            refine wp_skip ?_
            change Code.wp _ _ _ _ _
            obtain ⟨o24, H, Hl25⟩ := bind_el H
            refine c_cut (fun a w22 => ∃ (g22 : Nat → Nat), o24 = .nxt () ∧ Sl 30 a [(1, .slice A1 p1.length cap1), (5, .int .i64 m0_0)] ∧ RdS kd_api_Link w22 g22 C1 A1 cap1 p1 ∧ Fr (fun q => N ≤ q) w g w22 g22) ?_ ?_
            · refine wp_block ?_
              refine c_pure [(1, .slice A1 p1.length cap1), (5, .int .i64 m0_0), (6, .int .i64 0)] (fun R hR => st_val hS rfl rfl rfl (r_assign hS rfl rfl) fun a26 hS26 => wpList_nil (hR _ (hS26.re ⟨rfl, rfl, rfl, trivial⟩))) ?_
              clear hS
              clear a
              intro a hS
              refine wp_block ?_
              refine wp_loop_ghost (fun kq => fun a w27 => ∃ (m1_0 : Int), ∃ (g27 : Nat → Nat), ref24_Basic.l1 p1 m0_0 kq m1_0 = some o24 ∧ Sl 30 a [(1, .slice A1 p1.length cap1), (5, .int .i64 m0_0), (6, .int .i64 m1_0)] ∧ RdS kd_api_Link w27 g27 C1 A1 cap1 p1 ∧ Fr (fun q => N ≤ q) w g w27 g27) FUEL ?_ ?_
              · exact ⟨0, g15, H, hS.re ⟨rfl, rfl, rfl, trivial⟩, hp1, hF⟩
              · clear H
                clear hp1 hF
                clear hS
                rintro k28 a w27 ⟨m1_0, g27, hpre0, hS, hp1, hF⟩
                have H := hpre0
                clear hpre0
                cases k28 with
                | zero => exact absurd H (by simp [ref24_Basic.l1])
                | succ k28 =>
                  rw [ref24_Basic.l1] at H
                  refine wp_seq ?_
                  refine c_pure [(1, .slice A1 p1.length cap1), (5, .int .i64 m0_0), (6, .int .i64 m1_0), (18, .bool (decide (m1_0 < m0_0)))] (fun R hR => st_val hS rfl rfl rfl (r_move hS rfl rfl) fun a29 hS29 => st_val hS29 rfl rfl rfl (r_move hS29 rfl rfl) fun a30 hS30 => st_val hS30 rfl rfl rfl (r_bin hS30 rfl rfl rfl b_lss) fun a31 hS31 => wpList_nil (hR _ (hS31.re ⟨rfl, rfl, rfl, rfl, trivial⟩))) ?_
                  clear hS
                  clear a
                  intro a hS
                  refine c_cond hS rfl (fun hb32 => ?_) (fun hb32 => ?_)
                  · replace H := ite_t hb32 H
                    refine wp_skip ?_
                    change Code.wp _ _ _ _ _
                    refine wp_seq ?_
                    refine wp_block ?_
                    obtain ⟨x36, hx37, H⟩ := bind_el H
                    obtain ⟨x42, hx43, H⟩ := bind_el H
                    refine c_draw (fun K hK => d_start (fun q => False) g27 [] 9 #[false, false, false, false, false, false, false, false, false] (by kernel_rfl) rfl rfl (fun w33 hw33 => ?_))
                    have F33 : Fr (fun _ => False) w27 g27 w33 g27 := by rw [hw33]; exact Fr.drew _ _ _
                    replace hp1 := RdS.fr hp1 F33 (by decide) (fun _ _ h => h)
                    replace hF := hF.trans F33 (fun _ h => h.elim)
                    have hC : Fr (fun q => False) w33 g27 w33 g27 := Fr.refl _ _ _
                    refine d_pure hS 0 #[true, false, false, false, false, false, false, false, false] rfl rfl rfl rfl (by kernel_rfl) (fun _ _ _ h => h) (fun _ => (r_move hS rfl rfl)) fun a34 hS34 => d_pure hS34 1 #[true, true, false, false, false, false, false, false, false] rfl rfl rfl rfl (by kernel_rfl) (fun _ _ _ h => h) (fun _ => (r_move hS34 rfl rfl)) fun a35 hS35 => d_pure hS35 2 #[true, true, true, false, false, false, false, false, false] rfl rfl rfl rfl (by kernel_rfl) (fun _ _ _ h => h) (fun _ => (r_index (e := 34) (sz := 2) (by_ := 16) hS35 rfl rfl rfl (by kernel_rfl) (RdS.some_ hp1 hx37) (idx_lo hx37) (idx_hi hx37))) fun a38 hS38 => d_take hS38 3 #[true, true, true, true, false, false, false, false, false] rfl rfl rfl rfl (by kernel_rfl) (fun _ _ _ h => h) ⟨_, hC⟩ (fun w' g' Fz => (r_loadN (n := 2) (cs := [.int .i64 x36.Consumer, .int .i64 x36.Supplier]) hS38 rfl rfl (by kernel_rfl) rfl (RdS.cells_off (RdS.fr hp1 Fz (by decide) (fun _ _ h => h)) hx37 0 2))) fun a39 hS39 => d_pure hS39 4 #[true, true, true, true, true, false, false, false, false] rfl rfl rfl rfl (by kernel_rfl) (fun _ _ _ h => h) (fun _ => (r_move hS39 rfl rfl)) fun a40 hS40 => d_pure hS40 5 #[true, true, true, true, true, true, false, false, false] rfl rfl rfl rfl (by kernel_rfl) (fun _ _ _ h => h) (fun _ => (r_move hS40 rfl rfl)) fun a41 hS41 => d_pure hS41 6 #[true, true, true, true, true, true, true, false, false] rfl rfl rfl rfl (by kernel_rfl) (fun _ _ _ h => h) (fun _ => (r_index (e := 34) (sz := 2) (by_ := 16) hS41 rfl rfl rfl (by kernel_rfl) (RdS.some_ hp1 hx43) (idx_lo hx43) (idx_hi hx43))) fun a44 hS44 => d_take hS44 7 #[true, true, true, true, true, true, true, true, false] rfl rfl rfl rfl (by kernel_rfl) (fun _ _ _ h => h) ⟨_, hC⟩ (fun w' g' Fz => (r_loadN (n := 2) (cs := [.int .i64 x42.Consumer, .int .i64 x42.Supplier]) hS44 rfl rfl (by kernel_rfl) rfl (RdS.cells_off (RdS.fr hp1 Fz (by decide) (fun _ _ h => h)) hx43 0 2))) fun a45 hS45 => d_pure hS45 8 #[true, true, true, true, true, true, true, true, true] rfl rfl rfl rfl (by kernel_rfl) (fun _ _ _ h => h) (fun _ => (r_stEq hS45 rfl rfl rfl (by kernel_rfl) (eqF_api_Link x36 x42 _))) fun a46 hS46 => d_done (by kernel_rfl) (hK _ _ ?_)
                    replace hS : Sl 30 _ [(1, .slice A1 p1.length cap1), (5, .int .i64 m0_0), (6, .int .i64 m1_0), (29, .bool (decide (x36 = x42)))] := hS46.re ⟨rfl, rfl, rfl, rfl, trivial⟩
                    clear hK K hC
                    try clear hS34 hS35 hS38 hS39 hS40 hS41 hS44 hS45 hS46
                    obtain ⟨a, ha⟩ : ∃ a', a' = a46 := ⟨_, rfl⟩
                    rw [← ha] at hS ⊢; clear ha
                    refine c_cond hS rfl (fun hb47 => ?_) (fun hb47 => ?_)
                    · replace H := ite_t hb47 H
                      refine c_pure [(4, .int .i64 7)] (fun R hR => st_val hS rfl rfl rfl (r_assign hS rfl rfl) fun a48 hS48 => wpList_nil (hR _ (hS48.re ⟨rfl, trivial⟩))) ?_
                      clear hS
                      clear a
                      intro a hS
                      refine wp_ret ?_
                      have e := Option.some.inj H
                      subst e
                      replace H := Fl.go_out Hl25
                      have e := Option.some.inj H
                      subst e
                      replace H := Fl.go_out Hl13
                      have e := Option.some.inj H
                      subst e
                      repeat (with_reducible first | refine then_ret ?_ | refine inBlock_ret ?_)
                      exact c_ret1 hS Try.results42 rfl ⟨_, rfl, g27, rfl, hF⟩
                    · replace H := ite_f hb47 H
                      refine wp_skip ?_
                      change Code.wp _ _ _ _ _
                      refine c_pure1 [(1, .slice A1 p1.length cap1), (5, .int .i64 m0_0), (6, .int .i64 (wi (m1_0 + 1)))] (fun R hR => st_val hS rfl rfl rfl (r_move hS rfl rfl) fun a49 hS49 => st_val hS49 rfl rfl rfl (r_bin hS49 rfl rfl rfl b_add) fun a50 hS50 => st_val hS50 rfl rfl rfl (r_assign hS50 rfl rfl) fun a51 hS51 => wpList_nil (hR _ (hS51.re ⟨rfl, rfl, rfl, trivial⟩))) ?_
                      clear hS
                      clear a
                      intro a hS
                      refine ⟨k28, Nat.lt_succ_self _, ?_⟩
                      exact ⟨wi (m1_0 + 1), g27, H, hS.re ⟨rfl, rfl, rfl, trivial⟩, hp1, hF⟩
                  · replace H := ite_f hb32 H
                    refine wp_exit ?_
                    have e := Option.some.inj H
                    exact ⟨g27, e.symm, hS.re ⟨rfl, rfl, trivial⟩, hp1, hF⟩
            · clear H
              clear hp1 hF
              clear hS
              rintro a w22 ⟨g22, hpre0, hS, hp1, hF⟩
              subst hpre0
              have H := Fl.go_nxt Hl25
              clear Hl25
              refine c_pure1 [(1, .slice A1 p1.length cap1), (5, .int .i64 (wi (m0_0 + 1)))] (fun R hR => st_val hS rfl rfl rfl (r_move hS rfl rfl) fun a52 hS52 => st_val hS52 rfl rfl rfl (r_bin hS52 rfl rfl rfl b_add) fun a53 hS53 => st_val hS53 rfl rfl rfl (r_assign hS53 rfl rfl) fun a54 hS54 => wpList_nil (hR _ (hS54.re ⟨rfl, rfl, trivial⟩))) ?_
              clear hS
              clear a
              intro a hS
              refine ⟨k16, Nat.lt_succ_self _, ?_⟩
              exact ⟨wi (m0_0 + 1), g22, H, hS.re ⟨rfl, rfl, trivial⟩, hp1, hF⟩
          · replace H := ite_f hb21 H
            refine wp_exit ?_
            have e := Option.some.inj H
            exact ⟨g15, e.symm, hS.re trivial, hF⟩
    · clear H
      clear hp1 hF
      clear hS
      rintro a w10 ⟨g10, hpre0, hS, hF⟩
      subst hpre0
      have H := Fl.go_nxt Hl13
      clear Hl13
      refine c_pure [(4, .int .i64 0)] (fun R hR => st_val hS rfl rfl rfl (r_assign hS rfl rfl) fun a55 hS55 => wpList_nil (hR _ (hS55.re ⟨rfl, trivial⟩))) ?_
      clear hS
      clear a
      intro a hS
      refine wp_ret ?_
      have e := Option.some.inj H
      subst e
      repeat (with_reducible first | refine then_ret ?_ | refine inBlock_ret ?_)
      exact c_ret1 hS Try.results42 rfl ⟨_, rfl, g10, rfl, hF⟩


end Go.Proofs.Ytphgandhncmaoaa.Sim
