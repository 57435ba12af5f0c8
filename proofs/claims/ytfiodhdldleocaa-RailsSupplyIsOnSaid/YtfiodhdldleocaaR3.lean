/-
  Printed by a program of this session (wip/tools): plain functions with the same answers as the Go functions, and the proofs of it.
-/
import Derived.Test.YtfiodhdldleocaaProg
import Derived.Test.YtfiodhdldleocaaR2
namespace Go.Proofs.Ytfiodhdldleocaa.Sim
open Go
set_option linter.unusedVariables false
set_option linter.unusedSimpArgs false

/-! ### help_Mod: function 16 -/
def help_Mod.f (p0 : Int) (p1 : Int) : Option (Int) := if (wu (p1)) = 0 then none else some (wi ((Int.tmod (wu (p0)) (wu (p1)))))
set_option maxRecDepth 100000 in
set_option maxHeartbeats 4000000 in
theorem help_Mod.calls {p0 : Int} {p1 : Int} {w : World} {g : Nat → Nat} {out : Int} (N : Nat)  (H : help_Mod.f p0 p1 = some out) :
    Calls Try.prog 16 #[.int .i64 p0, .int .i64 p1] w (fun e w' => ∃ v, e = .returned v ∧ ∃ (g' : Nat → Nat), v = .int .i64 out ∧ Fr (fun q => N ≤ q) w g w' g') := by
  unfold help_Mod.f at H
  refine calls_enter Try.func16 rfl Try.ntmps16 rfl (fun a hS => ?_)
  replace hS : Sl 11 a [(0, .int .i64 p0), (1, .int .i64 p1)] := hS
  have hF : Fr (fun q => N ≤ q) w g w g := Fr.refl _ _ _
  refine c_pure [(0, .int .i64 p0), (1, .int .i64 p1)] (fun R hR => st_val hS rfl rfl rfl (r_assign hS rfl rfl) fun a1 hS1 => wpList_nil (hR _ (hS1.re ⟨rfl, rfl, trivial⟩))) ?_
  clear hS
  clear a
  intro a hS
  obtain ⟨hq6, H⟩ := nz_el H
  refine c_pure [(4, .int .i64 (wi ((Int.tmod (wu (p0)) (wu (p1))))))] (fun R hR => st_val hS rfl rfl rfl (r_move hS rfl rfl) fun a2 hS2 => st_val hS2 rfl rfl rfl (r_convert (k' := .u64) hS2 rfl rfl (by kernel_rfl)) fun a3 hS3 => st_val hS3 rfl rfl rfl (r_move hS3 rfl rfl) fun a4 hS4 => st_val hS4 rfl rfl rfl (r_convert (k' := .u64) hS4 rfl rfl (by kernel_rfl)) fun a5 hS5 => st_val hS5 rfl rfl rfl (r_bin hS5 rfl rfl rfl (b_rem hq6)) fun a7 hS7 => st_val hS7 rfl rfl rfl (r_convert (k' := .i64) hS7 rfl rfl (by kernel_rfl)) fun a8 hS8 => st_val hS8 rfl rfl rfl (r_assign hS8 rfl rfl) fun a9 hS9 => wpList_nil (hR _ (hS9.re ⟨rfl, trivial⟩))) ?_
  clear hS
  clear a
  intro a hS
  refine wp_ret ?_
  have e := Option.some.inj H
  subst e
  repeat (with_reducible first | refine then_ret ?_ | refine inBlock_ret ?_)
  exact c_ret1 hS Try.results16 rfl ⟨_, rfl, g, rfl, hF⟩

/-! ### law25_Some: function 15 -/
def law25_Some.l0 (p0 : List api_Rail) : Nat → (List api_Rail) → Int → Option ((List api_Rail))
  | 0, _, _ => none
  | k15 + 1, m0_0, m0_1 => if ((decide (m0_1 < (p0.length : Int))) && (decide (m0_1 < 8))) = true then ((idx p0 m0_1).bind fun x32 => (help_Mod.f x32.Supply (wi (m0_1 + 1))).bind fun r34 => (app m0_0 [(api_Rail.mk (wi (r34 - 1)) (Int.tmod x32.RampUp 20) (Int.tmod x32.RampDown 20))]).bind fun y39 => law25_Some.l0 p0 k15 y39 (wi (m0_1 + 1))) else (some m0_0)
def law25_Some.l1 (v7 : (List api_Rail)) : Nat → (List api_Rail) → Int → Option ((List api_Rail))
  | 0, _, _ => none
  | k112 + 1, m1_0, m1_1 => if decide (m1_1 < (v7.length : Int)) = true then ((idx v7 m1_1).bind fun x119 => (if decide (0 ≤ x119.Supply) = true then (some (api_Rail.mk (wi ((wi ((v7.length : Int) - 1)) - x119.Supply)) x119.RampUp x119.RampDown)) else (some x119) : Option (api_Rail)).bind fun v131 => (idx m1_0 (wi ((wi ((v7.length : Int) - 1)) - m1_1))).bind fun x152 => law25_Some.l1 v7 k112 (upd m1_0 (wi ((wi ((v7.length : Int) - 1)) - m1_1)) v131) (wi (m1_1 + 1))) else (some m1_0)
def law25_Some.f (p0 : List api_Rail) : Option ((List api_Rail)) := (law25_Some.l0 p0 FUEL [] 0 : Option ((List api_Rail))).bind fun v7 => (if ((Int.tmod (v7.length : Int) 2) == 1) = true then ((mk (v7.length : Int) (api_Rail.mk 0 0 0)).bind fun y97 => (law25_Some.l1 v7 FUEL y97 0 : Option ((List api_Rail))).bind fun v107 => some (.out v107)) else (some (.nxt ())) : Option (Fl ((List api_Rail)) (Unit))).bind fun o86 => o86.go fun _ => some v7
set_option maxRecDepth 100000 in
set_option maxHeartbeats 4000000 in
theorem law25_Some.calls {p0 : List api_Rail} {A0 : Option Addr} {cap0 : Nat} {C0 : Nat → Prop} {w : World} {g : Nat → Nat} {out : (List api_Rail)} (N : Nat) (r0 : Nat) (hp0 : RdS kd_api_Rail w g C0 A0 cap0 p0) (hC0 : ∀ c, C0 c → c < N) (hr0 : r0 + 2 ≤ N) (H : law25_Some.f p0 = some out) :
    Calls Try.prog 15 #[.slice A0 p0.length cap0] w (fun e w' => ∃ v, e = .returned v ∧ ∃ (g' : Nat → Nat) (A_r0 : Option Addr) (cap_r0 : Nat), v = .slice A_r0 out.length cap_r0 ∧ OwS kd_api_Rail 35 w' g' r0 A_r0 cap_r0 out ∧ Fr (fun q => (r0 ≤ q ∧ q < r0 + 2) ∨ N ≤ q) w g w' g') := by
  unfold law25_Some.f at H
  refine calls_enter Try.func15 rfl Try.ntmps15 rfl (fun a hS => ?_)
  replace hS : Sl 79 a [(0, .slice A0 p0.length cap0)] := hS
  have hF : Fr (fun q => (r0 ≤ q ∧ q < r0 + 2) ∨ N ≤ q) w g w g := Fr.refl _ _ _
  refine c_pure [(0, .slice A0 p0.length cap0)] (fun R hR => st_val hS rfl rfl rfl (r_assign hS rfl rfl) fun a1 hS1 => wpList_nil (hR _ (hS1.re ⟨rfl, trivial⟩))) ?_
  clear hS
  clear a
  intro a hS
  refine c_pure [(0, .slice A0 p0.length cap0), (3, .slice none 0 0)] (fun R hR => st_val hS rfl rfl rfl (r_assign hS rfl rfl) fun a2 hS2 => wpList_nil (hR _ (hS2.re ⟨rfl, rfl, trivial⟩))) ?_
  clear hS
  clear a
  intro a hS
  obtain ⟨v7, H, Hl9⟩ := bind_el H
  refine c_cut (fun a w3 => ∃ (g3 : Nat → Nat), ∃ (A4 : Option Addr), ∃ (cap5 : Nat), Sl 79 a [(3, .slice A4 v7.length cap5)] ∧ OwS kd_api_Rail 35 w3 g3 (N + 2) A4 cap5 v7 ∧ Fr (fun q => (r0 ≤ q ∧ q < r0 + 2) ∨ N ≤ q) w g w3 g3) ?_ ?_
  · refine c_pure [(0, .slice A0 p0.length cap0), (3, .slice none 0 0), (4, .int .i64 0)] (fun R hR => st_val hS rfl rfl rfl (r_assign hS rfl rfl) fun a10 hS10 => wpList_nil (hR _ (hS10.re ⟨rfl, rfl, rfl, trivial⟩))) ?_
    clear hS
    clear a
    intro a hS
    refine wp_block ?_
    refine wp_loop_ghost (fun kq => fun a w11 => ∃ (m0_0 : List api_Rail), ∃ (m0_1 : Int), ∃ (g11 : Nat → Nat), ∃ (A12 : Option Addr), ∃ (cap13 : Nat), law25_Some.l0 p0 kq m0_0 m0_1 = some v7 ∧ Sl 79 a [(0, .slice A0 p0.length cap0), (3, .slice A12 m0_0.length cap13), (4, .int .i64 m0_1)] ∧ OwS kd_api_Rail 35 w11 g11 (N + 2) A12 cap13 m0_0 ∧ RdS kd_api_Rail w11 g11 C0 A0 cap0 p0 ∧ Fr (fun q => (r0 ≤ q ∧ q < r0 + 2) ∨ N ≤ q) w g w11 g11) FUEL ?_ ?_
    · exact ⟨[], 0, g, none, 0, H, hS.re ⟨rfl, rfl, rfl, trivial⟩, OwS.nil kd_api_Rail 35 w g (N + 2), hp0, hF⟩
    · clear H
      clear hp0 hF
      clear hS
      rintro k15 a w11 ⟨m0_0, m0_1, g11, A12, cap13, hpre0, hS, h14, hp0, hF⟩
      have H := hpre0
      clear hpre0
      cases k15 with
      | zero => exact absurd H (by simp [law25_Some.l0])
      | succ k15 =>
        rw [law25_Some.l0] at H
        refine wp_seq ?_
        refine c_region (fun K hK => ?_)
        refine st_val hS rfl rfl rfl (r_move hS rfl rfl) fun a16 hS16 => st_val hS16 rfl rfl rfl (r_move hS16 rfl rfl) fun a17 hS17 => st_val hS17 rfl rfl rfl (r_len (e := 35) (sz := 3) (by_ := 24) hS17 rfl rfl (by kernel_rfl)) fun a18 hS18 => st_val hS18 rfl rfl rfl (r_bin hS18 rfl rfl rfl b_lss) fun a19 hS19 => st_val hS19 rfl rfl rfl (r_move hS19 rfl rfl) fun a20 hS20 => ?_
        refine g_join (N := 79) 3 [(0, .slice A0 p0.length cap0), (3, .slice A12 m0_0.length cap13), (4, .int .i64 m0_1), (16, .bool ((decide (m0_1 < (p0.length : Int))) && (decide (m0_1 < 8))))] ?_ (fun hk => ?_)
        rotate_left
        · rcases Bool.eq_false_or_eq_true (decide (m0_1 < (p0.length : Int))) with hb21 | hb21
          · refine st_valW hS20 (want_on hS20 rfl rfl rfl hb21) rfl rfl (r_move hS20 rfl rfl) fun a24 hS24 => st_valW hS24 (want_on hS24 rfl rfl rfl hb21) rfl rfl (r_bin hS24 rfl rfl rfl b_lss) fun a25 hS25 => st_val hS25 rfl rfl rfl (r_pickT hS25 rfl rfl rfl hb21) fun a26 hS26 => hk _ (hS26.re ⟨rfl, rfl, rfl, (by rw [hb21]; rfl), trivial⟩)
          · refine st_off hS20 (want_off hS20 rfl rfl rfl hb21) rfl rfl fun a27 hS27 => st_off hS27 (want_off hS27 rfl rfl rfl hb21) rfl rfl fun a28 hS28 => st_val hS28 rfl rfl rfl (r_pickF hS28 rfl rfl rfl hb21) fun a29 hS29 => hk _ (hS29.re ⟨rfl, rfl, rfl, (by rw [hb21]; rfl), trivial⟩)
        intro a30 hS30
        refine wpList_nil (hK _ _ ?_)
        replace hS : Sl 79 _ [(0, .slice A0 p0.length cap0), (3, .slice A12 m0_0.length cap13), (4, .int .i64 m0_1), (16, .bool ((decide (m0_1 < (p0.length : Int))) && (decide (m0_1 < 8))))] := hS30.re ⟨rfl, rfl, rfl, rfl, trivial⟩
        clear hK K
        try clear hS16 hS17 hS18 hS19 hS20 hS30
        obtain ⟨a, ha⟩ : ∃ a', a' = a30 := ⟨_, rfl⟩
        rw [← ha] at hS ⊢; clear ha
        refine c_cond hS rfl (fun hb31 => ?_) (fun hb31 => ?_)
        · replace H := ite_t hb31 H
          refine wp_skip ?_
          change Code.wp _ _ _ _ _
          refine wp_seq ?_
          refine wp_block ?_
          obtain ⟨x32, hx33, H⟩ := bind_el H
          obtain ⟨r34, hr35, H⟩ := bind_el H
          obtain ⟨y39, hy40, H⟩ := bind_el H
          refine c_draw1 (fun K hK => d_start (fun q => q = N + 2 ∨ N + 8 ≤ q) g11 [] 26 #[false, false, false, false, false, false, false, false, false, false, false, false, false, false, false, false, false, false, false, false, false, false, false, false, false, false] (by kernel_rfl) rfl rfl (fun w45 hw45 => ?_))
          have F45 : Fr (fun _ => False) w11 g11 w45 g11 := by rw [hw45]; exact Fr.drew _ _ _
          replace h14 := OwS.fr h14 F45 (fun _ _ h => h)
          replace hp0 := RdS.fr hp0 F45 (by decide) (fun _ _ h => h)
          replace hF := hF.trans F45 (fun _ h => h.elim)
          have hC : Fr (fun q => q = N + 2 ∨ N + 8 ≤ q) w45 g11 w45 g11 := Fr.refl _ _ _
          refine d_pure hS 0 #[true, false, false, false, false, false, false, false, false, false, false, false, false, false, false, false, false, false, false, false, false, false, false, false, false, false] rfl rfl rfl rfl (by kernel_rfl) (fun _ _ _ h => h) (fun _ => (r_move hS rfl rfl)) fun a46 hS46 => d_pure hS46 1 #[true, true, false, false, false, false, false, false, false, false, false, false, false, false, false, false, false, false, false, false, false, false, false, false, false, false] rfl rfl rfl rfl (by kernel_rfl) (fun _ _ _ h => h) (fun _ => (r_move hS46 rfl rfl)) fun a47 hS47 => d_pure hS47 2 #[true, true, true, false, false, false, false, false, false, false, false, false, false, false, false, false, false, false, false, false, false, false, false, false, false, false] rfl rfl rfl rfl (by kernel_rfl) (fun _ _ _ h => h) (fun _ => (r_move hS47 rfl rfl)) fun a48 hS48 => d_pure hS48 3 #[true, true, true, true, false, false, false, false, false, false, false, false, false, false, false, false, false, false, false, false, false, false, false, false, false, false] rfl rfl rfl rfl (by kernel_rfl) (fun _ _ _ h => h) (fun _ => (r_index (e := 35) (sz := 3) (by_ := 24) hS48 rfl rfl rfl (by kernel_rfl) (RdS.some_ hp0 hx33) (idx_lo hx33) (idx_hi hx33))) fun a49 hS49 => d_pure hS49 4 #[true, true, true, true, true, false, false, false, false, false, false, false, false, false, false, false, false, false, false, false, false, false, false, false, false, false] rfl rfl rfl rfl (by kernel_rfl) (fun _ _ _ h => h) (fun _ => (r_fieldE (off := 0) hS49 rfl rfl (by kernel_rfl))) fun a50 hS50 => d_take hS50 5 #[true, true, true, true, true, true, false, false, false, false, false, false, false, false, false, false, false, false, false, false, false, false, false, false, false, false] rfl rfl rfl rfl (by kernel_rfl) (fun _ _ _ h => h) ⟨_, hC⟩ (fun w' g' Fz => (r_load1 (n := 1) hS50 rfl rfl (by kernel_rfl) (RdS.cell (i := m0_1) (sz := 3) (j := 0) (RdS.fr hp0 Fz (by decide) (fun q (hq : C0 q) (hm : q = N + 2 ∨ N + 8 ≤ q) => by have := hC0 q hq; omega)) hx33 rfl))) fun a51 hS51 => d_pure hS51 6 #[true, true, true, true, true, true, true, false, false, false, false, false, false, false, false, false, false, false, false, false, false, false, false, false, false, false] rfl rfl rfl rfl (by kernel_rfl) (fun _ _ _ h => h) (fun _ => (r_move hS51 rfl rfl)) fun a52 hS52 => d_pure hS52 7 #[true, true, true, true, true, true, true, true, false, false, false, false, false, false, false, false, false, false, false, false, false, false, false, false, false, false] rfl rfl rfl rfl (by kernel_rfl) (fun _ _ _ h => h) (fun _ => (r_bin hS52 rfl rfl rfl b_add)) fun a53 hS53 => d_pure hS53 10 #[true, true, true, true, true, true, true, true, false, false, true, false, false, false, false, false, false, false, false, false, false, false, false, false, false, false] rfl rfl rfl rfl (by kernel_rfl) (fun _ _ _ h => h) (fun _ => (r_move hS53 rfl rfl)) fun a54 hS54 => d_pure hS54 11 #[true, true, true, true, true, true, true, true, false, false, true, true, false, false, false, false, false, false, false, false, false, false, false, false, false, false] rfl rfl rfl rfl (by kernel_rfl) (fun _ _ _ h => h) (fun _ => (r_move hS54 rfl rfl)) fun a55 hS55 => d_pure hS55 12 #[true, true, true, true, true, true, true, true, false, false, true, true, true, false, false, false, false, false, false, false, false, false, false, false, false, false] rfl rfl rfl rfl (by kernel_rfl) (fun _ _ _ h => h) (fun _ => (r_index (e := 35) (sz := 3) (by_ := 24) hS55 rfl rfl rfl (by kernel_rfl) (RdS.some_ hp0 hx33) (idx_lo hx33) (idx_hi hx33))) fun a56 hS56 => d_pure hS56 13 #[true, true, true, true, true, true, true, true, false, false, true, true, true, true, false, false, false, false, false, false, false, false, false, false, false, false] rfl rfl rfl rfl (by kernel_rfl) (fun _ _ _ h => h) (fun _ => (r_fieldE (off := 1) hS56 rfl rfl (by kernel_rfl))) fun a57 hS57 => d_take hS57 14 #[true, true, true, true, true, true, true, true, false, false, true, true, true, true, true, false, false, false, false, false, false, false, false, false, false, false] rfl rfl rfl rfl (by kernel_rfl) (fun _ _ _ h => h) ⟨_, hC⟩ (fun w' g' Fz => (r_load1 (n := 1) hS57 rfl rfl (by kernel_rfl) (RdS.cell (i := m0_1) (sz := 3) (j := 1) (RdS.fr hp0 Fz (by decide) (fun q (hq : C0 q) (hm : q = N + 2 ∨ N + 8 ≤ q) => by have := hC0 q hq; omega)) hx33 rfl))) fun a58 hS58 => d_pure hS58 15 #[true, true, true, true, true, true, true, true, false, false, true, true, true, true, true, true, false, false, false, false, false, false, false, false, false, false] rfl rfl rfl rfl (by kernel_rfl) (fun _ _ _ h => h) (fun _ => (r_bin hS58 rfl rfl rfl (b_rem (by decide)))) fun a59 hS59 => d_pure hS59 16 #[true, true, true, true, true, true, true, true, false, false, true, true, true, true, true, true, true, false, false, false, false, false, false, false, false, false] rfl rfl rfl rfl (by kernel_rfl) (fun _ _ _ h => h) (fun _ => (r_move hS59 rfl rfl)) fun a60 hS60 => d_pure hS60 17 #[true, true, true, true, true, true, true, true, false, false, true, true, true, true, true, true, true, true, false, false, false, false, false, false, false, false] rfl rfl rfl rfl (by kernel_rfl) (fun _ _ _ h => h) (fun _ => (r_move hS60 rfl rfl)) fun a61 hS61 => d_pure hS61 18 #[true, true, true, true, true, true, true, true, false, false, true, true, true, true, true, true, true, true, true, false, false, false, false, false, false, false] rfl rfl rfl rfl (by kernel_rfl) (fun _ _ _ h => h) (fun _ => (r_index (e := 35) (sz := 3) (by_ := 24) hS61 rfl rfl rfl (by kernel_rfl) (RdS.some_ hp0 hx33) (idx_lo hx33) (idx_hi hx33))) fun a62 hS62 => d_pure hS62 19 #[true, true, true, true, true, true, true, true, false, false, true, true, true, true, true, true, true, true, true, true, false, false, false, false, false, false] rfl rfl rfl rfl (by kernel_rfl) (fun _ _ _ h => h) (fun _ => (r_fieldE (off := 2) hS62 rfl rfl (by kernel_rfl))) fun a63 hS63 => d_take hS63 20 #[true, true, true, true, true, true, true, true, false, false, true, true, true, true, true, true, true, true, true, true, true, false, false, false, false, false] rfl rfl rfl rfl (by kernel_rfl) (fun _ _ _ h => h) ⟨_, hC⟩ (fun w' g' Fz => (r_load1 (n := 1) hS63 rfl rfl (by kernel_rfl) (RdS.cell (i := m0_1) (sz := 3) (j := 2) (RdS.fr hp0 Fz (by decide) (fun q (hq : C0 q) (hm : q = N + 2 ∨ N + 8 ≤ q) => by have := hC0 q hq; omega)) hx33 rfl))) fun a64 hS64 => d_pure hS64 21 #[true, true, true, true, true, true, true, true, false, false, true, true, true, true, true, true, true, true, true, true, true, true, false, false, false, false] rfl rfl rfl rfl (by kernel_rfl) (fun _ _ _ h => h) (fun _ => (r_bin hS64 rfl rfl rfl (b_rem (by decide)))) fun a65 hS65 => ?_
          refine d_one 8 #[true, true, true, true, true, true, true, true, true, false, true, true, true, true, true, true, true, true, true, true, true, true, false, false, false, false] rfl (by kernel_rfl) (arm_call hS65 rfl rfl rfl (r_call hS65 rfl rfl (by kernel_rfl)) (help_Mod.calls (p0 := x32.Supply) (p1 := (wi (m0_1 + 1))) (g := g11) (N + 8)   hr35) (fun _ _ ⟨g', _, Fz⟩ _ => ⟨g', hC.trans Fz (fun c' (hm : N + 8 ≤ c') => by show c' = N + 2 ∨ N + 8 ≤ c'; omega)⟩) ?_)
          rintro _ a66 w67 ⟨g67, rfl, F67⟩ hS66
          have hC67 := hC.trans F67 (fun c' (hm : N + 8 ≤ c') => by show c' = N + 2 ∨ N + 8 ≤ c'; omega)
          replace h14 := OwS.fr h14 F67 (fun c' hc (hm : N + 8 ≤ c') => by omega)
          replace hp0 := RdS.fr hp0 F67 (by decide) (fun q (hq : C0 q) (hm : N + 8 ≤ q) => by have := hC0 q hq; omega)
          replace hF := hF.trans F67 (fun c' (hm : N + 8 ≤ c') => by show (r0 ≤ c' ∧ c' < r0 + 2) ∨ N ≤ c'; omega)
          refine d_pure hS66 9 #[true, true, true, true, true, true, true, true, true, true, true, true, true, true, true, true, true, true, true, true, true, true, false, false, false, false] rfl rfl rfl rfl (by kernel_rfl) (fun _ _ _ h => h) (fun _ => (r_bin hS66 rfl rfl rfl b_sub)) fun a68 hS68 => d_pure hS68 22 #[true, true, true, true, true, true, true, true, true, true, true, true, true, true, true, true, true, true, true, true, true, true, true, false, false, false] rfl rfl rfl rfl (by kernel_rfl) (fun _ _ _ h => h) (fun _ => (r_build (parts := [(0, .int .i64 (wi (r34 - 1))), (1, .int .u64 (Int.tmod x32.RampUp 20)), (2, .int .u64 (Int.tmod x32.RampDown 20))]) (u := .agg #[.int .i64 (wi (r34 - 1)), .int .u64 (Int.tmod x32.RampUp 20), .int .u64 (Int.tmod x32.RampDown 20)]) hS68 rfl rfl (fun _ => by kernel_rfl))) fun a69 hS69 => ?_
          refine d_one 23 #[true, true, true, true, true, true, true, true, true, true, true, true, true, true, true, true, true, true, true, true, true, true, true, true, false, false] rfl (by kernel_rfl) (arm_eff hS69 rfl rfl rfl (e_lit (e := 35) (parts := [(0, .agg #[.int .i64 (wi (r34 - 1)), .int .u64 (Int.tmod x32.RampUp 20), .int .u64 (Int.tmod x32.RampDown 20)])]) (cs := [.int .i64 (wi (r34 - 1)), .int .u64 (Int.tmod x32.RampUp 20), .int .u64 (Int.tmod x32.RampDown 20)]) kd_api_Rail [(api_Rail.mk (wi (r34 - 1)) (Int.tmod x32.RampUp 20) (Int.tmod x32.RampDown 20))] (N + 0) g67 hS69 rfl rfl (fun _ => by kernel_rfl) rfl (by decide) (Rows.cons (cs := [.int .i64 (wi (r34 - 1)), .int .u64 (Int.tmod x32.RampUp 20), .int .u64 (Int.tmod x32.RampDown 20)]) rfl Rows.nil)) (fun _ _ g' hR _ => ⟨g', hC67.trans hR.2 (fun _ h => h.elim)⟩) ?_)
          rintro _ a73 w74 g74 ⟨⟨A70, rfl, h71⟩, F74⟩ hS73
          have hC74 := hC67.trans F74 (fun _ h => h.elim)
          replace h14 := OwS.fr h14 F74 (fun _ _ h => h)
          replace hp0 := RdS.fr hp0 F74 (by decide) (fun _ _ h => h)
          replace hF := hF.trans F74 (fun _ h => h.elim)
          refine d_one 24 #[true, true, true, true, true, true, true, true, true, true, true, true, true, true, true, true, true, true, true, true, true, true, true, true, true, false] rfl (by kernel_rfl) (arm_eff hS73 rfl rfl rfl (e_append (e := 35) (sz := 3) (by_ := 24) (z := [.int .i64 0, .int .u64 0, .int .u64 0]) (kd := kd_api_Rail) g74 hS73 rfl rfl rfl rfl (by kernel_rfl) (by kernel_rfl) rfl rfl rfl rfl h14 (OwD.rdx h71) (fun _ _ _ h => h) hy40) (fun _ _ g' hR _ => ⟨g', hC74.trans hR.2 (fun c' (hm : c' = N + 2) => by show c' = N + 2 ∨ N + 8 ≤ c'; omega)⟩) ?_)
          rintro _ a79 w80 g80 ⟨⟨A75, cap76, rfl, h77⟩, F80⟩ hS79
          have hC80 := hC74.trans F80 (fun c' (hm : c' = N + 2) => by show c' = N + 2 ∨ N + 8 ≤ c'; omega)
          replace h71 := OwS.fr h71 F80 (fun c' hc (hm : c' = N + 2) => by omega)
          replace hp0 := RdS.fr hp0 F80 (by decide) (fun q (hq : C0 q) (hm : q = N + 2) => by have := hC0 q hq; omega)
          replace hF := hF.trans F80 (fun c' (hm : c' = N + 2) => by show (r0 ≤ c' ∧ c' < r0 + 2) ∨ N ≤ c'; omega)
          refine d_pure hS79 25 #[true, true, true, true, true, true, true, true, true, true, true, true, true, true, true, true, true, true, true, true, true, true, true, true, true, true] rfl rfl rfl rfl (by kernel_rfl) (fun _ _ _ h => h) (fun _ => (r_assign hS79 rfl rfl)) fun a81 hS81 => d_done (by kernel_rfl) (hK _ _ ?_)
          replace hS : Sl 79 _ [(0, .slice A0 p0.length cap0), (3, .slice A75 y39.length cap76), (4, .int .i64 m0_1)] := hS81.re ⟨rfl, rfl, rfl, trivial⟩
          clear hK K hC
          try clear hS46 hS47 hS48 hS49 hS50 hS51 hS52 hS53 hS54 hS55 hS56 hS57 hS58 hS59 hS60 hS61 hS62 hS63 hS64 hS65 hS66 hS68 hS69 hS73 hS79 hS81
          obtain ⟨a, ha⟩ : ∃ a', a' = a81 := ⟨_, rfl⟩
          rw [← ha] at hS ⊢; clear ha
          change Code.wp _ _ _ _ _
          refine c_pure1 [(0, .slice A0 p0.length cap0), (3, .slice A75 y39.length cap76), (4, .int .i64 (wi (m0_1 + 1)))] (fun R hR => st_val hS rfl rfl rfl (r_move hS rfl rfl) fun a82 hS82 => st_val hS82 rfl rfl rfl (r_bin hS82 rfl rfl rfl b_add) fun a83 hS83 => st_val hS83 rfl rfl rfl (r_assign hS83 rfl rfl) fun a84 hS84 => wpList_nil (hR _ (hS84.re ⟨rfl, rfl, rfl, trivial⟩))) ?_
          clear hS
          clear a
          intro a hS
          refine ⟨k15, Nat.lt_succ_self _, ?_⟩
          exact ⟨y39, wi (m0_1 + 1), g80, A75, cap76, H, hS.re ⟨rfl, rfl, rfl, trivial⟩, h77, hp0, hF⟩
        · replace H := ite_f hb31 H
          refine wp_exit ?_
          have e := Option.some.inj H
          subst e
          exact ⟨g11, A12, cap13, hS.re ⟨rfl, trivial⟩, h14, hF⟩
  · clear H
    clear hp0 hF
    clear hS
    rintro a w3 ⟨g3, A4, cap5, hS, h6, hF⟩
    have H := Hl9
    clear Hl9
    obtain ⟨o86, H, Hl87⟩ := bind_el H
    refine c_cut (fun a w' => o86 = .nxt () ∧ w3 = w' ∧ Sl 79 a [(3, .slice A4 v7.length cap5)]) ?_ ?_
    · refine c_pure [(3, .slice A4 v7.length cap5), (47, .bool ((Int.tmod (v7.length : Int) 2) == 1))] (fun R hR => st_val hS rfl rfl rfl (r_move hS rfl rfl) fun a88 hS88 => st_val hS88 rfl rfl rfl (r_len (e := 35) (sz := 3) (by_ := 24) hS88 rfl rfl (by kernel_rfl)) fun a89 hS89 => st_val hS89 rfl rfl rfl (r_bin hS89 rfl rfl rfl (b_rem (by decide))) fun a90 hS90 => st_val hS90 rfl rfl rfl (r_bin hS90 rfl rfl rfl b_eql) fun a91 hS91 => wpList_nil (hR _ (hS91.re ⟨rfl, rfl, trivial⟩))) ?_
      clear hS
      clear a
      intro a hS
      refine c_cond hS rfl (fun hb92 => ?_) (fun hb92 => ?_)
      · replace H := ite_t hb92 H
        refine c_pure [(3, .slice A4 v7.length cap5), (5, .int .i64 (v7.length : Int))] (fun R hR => st_val hS rfl rfl rfl (r_move hS rfl rfl) fun a93 hS93 => st_val hS93 rfl rfl rfl (r_len (e := 35) (sz := 3) (by_ := 24) hS93 rfl rfl (by kernel_rfl)) fun a94 hS94 => st_val hS94 rfl rfl rfl (r_assign hS94 rfl rfl) fun a95 hS95 => wpList_nil (hR _ (hS95.re ⟨rfl, rfl, trivial⟩))) ?_
        clear hS
        clear a
        intro a hS
        obtain ⟨y97, hy98, H⟩ := bind_el H
        refine c_region (fun K hK => ?_)
        refine st_val hS rfl rfl rfl (r_move hS rfl rfl) fun a96 hS96 => ?_
        refine st_eff hS96 rfl rfl rfl (e_make (e := 35) (sz := 3) (by_ := 24) (z := [.int .i64 0, .int .u64 0, .int .u64 0]) (kd := kd_api_Rail) (N + 4) g3 hS96 rfl rfl (by kernel_rfl) (by kernel_rfl) rfl rfl rfl (fun _ _ _ => by exact rfl) hy98) ?_
        rintro _ a103 w104 g104 ⟨⟨A99, cap100, rfl, h101⟩, F104⟩ hS103
        replace h6 := OwS.fr h6 F104 (fun _ _ h => h)
        replace hF := hF.trans F104 (fun _ h => h.elim)
        refine st_val hS103 rfl rfl rfl (r_assign hS103 rfl rfl) fun a105 hS105 => wpList_nil (hK _ _ ?_)
        replace hS : Sl 79 _ [(3, .slice A4 v7.length cap5), (5, .int .i64 (v7.length : Int)), (6, .slice A99 y97.length cap100)] := hS105.re ⟨rfl, rfl, rfl, trivial⟩
        clear hK K
        try clear hS96 hS103 hS105
        obtain ⟨a, ha⟩ : ∃ a', a' = a105 := ⟨_, rfl⟩
        rw [← ha] at hS ⊢; clear ha
        obtain ⟨v107, H, Hl109⟩ := bind_el H
        refine c_cut (fun a w106 => ∃ (g106 : Nat → Nat), Sl 79 a [(6, .slice A99 v107.length cap100)] ∧ OwS kd_api_Rail 35 w106 g106 (N + 4) A99 cap100 v107 ∧ Fr (fun q => (r0 ≤ q ∧ q < r0 + 2) ∨ N ≤ q) w g w106 g106) ?_ ?_
        · refine c_pure [(3, .slice A4 v7.length cap5), (5, .int .i64 (v7.length : Int)), (6, .slice A99 y97.length cap100), (7, .int .i64 0)] (fun R hR => st_val hS rfl rfl rfl (r_assign hS rfl rfl) fun a110 hS110 => wpList_nil (hR _ (hS110.re ⟨rfl, rfl, rfl, rfl, trivial⟩))) ?_
          clear hS
          clear a
          intro a hS
          refine wp_block ?_
          refine wp_loop_ghost (fun kq => fun a w111 => ∃ (m1_0 : List api_Rail), ∃ (m1_1 : Int), ∃ (g111 : Nat → Nat), law25_Some.l1 v7 kq m1_0 m1_1 = some v107 ∧ Sl 79 a [(3, .slice A4 v7.length cap5), (5, .int .i64 (v7.length : Int)), (6, .slice A99 m1_0.length cap100), (7, .int .i64 m1_1)] ∧ OwS kd_api_Rail 35 w111 g111 (N + 4) A99 cap100 m1_0 ∧ OwS kd_api_Rail 35 w111 g111 (N + 2) A4 cap5 v7 ∧ Fr (fun q => (r0 ≤ q ∧ q < r0 + 2) ∨ N ≤ q) w g w111 g111) FUEL ?_ ?_
          · exact ⟨y97, 0, g104, H, hS.re ⟨rfl, rfl, rfl, rfl, trivial⟩, h101, h6, hF⟩
          · clear H
            clear h6 h101 hF
            clear hS
            rintro k112 a w111 ⟨m1_0, m1_1, g111, hpre0, hS, h101, h6, hF⟩
            have H := hpre0
            clear hpre0
            cases k112 with
            | zero => exact absurd H (by simp [law25_Some.l1])
            | succ k112 =>
              rw [law25_Some.l1] at H
              refine wp_seq ?_
              refine c_pure [(3, .slice A4 v7.length cap5), (5, .int .i64 (v7.length : Int)), (6, .slice A99 m1_0.length cap100), (7, .int .i64 m1_1), (54, .bool (decide (m1_1 < (v7.length : Int))))] (fun R hR => st_val hS rfl rfl rfl (r_move hS rfl rfl) fun a113 hS113 => st_val hS113 rfl rfl rfl (r_move hS113 rfl rfl) fun a114 hS114 => st_val hS114 rfl rfl rfl (r_bin hS114 rfl rfl rfl b_lss) fun a115 hS115 => wpList_nil (hR _ (hS115.re ⟨rfl, rfl, rfl, rfl, rfl, trivial⟩))) ?_
              clear hS
              clear a
              intro a hS
              refine c_cond hS rfl (fun hb116 => ?_) (fun hb116 => ?_)
              · replace H := ite_t hb116 H
                refine wp_skip ?_
                change Code.wp _ _ _ _ _
                refine wp_seq ?_
                refine wp_block ?_
                obtain ⟨x119, hx120, H⟩ := bind_el H
                refine c_region (fun K hK => ?_)
                refine st_val hS rfl rfl rfl (r_move hS rfl rfl) fun a117 hS117 => st_val hS117 rfl rfl rfl (r_move hS117 rfl rfl) fun a118 hS118 => st_val hS118 rfl rfl rfl (r_index (e := 35) (sz := 3) (by_ := 24) hS118 rfl rfl rfl (by kernel_rfl) (RdS.some_ (OwS.rd h6) hx120) (idx_lo hx120) (idx_hi hx120)) fun a121 hS121 => st_val hS121 rfl rfl rfl (r_loadN (n := 3) (cs := [.int .i64 x119.Supply, .int .u64 x119.RampUp, .int .u64 x119.RampDown]) hS121 rfl rfl (by kernel_rfl) rfl (RdS.cells_off (OwS.rd h6) hx120 0 3)) fun a122 hS122 => ?_
                refine st_eff hS122 rfl rfl rfl (e_alloc (cs := [.int .i64 0, .int .u64 0, .int .u64 0]) (N + 6) g111 hS122 rfl (by kernel_rfl)) ?_
                rintro _ a126 w127 g127 ⟨⟨b123, rfl, h124⟩, F127⟩ hS126
                replace h101 := OwS.fr h101 F127 (fun _ _ h => h)
                replace h6 := OwS.fr h6 F127 (fun _ _ h => h)
                replace hF := hF.trans F127 (fun _ h => h.elim)
                refine st_effS hS126 rfl rfl (e_storeB (n := 3) (bb := true) (cs' := [.int .i64 x119.Supply, .int .u64 x119.RampUp, .int .u64 x119.RampDown]) g127 hS126 rfl rfl rfl (by kernel_rfl) rfl rfl rfl h124 rfl rfl) ?_
                rintro a128 w129 g129 ⟨h124, F129⟩ hS128
                replace h101 := OwS.fr h101 F129 (fun c' hc (hm : c' = N + 6) => by omega)
                replace h6 := OwS.fr h6 F129 (fun c' hc (hm : c' = N + 6) => by omega)
                replace hF := hF.trans F129 (fun c' (hm : c' = N + 6) => by show (r0 ≤ c' ∧ c' < r0 + 2) ∨ N ≤ c'; omega)
                refine wpList_nil (hK _ _ ?_)
                replace hS : Sl 79 _ [(3, .slice A4 v7.length cap5), (5, .int .i64 (v7.length : Int)), (6, .slice A99 m1_0.length cap100), (7, .int .i64 m1_1), (8, .pointer (some ⟨b123, 0, none⟩))] := hS128.re ⟨rfl, rfl, rfl, rfl, rfl, trivial⟩
                clear hK K
                try clear hS117 hS118 hS121 hS122 hS126 hS128
                obtain ⟨a, ha⟩ : ∃ a', a' = a128 := ⟨_, rfl⟩
                rw [← ha] at hS ⊢; clear ha
                obtain ⟨v131, H, Hl133⟩ := bind_el H
                refine c_cut (fun a w130 => ∃ (g130 : Nat → Nat), Sl 79 a [(3, .slice A4 v7.length cap5), (5, .int .i64 (v7.length : Int)), (6, .slice A99 m1_0.length cap100), (7, .int .i64 m1_1), (8, .pointer (some ⟨b123, 0, none⟩))] ∧ OwS kd_api_Rail 35 w130 g130 (N + 4) A99 cap100 m1_0 ∧ Bx w130 g130 (N + 6) b123 35 [.int .i64 v131.Supply, .int .u64 v131.RampUp, .int .u64 v131.RampDown] ∧ OwS kd_api_Rail 35 w130 g130 (N + 2) A4 cap5 v7 ∧ Fr (fun q => (r0 ≤ q ∧ q < r0 + 2) ∨ N ≤ q) w g w130 g130) ?_ ?_
                · refine c_pure [(3, .slice A4 v7.length cap5), (5, .int .i64 (v7.length : Int)), (6, .slice A99 m1_0.length cap100), (7, .int .i64 m1_1), (8, .pointer (some ⟨b123, 0, none⟩)), (63, .bool (decide (0 ≤ x119.Supply)))] (fun R hR => st_val hS rfl rfl rfl (r_fieldB (off := 0) hS rfl rfl (by kernel_rfl)) fun a134 hS134 => st_val hS134 rfl rfl rfl (r_load1 (n := 1) hS134 rfl rfl (by kernel_rfl) (Bx.cell h124 rfl)) fun a135 hS135 => st_val hS135 rfl rfl rfl (r_bin hS135 rfl rfl rfl b_geq) fun a136 hS136 => wpList_nil (hR _ (hS136.re ⟨rfl, rfl, rfl, rfl, rfl, rfl, trivial⟩))) ?_
                  clear hS
                  clear a
                  intro a hS
                  refine c_cond hS rfl (fun hb137 => ?_) (fun hb137 => ?_)
                  · replace H := ite_t hb137 H
                    refine c_region1 (fun K hK => ?_)
                    refine st_val hS rfl rfl rfl (r_move hS rfl rfl) fun a138 hS138 => st_val hS138 rfl rfl rfl (r_bin hS138 rfl rfl rfl b_sub) fun a139 hS139 => st_val hS139 rfl rfl rfl (r_fieldB (off := 0) hS139 rfl rfl (by kernel_rfl)) fun a140 hS140 => st_val hS140 rfl rfl rfl (r_load1 (n := 1) hS140 rfl rfl (by kernel_rfl) (Bx.cell h124 rfl)) fun a141 hS141 => st_val hS141 rfl rfl rfl (r_bin hS141 rfl rfl rfl b_sub) fun a142 hS142 => st_val hS142 rfl rfl rfl (r_fieldB (off := 0) hS142 rfl rfl (by kernel_rfl)) fun a143 hS143 => ?_
                    refine st_effS hS143 rfl rfl (e_storeB (n := 1) (bb := false) (cs' := [.int .i64 (wi ((wi ((v7.length : Int) - 1)) - x119.Supply)), .int .u64 x119.RampUp, .int .u64 x119.RampDown]) g129 hS143 rfl rfl rfl (by kernel_rfl) rfl rfl rfl h124 rfl rfl) ?_
                    rintro a144 w145 g145 ⟨h124, F145⟩ hS144
                    replace h101 := OwS.fr h101 F145 (fun c' hc (hm : c' = N + 6) => by omega)
                    replace h6 := OwS.fr h6 F145 (fun c' hc (hm : c' = N + 6) => by omega)
                    replace hF := hF.trans F145 (fun c' (hm : c' = N + 6) => by show (r0 ≤ c' ∧ c' < r0 + 2) ∨ N ≤ c'; omega)
                    refine wpList_nil (hK _ _ ?_)
                    replace hS : Sl 79 _ [(3, .slice A4 v7.length cap5), (5, .int .i64 (v7.length : Int)), (6, .slice A99 m1_0.length cap100), (7, .int .i64 m1_1), (8, .pointer (some ⟨b123, 0, none⟩))] := hS144.re ⟨rfl, rfl, rfl, rfl, rfl, trivial⟩
                    clear hK K
                    try clear hS138 hS139 hS140 hS141 hS142 hS143 hS144
                    obtain ⟨a, ha⟩ : ∃ a', a' = a144 := ⟨_, rfl⟩
                    rw [← ha] at hS ⊢; clear ha
                    have e := Option.some.inj H
                    subst e
                    exact ⟨g145, hS.re ⟨rfl, rfl, rfl, rfl, rfl, trivial⟩, h101, h124, h6, hF⟩
                  · replace H := ite_f hb137 H
                    refine wp_skip ?_
                    have e := Option.some.inj H
                    subst e
                    exact ⟨g129, hS.re ⟨rfl, rfl, rfl, rfl, rfl, trivial⟩, h101, h124, h6, hF⟩
                · clear H
                  clear h6 h101 h124 hF
                  clear hS
                  rintro a w130 ⟨g130, hS, h101, h124, h6, hF⟩
                  have H := Hl133
                  clear Hl133
                  obtain ⟨x152, hx153, H⟩ := bind_el H
                  refine c_region1 (fun K hK => ?_)
                  refine st_val hS rfl rfl rfl (r_move hS rfl rfl) fun a146 hS146 => st_val hS146 rfl rfl rfl (r_move hS146 rfl rfl) fun a147 hS147 => st_val hS147 rfl rfl rfl (r_bin hS147 rfl rfl rfl b_sub) fun a148 hS148 => st_val hS148 rfl rfl rfl (r_move hS148 rfl rfl) fun a149 hS149 => st_val hS149 rfl rfl rfl (r_bin hS149 rfl rfl rfl b_sub) fun a150 hS150 => st_val hS150 rfl rfl rfl (r_loadN (n := 3) (cs := [.int .i64 v131.Supply, .int .u64 v131.RampUp, .int .u64 v131.RampDown]) hS150 rfl rfl (by kernel_rfl) rfl (Bx.cells_off h124 0 3)) fun a151 hS151 => st_val hS151 rfl rfl rfl (r_index (e := 35) (sz := 3) (by_ := 24) hS151 rfl rfl rfl (by kernel_rfl) (RdS.some_ (OwS.rd h101) hx153) (idx_lo hx153) (idx_hi hx153)) fun a154 hS154 => ?_
                  refine st_effS hS154 rfl rfl (e_storeE (n := 3) (bb := true) (kd := kd_api_Rail) (j := 0) (x' := v131) (us := [.int .i64 v131.Supply, .int .u64 v131.RampUp, .int .u64 v131.RampDown]) g130 hS154 rfl rfl rfl rfl (by kernel_rfl) rfl rfl (by intro v hv; simp only [List.mem_cons, List.not_mem_nil, or_false] at hv; rcases hv with rfl | rfl | rfl <;> rfl) h101 hx153 rfl (fun _ _ cs hR => by rw [show cs = _ from hR]; rfl)) ?_
                  rintro a155 w156 g156 ⟨h101, F156⟩ hS155
                  replace h124 := h124.fr F156 (fun (hm : N + 6 = N + 4) => by omega)
                  replace h6 := OwS.fr h6 F156 (fun c' hc (hm : c' = N + 4) => by omega)
                  replace hF := hF.trans F156 (fun c' (hm : c' = N + 4) => by show (r0 ≤ c' ∧ c' < r0 + 2) ∨ N ≤ c'; omega)
                  have hT : Sl 79 a155 [(3, .slice A4 v7.length cap5), (5, .int .i64 (v7.length : Int)), (6, .slice A99 m1_0.length cap100), (7, .int .i64 m1_1)] := hS155.re ⟨rfl, rfl, rfl, rfl, trivial⟩
                  replace hS155 : Sl 79 a155 [(3, .slice A4 v7.length cap5), (5, .int .i64 (v7.length : Int)), (6, .slice A99 (upd m1_0 (wi ((wi ((v7.length : Int) - 1)) - m1_1)) v131).length cap100), (7, .int .i64 m1_1)] := by simpa only [upd_length] using hT
                  clear hT
                  refine wpList_nil (hK _ _ ?_)
                  replace hS : Sl 79 _ [(3, .slice A4 v7.length cap5), (5, .int .i64 (v7.length : Int)), (6, .slice A99 (upd m1_0 (wi ((wi ((v7.length : Int) - 1)) - m1_1)) v131).length cap100), (7, .int .i64 m1_1)] := hS155.re ⟨rfl, rfl, rfl, rfl, trivial⟩
                  clear hK K
                  try clear hS146 hS147 hS148 hS149 hS150 hS151 hS154 hS155
                  obtain ⟨a, ha⟩ : ∃ a', a' = a155 := ⟨_, rfl⟩
                  rw [← ha] at hS ⊢; clear ha
                  change Code.wp _ _ _ _ _
                  refine c_pure1 [(3, .slice A4 v7.length cap5), (5, .int .i64 (v7.length : Int)), (6, .slice A99 (upd m1_0 (wi ((wi ((v7.length : Int) - 1)) - m1_1)) v131).length cap100), (7, .int .i64 (wi (m1_1 + 1)))] (fun R hR => st_val hS rfl rfl rfl (r_move hS rfl rfl) fun a157 hS157 => st_val hS157 rfl rfl rfl (r_bin hS157 rfl rfl rfl b_add) fun a158 hS158 => st_val hS158 rfl rfl rfl (r_assign hS158 rfl rfl) fun a159 hS159 => wpList_nil (hR _ (hS159.re ⟨rfl, rfl, rfl, rfl, trivial⟩))) ?_
                  clear hS
                  clear a
                  intro a hS
                  refine ⟨k112, Nat.lt_succ_self _, ?_⟩
                  exact ⟨(upd m1_0 (wi ((wi ((v7.length : Int) - 1)) - m1_1)) v131), wi (m1_1 + 1), g156, H, hS.re ⟨rfl, rfl, rfl, rfl, trivial⟩, h101, h6, hF⟩
              · replace H := ite_f hb116 H
                refine wp_exit ?_
                have e := Option.some.inj H
                subst e
                exact ⟨g111, hS.re ⟨rfl, trivial⟩, h101, hF⟩
        · clear H
          clear h6 h101 hF
          clear hS
          rintro a w106 ⟨g106, hS, h101, hF⟩
          have H := Hl109
          clear Hl109
          refine c_pure [(2, .slice A99 v107.length cap100)] (fun R hR => st_val hS rfl rfl rfl (r_move hS rfl rfl) fun a160 hS160 => st_val hS160 rfl rfl rfl (r_assign hS160 rfl rfl) fun a161 hS161 => wpList_nil (hR _ (hS161.re ⟨rfl, trivial⟩))) ?_
          clear hS
          clear a
          intro a hS
          refine wp_ret ?_
          have e := Option.some.inj H
          subst e
          replace H := Fl.go_out Hl87
          have e := Option.some.inj H
          subst e
          have F162 := Fr.recol2 w106 g106 (N + 4) r0
          replace h101 := h101.recol2 r0
          replace hF := hF.trans F162 (fun c' (hm : c' = N + 4 ∨ c' = N + 4 + 1) => by show (r0 ≤ c' ∧ c' < r0 + 2) ∨ N ≤ c'; omega)
          repeat (with_reducible first | refine then_ret ?_ | refine inBlock_ret ?_)
          exact c_ret1 hS Try.results15 rfl ⟨_, rfl, (recol2 g106 (N + 4) r0), A99, cap100, rfl, h101, hF⟩
      · replace H := ite_f hb92 H
        refine wp_skip ?_
        have e := Option.some.inj H
        exact ⟨e.symm, rfl, hS.re ⟨rfl, trivial⟩⟩
    · clear H
      clear hS
      rintro a w' ⟨hpre0, hw, hS⟩
      subst hpre0
      subst hw
      have H := Fl.go_nxt Hl87
      clear Hl87
      refine c_pure [(2, .slice A4 v7.length cap5)] (fun R hR => st_val hS rfl rfl rfl (r_move hS rfl rfl) fun a163 hS163 => st_val hS163 rfl rfl rfl (r_assign hS163 rfl rfl) fun a164 hS164 => wpList_nil (hR _ (hS164.re ⟨rfl, trivial⟩))) ?_
      clear hS
      clear a
      intro a hS
      refine wp_ret ?_
      have e := Option.some.inj H
      subst e
      have F165 := Fr.recol2 w3 g3 (N + 2) r0
      replace h6 := h6.recol2 r0
      replace hF := hF.trans F165 (fun c' (hm : c' = N + 2 ∨ c' = N + 2 + 1) => by show (r0 ≤ c' ∧ c' < r0 + 2) ∨ N ≤ c'; omega)
      repeat (with_reducible first | refine then_ret ?_ | refine inBlock_ret ?_)
      exact c_ret1 hS Try.results15 rfl ⟨_, rfl, (recol2 g3 (N + 2) r0), A4, cap5, rfl, h6, hF⟩

/-! ### law25_Call_at: function 28 -/
def law25_Call_at.f (p0 : law25_Call) (p1 : Int) (p2 : Int) : Option (Int × Int) := if p0.Raw = true then (some (p0.Rail, p0.Wait)) else (if (p1 == 0) = true then (some (0, wu (p2 + (Int.tmod p0.Wait 30)))) else ((help_Mod.f p0.Rail p1).bind fun r29 => some (r29, wu (p2 + (Int.tmod p0.Wait 30)))))
set_option maxRecDepth 100000 in
set_option maxHeartbeats 4000000 in
theorem law25_Call_at.calls {p0 : law25_Call} {p1 : Int} {p2 : Int} {w : World} {g : Nat → Nat} {out : Int × Int} (N : Nat)  (H : law25_Call_at.f p0 p1 p2 = some out) :
    Calls Try.prog 28 #[.agg #[.bool p0.Release, .int .i64 p0.Rail, .int .u64 p0.Wait, .bool p0.Raw], .int .i64 p1, .int .u64 p2] w (fun e w' => ∃ v, e = .returned v ∧ ∃ (g' : Nat → Nat), v = .tuple #[.int .i64 out.1, .int .u64 out.2] ∧ Fr (fun q => N ≤ q) w g w' g') := by
  unfold law25_Call_at.f at H
  refine calls_enter Try.func28 rfl Try.ntmps28 rfl (fun a hS => ?_)
  replace hS : Sl 30 a [(0, .agg #[.bool p0.Release, .int .i64 p0.Rail, .int .u64 p0.Wait, .bool p0.Raw]), (1, .int .i64 p1), (2, .int .u64 p2)] := hS
  have hF : Fr (fun q => N ≤ q) w g w g := Fr.refl _ _ _
  refine c_region (fun K hK => ?_)
  refine st_eff hS rfl rfl rfl (e_box (cs := [.bool p0.Release, .int .i64 p0.Rail, .int .u64 p0.Wait, .bool p0.Raw]) (N + 0) g hS rfl rfl rfl) ?_
  rintro _ a4 w5 g5 ⟨⟨b1, rfl, h2⟩, F5⟩ hS4
  replace hF := hF.trans F5 (fun _ h => h.elim)
  refine st_val hS4 rfl rfl rfl (r_assign hS4 rfl rfl) fun a6 hS6 => st_val hS6 rfl rfl rfl (r_assign hS6 rfl rfl) fun a7 hS7 => wpList_nil (hK _ _ ?_)
  replace hS : Sl 30 _ [(1, .int .i64 p1), (2, .int .u64 p2), (3, .pointer (some ⟨b1, 0, none⟩))] := hS7.re ⟨rfl, rfl, rfl, trivial⟩
  clear hK K
  try clear hS4 hS6 hS7
  obtain ⟨a, ha⟩ : ∃ a', a' = a7 := ⟨_, rfl⟩
  rw [← ha] at hS ⊢; clear ha
  refine wp_seq ?_
  refine c_pure [(1, .int .i64 p1), (2, .int .u64 p2), (3, .pointer (some ⟨b1, 0, none⟩)), (9, .bool p0.Raw)] (fun R hR => st_val hS rfl rfl rfl (r_fieldB (off := 3) hS rfl rfl (by kernel_rfl)) fun a8 hS8 => st_val hS8 rfl rfl rfl (r_load1 (n := 1) hS8 rfl rfl (by kernel_rfl) (Bx.cell h2 rfl)) fun a9 hS9 => wpList_nil (hR _ (hS9.re ⟨rfl, rfl, rfl, rfl, trivial⟩))) ?_
  clear hS
  clear a
  intro a hS
  refine c_cond hS rfl (fun hb10 => ?_) (fun hb10 => ?_)
  · replace H := ite_t hb10 H
    refine c_draw (fun K hK => d_start (fun q => False) g5 [] 6 #[false, false, false, false, false, false] (by kernel_rfl) rfl rfl (fun w11 hw11 => ?_))
    have F11 : Fr (fun _ => False) w5 g5 w11 g5 := by rw [hw11]; exact Fr.drew _ _ _
    replace h2 := h2.fr F11 (fun h => h)
    replace hF := hF.trans F11 (fun _ h => h.elim)
    have hC : Fr (fun q => False) w11 g5 w11 g5 := Fr.refl _ _ _
    refine d_pure hS 0 #[true, false, false, false, false, false] rfl rfl rfl rfl (by kernel_rfl) (fun _ _ _ h => h) (fun _ => (r_fieldB (off := 1) hS rfl rfl (by kernel_rfl))) fun a12 hS12 => d_take hS12 1 #[true, true, false, false, false, false] rfl rfl rfl rfl (by kernel_rfl) (fun _ _ _ h => h) ⟨_, hC⟩ (fun w' g' Fz => (r_load1 (n := 1) hS12 rfl rfl (by kernel_rfl) (Bx.cell (h2.fr Fz (fun h => h)) rfl))) fun a13 hS13 => d_pure hS13 2 #[true, true, true, false, false, false] rfl rfl rfl rfl (by kernel_rfl) (fun _ _ _ h => h) (fun _ => (r_fieldB (off := 2) hS13 rfl rfl (by kernel_rfl))) fun a14 hS14 => d_take hS14 3 #[true, true, true, true, false, false] rfl rfl rfl rfl (by kernel_rfl) (fun _ _ _ h => h) ⟨_, hC⟩ (fun w' g' Fz => (r_load1 (n := 1) hS14 rfl rfl (by kernel_rfl) (Bx.cell (h2.fr Fz (fun h => h)) rfl))) fun a15 hS15 => d_pure hS15 4 #[true, true, true, true, true, false] rfl rfl rfl rfl (by kernel_rfl) (fun _ _ _ h => h) (fun _ => (r_assign hS15 rfl rfl)) fun a16 hS16 => d_pure hS16 5 #[true, true, true, true, true, true] rfl rfl rfl rfl (by kernel_rfl) (fun _ _ _ h => h) (fun _ => (r_assign hS16 rfl rfl)) fun a17 hS17 => d_done (by kernel_rfl) (hK _ _ ?_)
    replace hS : Sl 30 _ [(6, .int .i64 p0.Rail), (7, .int .u64 p0.Wait)] := hS17.re ⟨rfl, rfl, trivial⟩
    clear hK K hC
    try clear hS12 hS13 hS14 hS15 hS16 hS17
    obtain ⟨a, ha⟩ : ∃ a', a' = a17 := ⟨_, rfl⟩
    rw [← ha] at hS ⊢; clear ha
    refine wp_ret ?_
    have e := Option.some.inj H
    subst e
    repeat (with_reducible first | refine then_ret ?_ | refine inBlock_ret ?_)
    exact c_ret2 hS Try.results28 rfl rfl ⟨_, rfl, g5, rfl, hF⟩
  · replace H := ite_f hb10 H
    refine wp_skip ?_
    change Code.wp _ _ _ _ _
    refine wp_seq ?_
    refine c_pure [(1, .int .i64 p1), (2, .int .u64 p2), (3, .pointer (some ⟨b1, 0, none⟩)), (15, .bool (p1 == 0))] (fun R hR => st_val hS rfl rfl rfl (r_move hS rfl rfl) fun a18 hS18 => st_val hS18 rfl rfl rfl (r_bin hS18 rfl rfl rfl b_eql) fun a19 hS19 => wpList_nil (hR _ (hS19.re ⟨rfl, rfl, rfl, rfl, trivial⟩))) ?_
    clear hS
    clear a
    intro a hS
    refine c_cond hS rfl (fun hb20 => ?_) (fun hb20 => ?_)
    · replace H := ite_t hb20 H
      refine c_draw (fun K hK => d_start (fun q => False) g5 [] 7 #[false, false, false, false, false, false, false] (by kernel_rfl) rfl rfl (fun w21 hw21 => ?_))
      have F21 : Fr (fun _ => False) w5 g5 w21 g5 := by rw [hw21]; exact Fr.drew _ _ _
      replace h2 := h2.fr F21 (fun h => h)
      replace hF := hF.trans F21 (fun _ h => h.elim)
      have hC : Fr (fun q => False) w21 g5 w21 g5 := Fr.refl _ _ _
      refine d_pure hS 0 #[true, false, false, false, false, false, false] rfl rfl rfl rfl (by kernel_rfl) (fun _ _ _ h => h) (fun _ => (r_move hS rfl rfl)) fun a22 hS22 => d_pure hS22 1 #[true, true, false, false, false, false, false] rfl rfl rfl rfl (by kernel_rfl) (fun _ _ _ h => h) (fun _ => (r_fieldB (off := 2) hS22 rfl rfl (by kernel_rfl))) fun a23 hS23 => d_take hS23 2 #[true, true, true, false, false, false, false] rfl rfl rfl rfl (by kernel_rfl) (fun _ _ _ h => h) ⟨_, hC⟩ (fun w' g' Fz => (r_load1 (n := 1) hS23 rfl rfl (by kernel_rfl) (Bx.cell (h2.fr Fz (fun h => h)) rfl))) fun a24 hS24 => d_pure hS24 3 #[true, true, true, true, false, false, false] rfl rfl rfl rfl (by kernel_rfl) (fun _ _ _ h => h) (fun _ => (r_bin hS24 rfl rfl rfl (b_rem (by decide)))) fun a25 hS25 => d_pure hS25 4 #[true, true, true, true, true, false, false] rfl rfl rfl rfl (by kernel_rfl) (fun _ _ _ h => h) (fun _ => (r_bin hS25 rfl rfl rfl b_add)) fun a26 hS26 => d_pure hS26 5 #[true, true, true, true, true, true, false] rfl rfl rfl rfl (by kernel_rfl) (fun _ _ _ h => h) (fun _ => (r_assign hS26 rfl rfl)) fun a27 hS27 => d_pure hS27 6 #[true, true, true, true, true, true, true] rfl rfl rfl rfl (by kernel_rfl) (fun _ _ _ h => h) (fun _ => (r_assign hS27 rfl rfl)) fun a28 hS28 => d_done (by kernel_rfl) (hK _ _ ?_)
      replace hS : Sl 30 _ [(6, .int .i64 0), (7, .int .u64 (wu (p2 + (Int.tmod p0.Wait 30))))] := hS28.re ⟨rfl, rfl, trivial⟩
      clear hK K hC
      try clear hS22 hS23 hS24 hS25 hS26 hS27 hS28
      obtain ⟨a, ha⟩ : ∃ a', a' = a28 := ⟨_, rfl⟩
      rw [← ha] at hS ⊢; clear ha
      refine wp_ret ?_
      have e := Option.some.inj H
      subst e
      repeat (with_reducible first | refine then_ret ?_ | refine inBlock_ret ?_)
      exact c_ret2 hS Try.results28 rfl rfl ⟨_, rfl, g5, rfl, hF⟩
    · replace H := ite_f hb20 H
      refine wp_skip ?_
      change Code.wp _ _ _ _ _
      obtain ⟨r29, hr30, H⟩ := bind_el H
      refine c_draw (fun K hK => d_start (fun q => N + 2 ≤ q) g5 [] 11 #[false, false, false, false, false, false, false, false, false, false, false] (by kernel_rfl) rfl rfl (fun w31 hw31 => ?_))
      have F31 : Fr (fun _ => False) w5 g5 w31 g5 := by rw [hw31]; exact Fr.drew _ _ _
      replace h2 := h2.fr F31 (fun h => h)
      replace hF := hF.trans F31 (fun _ h => h.elim)
      have hC : Fr (fun q => N + 2 ≤ q) w31 g5 w31 g5 := Fr.refl _ _ _
      refine d_pure hS 0 #[true, false, false, false, false, false, false, false, false, false, false] rfl rfl rfl rfl (by kernel_rfl) (fun _ _ _ h => h) (fun _ => (r_fieldB (off := 1) hS rfl rfl (by kernel_rfl))) fun a32 hS32 => d_take hS32 1 #[true, true, false, false, false, false, false, false, false, false, false] rfl rfl rfl rfl (by kernel_rfl) (fun _ _ _ h => h) ⟨_, hC⟩ (fun w' g' Fz => (r_load1 (n := 1) hS32 rfl rfl (by kernel_rfl) (Bx.cell (h2.fr Fz (fun (hm : N + 2 ≤ N + 0) => by omega)) rfl))) fun a33 hS33 => d_pure hS33 2 #[true, true, true, false, false, false, false, false, false, false, false] rfl rfl rfl rfl (by kernel_rfl) (fun _ _ _ h => h) (fun _ => (r_move hS33 rfl rfl)) fun a34 hS34 => d_pure hS34 4 #[true, true, true, false, true, false, false, false, false, false, false] rfl rfl rfl rfl (by kernel_rfl) (fun _ _ _ h => h) (fun _ => (r_move hS34 rfl rfl)) fun a35 hS35 => d_pure hS35 5 #[true, true, true, false, true, true, false, false, false, false, false] rfl rfl rfl rfl (by kernel_rfl) (fun _ _ _ h => h) (fun _ => (r_fieldB (off := 2) hS35 rfl rfl (by kernel_rfl))) fun a36 hS36 => d_take hS36 6 #[true, true, true, false, true, true, true, false, false, false, false] rfl rfl rfl rfl (by kernel_rfl) (fun _ _ _ h => h) ⟨_, hC⟩ (fun w' g' Fz => (r_load1 (n := 1) hS36 rfl rfl (by kernel_rfl) (Bx.cell (h2.fr Fz (fun (hm : N + 2 ≤ N + 0) => by omega)) rfl))) fun a37 hS37 => d_pure hS37 7 #[true, true, true, false, true, true, true, true, false, false, false] rfl rfl rfl rfl (by kernel_rfl) (fun _ _ _ h => h) (fun _ => (r_bin hS37 rfl rfl rfl (b_rem (by decide)))) fun a38 hS38 => d_pure hS38 8 #[true, true, true, false, true, true, true, true, true, false, false] rfl rfl rfl rfl (by kernel_rfl) (fun _ _ _ h => h) (fun _ => (r_bin hS38 rfl rfl rfl b_add)) fun a39 hS39 => ?_
      refine d_one 3 #[true, true, true, true, true, true, true, true, true, false, false] rfl (by kernel_rfl) (arm_call hS39 rfl rfl rfl (r_call hS39 rfl rfl (by kernel_rfl)) (help_Mod.calls (p0 := p0.Rail) (p1 := p1) (g := g5) (N + 2)   hr30) (fun _ _ ⟨g', _, Fz⟩ _ => ⟨g', hC.trans Fz (fun c' (hm : N + 2 ≤ c') => by show N + 2 ≤ c'; omega)⟩) ?_)
      rintro _ a40 w41 ⟨g41, rfl, F41⟩ hS40
      have hC41 := hC.trans F41 (fun c' (hm : N + 2 ≤ c') => by show N + 2 ≤ c'; omega)
      replace h2 := h2.fr F41 (fun (hm : N + 2 ≤ N + 0) => by omega)
      replace hF := hF.trans F41 (fun c' (hm : N + 2 ≤ c') => by show N ≤ c'; omega)
      refine d_pure hS40 9 #[true, true, true, true, true, true, true, true, true, true, false] rfl rfl rfl rfl (by kernel_rfl) (fun _ _ _ h => h) (fun _ => (r_assign hS40 rfl rfl)) fun a42 hS42 => d_pure hS42 10 #[true, true, true, true, true, true, true, true, true, true, true] rfl rfl rfl rfl (by kernel_rfl) (fun _ _ _ h => h) (fun _ => (r_assign hS42 rfl rfl)) fun a43 hS43 => d_done (by kernel_rfl) (hK _ _ ?_)
      replace hS : Sl 30 _ [(6, .int .i64 r29), (7, .int .u64 (wu (p2 + (Int.tmod p0.Wait 30))))] := hS43.re ⟨rfl, rfl, trivial⟩
      clear hK K hC
      try clear hS32 hS33 hS34 hS35 hS36 hS37 hS38 hS39 hS40 hS42 hS43
      obtain ⟨a, ha⟩ : ∃ a', a' = a43 := ⟨_, rfl⟩
      rw [← ha] at hS ⊢; clear ha
      refine wp_ret ?_
      have e := Option.some.inj H
      subst e
      repeat (with_reducible first | refine then_ret ?_ | refine inBlock_ret ?_)
      exact c_ret2 hS Try.results28 rfl rfl ⟨_, rfl, g41, rfl, hF⟩

/-! ### law25_do: function 17 -/
def law25_do.f (p0 : rails_Rails) (p1 : law25_Call) (p2 : Int) (p3 : Int) : Option (rails_Rails × (List api_RailOp) × Int) := (law25_Call_at.f p1 p2 p3).bind fun r11 => if p1.Release = true then ((rails_Rails_Release.f p0 r11.1 r11.2).bind fun r26 => some (r26.1, r26.2.1, r26.2.2)) else ((rails_Rails_Acquire.f p0 r11.1 r11.2).bind fun r42 => some (r42.1, r42.2.1, r42.2.2))
set_option maxRecDepth 100000 in
set_option maxHeartbeats 4000000 in
theorem law25_do.calls {p0 : rails_Rails} {c0 : Nat}  {b_p0 : Nat} {A_list_p0 : Option Addr} {cap_list_p0 : Nat} {p1 : law25_Call} {p2 : Int} {p3 : Int} {w : World} {g : Nat → Nat} {out : rails_Rails × (List api_RailOp) × Int} (N : Nat) (r0 : Nat) (hp0 : rails_Rails_At w g c0 b_p0 A_list_p0 cap_list_p0 p0) (hc0 : c0 + 3 ≤ N) (hr0 : r0 + 2 ≤ N) (hq0_0 : r0 + 2 ≤ c0 ∨ c0 + 3 ≤ r0) (H : law25_do.f p0 p1 p2 p3 = some out) :
    Calls Try.prog 17 #[.pointer (some ⟨b_p0, 0, none⟩), .agg #[.bool p1.Release, .int .i64 p1.Rail, .int .u64 p1.Wait, .bool p1.Raw], .int .i64 p2, .int .u64 p3] w (fun e w' => ∃ v, e = .returned v ∧ ∃ (g' : Nat → Nat) (A_r0 : Option Addr) (cap_r0 : Nat), v = .tuple #[.slice A_r0 out.2.1.length cap_r0, .int .i64 out.2.2] ∧ rails_Rails_At w' g' c0 b_p0 A_list_p0 cap_list_p0 out.1 ∧ OwS kd_api_RailOp 50 w' g' r0 A_r0 cap_r0 out.2.1 ∧ Fr (fun q => (c0 ≤ q ∧ q < c0 + 3) ∨ (r0 ≤ q ∧ q < r0 + 2) ∨ N ≤ q) w g w' g') := by
  unfold law25_do.f at H
  refine calls_enter Try.func17 rfl Try.ntmps17 rfl (fun a hS => ?_)
  replace hS : Sl 33 a [(0, .pointer (some ⟨b_p0, 0, none⟩)), (1, .agg #[.bool p1.Release, .int .i64 p1.Rail, .int .u64 p1.Wait, .bool p1.Raw]), (2, .int .i64 p2), (3, .int .u64 p3)] := hS
  have hF : Fr (fun q => (c0 ≤ q ∧ q < c0 + 3) ∨ (r0 ≤ q ∧ q < r0 + 2) ∨ N ≤ q) w g w g := Fr.refl _ _ _
  obtain ⟨hb0, hf0_list⟩ := hp0
  refine c_region (fun K hK => ?_)
  refine st_eff hS rfl rfl rfl (e_box (cs := [.bool p1.Release, .int .i64 p1.Rail, .int .u64 p1.Wait, .bool p1.Raw]) (N + 0) g hS rfl rfl rfl) ?_
  rintro _ a4 w5 g5 ⟨⟨b1, rfl, h2⟩, F5⟩ hS4
  replace hb0 := hb0.fr F5 (fun h => h)
  replace hf0_list := OwS.fr hf0_list F5 (fun _ _ h => h)
  replace hF := hF.trans F5 (fun _ h => h.elim)
  refine st_val hS4 rfl rfl rfl (r_assign hS4 rfl rfl) fun a6 hS6 => st_val hS6 rfl rfl rfl (r_assign hS6 rfl rfl) fun a7 hS7 => wpList_nil (hK _ _ ?_)
  replace hS : Sl 33 _ [(0, .pointer (some ⟨b_p0, 0, none⟩)), (2, .int .i64 p2), (3, .int .u64 p3), (5, .pointer (some ⟨b1, 0, none⟩))] := hS7.re ⟨rfl, rfl, rfl, rfl, trivial⟩
  clear hK K
  try clear hS4 hS6 hS7
  obtain ⟨a, ha⟩ : ∃ a', a' = a7 := ⟨_, rfl⟩
  rw [← ha] at hS ⊢; clear ha
  obtain ⟨r11, hr12, H⟩ := bind_el H
  refine c_region (fun K hK => ?_)
  refine st_val hS rfl rfl rfl (r_loadN (n := 4) (cs := [.bool p1.Release, .int .i64 p1.Rail, .int .u64 p1.Wait, .bool p1.Raw]) hS rfl rfl (by kernel_rfl) rfl (Bx.cells_off h2 0 4)) fun a8 hS8 => st_val hS8 rfl rfl rfl (r_move hS8 rfl rfl) fun a9 hS9 => st_val hS9 rfl rfl rfl (r_move hS9 rfl rfl) fun a10 hS10 => ?_
  refine st_enter hS10 rfl rfl rfl (r_call hS10 rfl rfl (by kernel_rfl)) (law25_Call_at.calls (p0 := p1) (p1 := p2) (p2 := p3) (g := g5) (N + 6)   hr12) ?_
  rintro _ a13 w14 ⟨g14, rfl, F14⟩ hS13
  replace h2 := h2.fr F14 (fun (hm : N + 6 ≤ N + 0) => by omega)
  replace hb0 := hb0.fr F14 (fun (hm : N + 6 ≤ c0) => by omega)
  replace hf0_list := OwS.fr hf0_list F14 (fun c' hc (hm : N + 6 ≤ c') => by omega)
  replace hF := hF.trans F14 (fun c' (hm : N + 6 ≤ c') => by show (c0 ≤ c' ∧ c' < c0 + 3) ∨ (r0 ≤ c' ∧ c' < r0 + 2) ∨ N ≤ c'; omega)
  refine st_val hS13 rfl rfl rfl (r_move hS13 rfl rfl) fun a15 hS15 => st_val hS15 rfl rfl rfl (r_extract hS15 rfl rfl rfl) fun a16 hS16 => st_val hS16 rfl rfl rfl (r_extract hS16 rfl rfl rfl) fun a17 hS17 => st_val hS17 rfl rfl rfl (r_assign hS17 rfl rfl) fun a18 hS18 => st_val hS18 rfl rfl rfl (r_assign hS18 rfl rfl) fun a19 hS19 => wpList_nil (hK _ _ ?_)
  replace hS : Sl 33 _ [(0, .pointer (some ⟨b_p0, 0, none⟩)), (5, .pointer (some ⟨b1, 0, none⟩)), (10, .int .i64 r11.1), (11, .int .u64 r11.2)] := hS19.re ⟨rfl, rfl, rfl, rfl, trivial⟩
  clear hK K
  try clear hS8 hS9 hS10 hS13 hS15 hS16 hS17 hS18 hS19
  obtain ⟨a, ha⟩ : ∃ a', a' = a19 := ⟨_, rfl⟩
  rw [← ha] at hS ⊢; clear ha
  refine wp_seq ?_
  refine c_pure [(0, .pointer (some ⟨b_p0, 0, none⟩)), (10, .int .i64 r11.1), (11, .int .u64 r11.2), (20, .bool p1.Release)] (fun R hR => st_val hS rfl rfl rfl (r_fieldB (off := 0) hS rfl rfl (by kernel_rfl)) fun a20 hS20 => st_val hS20 rfl rfl rfl (r_load1 (n := 1) hS20 rfl rfl (by kernel_rfl) (Bx.cell h2 rfl)) fun a21 hS21 => wpList_nil (hR _ (hS21.re ⟨rfl, rfl, rfl, rfl, trivial⟩))) ?_
  clear hS
  clear a
  intro a hS
  refine c_cond hS rfl (fun hb22 => ?_) (fun hb22 => ?_)
  · replace H := ite_t hb22 H
    obtain ⟨r26, hr27, H⟩ := bind_el H
    refine c_region (fun K hK => ?_)
    refine st_val hS rfl rfl rfl (r_move hS rfl rfl) fun a23 hS23 => st_val hS23 rfl rfl rfl (r_move hS23 rfl rfl) fun a24 hS24 => st_val hS24 rfl rfl rfl (r_move hS24 rfl rfl) fun a25 hS25 => ?_
    refine st_enter hS25 rfl rfl rfl (r_call hS25 rfl rfl (by kernel_rfl)) (rails_Rails_Release.calls (c0 := c0) (b_p0 := b_p0) (A_list_p0 := A_list_p0) (cap_list_p0 := cap_list_p0) (p0 := p0) (p1 := r11.1) (p2 := r11.2) (g := g14) (N + 6) (N + 2) ⟨hb0, hf0_list⟩ (by omega) (by omega) (by omega) hr27) ?_
    rintro _ a32 w33 ⟨g33, A28, cap29, rfl, ⟨hb0, hf0_list⟩, h30, F33⟩ hS32
    replace hF := hF.trans F33 (fun c' (hm : (c0 ≤ c' ∧ c' < c0 + 3) ∨ (N + 2 ≤ c' ∧ c' < N + 2 + 2) ∨ N + 6 ≤ c') => by show (c0 ≤ c' ∧ c' < c0 + 3) ∨ (r0 ≤ c' ∧ c' < r0 + 2) ∨ N ≤ c'; omega)
    refine st_val hS32 rfl rfl rfl (r_extract hS32 rfl rfl rfl) fun a34 hS34 => st_val hS34 rfl rfl rfl (r_extract hS34 rfl rfl rfl) fun a35 hS35 => st_val hS35 rfl rfl rfl (r_assign hS35 rfl rfl) fun a36 hS36 => st_val hS36 rfl rfl rfl (r_assign hS36 rfl rfl) fun a37 hS37 => wpList_nil (hK _ _ ?_)
    replace hS : Sl 33 _ [(8, .slice A28 r26.2.1.length cap29), (9, .int .i64 r26.2.2)] := hS37.re ⟨rfl, rfl, trivial⟩
    clear hK K
    try clear hS23 hS24 hS25 hS32 hS34 hS35 hS36 hS37
    obtain ⟨a, ha⟩ : ∃ a', a' = a37 := ⟨_, rfl⟩
    rw [← ha] at hS ⊢; clear ha
    refine wp_ret ?_
    have e := Option.some.inj H
    subst e
    have F38 := Fr.recol2 w33 g33 (N + 2) r0
    replace h30 := h30.recol2 r0
    replace hb0 := hb0.fr F38 (fun (hm : c0 = N + 2 ∨ c0 = N + 2 + 1) => by omega)
    replace hf0_list := OwS.fr hf0_list F38 (fun c' hc (hm : c' = N + 2 ∨ c' = N + 2 + 1) => by omega)
    replace hF := hF.trans F38 (fun c' (hm : c' = N + 2 ∨ c' = N + 2 + 1) => by show (c0 ≤ c' ∧ c' < c0 + 3) ∨ (r0 ≤ c' ∧ c' < r0 + 2) ∨ N ≤ c'; omega)
    repeat (with_reducible first | refine then_ret ?_ | refine inBlock_ret ?_)
    exact c_ret2 hS Try.results17 rfl rfl ⟨_, rfl, (recol2 g33 (N + 2) r0), A28, cap29, rfl, ⟨hb0, hf0_list⟩, h30, hF⟩
  · replace H := ite_f hb22 H
    refine wp_skip ?_
    change Code.wp _ _ _ _ _
    obtain ⟨r42, hr43, H⟩ := bind_el H
    refine c_region (fun K hK => ?_)
    refine st_val hS rfl rfl rfl (r_move hS rfl rfl) fun a39 hS39 => st_val hS39 rfl rfl rfl (r_move hS39 rfl rfl) fun a40 hS40 => st_val hS40 rfl rfl rfl (r_move hS40 rfl rfl) fun a41 hS41 => ?_
    refine st_enter hS41 rfl rfl rfl (r_call hS41 rfl rfl (by kernel_rfl)) (rails_Rails_Acquire.calls (c0 := c0) (b_p0 := b_p0) (A_list_p0 := A_list_p0) (cap_list_p0 := cap_list_p0) (p0 := p0) (p1 := r11.1) (p2 := r11.2) (g := g14) (N + 6) (N + 4) ⟨hb0, hf0_list⟩ (by omega) (by omega) (by omega) hr43) ?_
    rintro _ a48 w49 ⟨g49, A44, cap45, rfl, ⟨hb0, hf0_list⟩, h46, F49⟩ hS48
    replace hF := hF.trans F49 (fun c' (hm : (c0 ≤ c' ∧ c' < c0 + 3) ∨ (N + 4 ≤ c' ∧ c' < N + 4 + 2) ∨ N + 6 ≤ c') => by show (c0 ≤ c' ∧ c' < c0 + 3) ∨ (r0 ≤ c' ∧ c' < r0 + 2) ∨ N ≤ c'; omega)
    refine st_val hS48 rfl rfl rfl (r_extract hS48 rfl rfl rfl) fun a50 hS50 => st_val hS50 rfl rfl rfl (r_extract hS50 rfl rfl rfl) fun a51 hS51 => st_val hS51 rfl rfl rfl (r_assign hS51 rfl rfl) fun a52 hS52 => st_val hS52 rfl rfl rfl (r_assign hS52 rfl rfl) fun a53 hS53 => wpList_nil (hK _ _ ?_)
    replace hS : Sl 33 _ [(8, .slice A44 r42.2.1.length cap45), (9, .int .i64 r42.2.2)] := hS53.re ⟨rfl, rfl, trivial⟩
    clear hK K
    try clear hS39 hS40 hS41 hS48 hS50 hS51 hS52 hS53
    obtain ⟨a, ha⟩ : ∃ a', a' = a53 := ⟨_, rfl⟩
    rw [← ha] at hS ⊢; clear ha
    refine wp_ret ?_
    have e := Option.some.inj H
    subst e
    have F54 := Fr.recol2 w49 g49 (N + 4) r0
    replace h46 := h46.recol2 r0
    replace hb0 := hb0.fr F54 (fun (hm : c0 = N + 4 ∨ c0 = N + 4 + 1) => by omega)
    replace hf0_list := OwS.fr hf0_list F54 (fun c' hc (hm : c' = N + 4 ∨ c' = N + 4 + 1) => by omega)
    replace hF := hF.trans F54 (fun c' (hm : c' = N + 4 ∨ c' = N + 4 + 1) => by show (c0 ≤ c' ∧ c' < c0 + 3) ∨ (r0 ≤ c' ∧ c' < r0 + 2) ∨ N ≤ c'; omega)
    repeat (with_reducible first | refine then_ret ?_ | refine inBlock_ret ?_)
    exact c_ret2 hS Try.results17 rfl rfl ⟨_, rfl, (recol2 g49 (N + 4) r0), A44, cap45, rfl, ⟨hb0, hf0_list⟩, h46, hF⟩

/-! ### ref25_Rails_bad: function 44 -/
def ref25_Rails_bad.f (p0 : ref25_Rails) (p1 : Int) (p2 : Int) : Option (Bool) := some ((((decide (p1 < 0)) || (decide ((p0.R.length : Int) ≤ p1))) || (decide (p2 < p0.Clock))) || (decide (1152921504606846976 < p2)))
set_option maxRecDepth 100000 in
set_option maxHeartbeats 4000000 in
theorem ref25_Rails_bad.calls {p0 : ref25_Rails} {c0 : Nat}  {b_p0 : Nat} {A_R_p0 : Option Addr} {cap_R_p0 : Nat} {A_N_p0 : Option Addr} {cap_N_p0 : Nat} {A_Done_p0 : Option Addr} {cap_Done_p0 : Nat} {p1 : Int} {p2 : Int} {w : World} {g : Nat → Nat} {out : Bool} (N : Nat) (hp0 : ref25_Rails_At w g c0 b_p0 A_R_p0 cap_R_p0 A_N_p0 cap_N_p0 A_Done_p0 cap_Done_p0 p0) (hc0 : c0 + 7 ≤ N) (H : ref25_Rails_bad.f p0 p1 p2 = some out) :
    Calls Try.prog 44 #[.pointer (some ⟨b_p0, 0, none⟩), .int .i64 p1, .int .u64 p2] w (fun e w' => ∃ v, e = .returned v ∧ ∃ (g' : Nat → Nat), v = .bool out ∧ Fr (fun q => N ≤ q) w g w' g') := by
  unfold ref25_Rails_bad.f at H
  refine calls_enter Try.func44 rfl Try.ntmps44 rfl (fun a hS => ?_)
  replace hS : Sl 30 a [(0, .pointer (some ⟨b_p0, 0, none⟩)), (1, .int .i64 p1), (2, .int .u64 p2)] := hS
  have hF : Fr (fun q => N ≤ q) w g w g := Fr.refl _ _ _
  obtain ⟨hb0, hf0_R, hf0_N, hf0_Done⟩ := hp0
  refine c_pure [(0, .pointer (some ⟨b_p0, 0, none⟩)), (1, .int .i64 p1), (2, .int .u64 p2)] (fun R hR => st_val hS rfl rfl rfl (r_assign hS rfl rfl) fun a1 hS1 => wpList_nil (hR _ (hS1.re ⟨rfl, rfl, rfl, trivial⟩))) ?_
  clear hS
  clear a
  intro a hS
  refine c_region (fun K hK => ?_)
  refine st_val hS rfl rfl rfl (r_move hS rfl rfl) fun a2 hS2 => st_val hS2 rfl rfl rfl (r_bin hS2 rfl rfl rfl b_lss) fun a3 hS3 => st_val hS3 rfl rfl rfl (r_move hS3 rfl rfl) fun a4 hS4 => ?_
  refine g_join (N := 30) 8 [(0, .pointer (some ⟨b_p0, 0, none⟩)), (2, .int .u64 p2), (17, .bool ((decide (p1 < 0)) || (decide ((p0.R.length : Int) ≤ p1))))] ?_ (fun hk => ?_)
  rotate_left
  · rcases Bool.eq_false_or_eq_true (decide (p1 < 0)) with hb5 | hb5
    · refine st_off hS4 (want_off hS4 rfl rfl rfl hb5) rfl rfl fun a13 hS13 => st_off hS13 (want_off hS13 rfl rfl rfl hb5) rfl rfl fun a14 hS14 => st_off hS14 (want_off hS14 rfl rfl rfl hb5) rfl rfl fun a15 hS15 => st_off hS15 (want_off hS15 rfl rfl rfl hb5) rfl rfl fun a16 hS16 => st_off hS16 (want_off hS16 rfl rfl rfl hb5) rfl rfl fun a17 hS17 => st_off hS17 (want_off hS17 rfl rfl rfl hb5) rfl rfl fun a18 hS18 => st_off hS18 (want_off hS18 rfl rfl rfl hb5) rfl rfl fun a19 hS19 => st_val hS19 rfl rfl rfl (r_pickT hS19 rfl rfl rfl hb5) fun a20 hS20 => hk _ (hS20.re ⟨rfl, rfl, (by rw [hb5]; rfl), trivial⟩)
    · refine st_valW hS4 (want_on hS4 rfl rfl rfl hb5) rfl rfl (r_move hS4 rfl rfl) fun a21 hS21 => st_valW hS21 (want_on hS21 rfl rfl rfl hb5) rfl rfl (r_move hS21 rfl rfl) fun a22 hS22 => st_valW hS22 (want_on hS22 rfl rfl rfl hb5) rfl rfl (r_nil hS22 rfl rfl) fun a23 hS23 => st_valW hS23 (want_on hS23 rfl rfl rfl hb5) rfl rfl (r_fieldB (off := 0) hS23 rfl rfl (by kernel_rfl)) fun a24 hS24 => st_valW hS24 (want_on hS24 rfl rfl rfl hb5) rfl rfl (r_load1 (n := 1) hS24 rfl rfl (by kernel_rfl) (Bx.cell hb0 rfl)) fun a25 hS25 => st_valW hS25 (want_on hS25 rfl rfl rfl hb5) rfl rfl (r_len (e := 35) (sz := 3) (by_ := 24) hS25 rfl rfl (by kernel_rfl)) fun a26 hS26 => st_valW hS26 (want_on hS26 rfl rfl rfl hb5) rfl rfl (r_bin hS26 rfl rfl rfl b_geq) fun a27 hS27 => st_val hS27 rfl rfl rfl (r_pickF hS27 rfl rfl rfl hb5) fun a28 hS28 => hk _ (hS28.re ⟨rfl, rfl, (by rw [hb5]; rfl), trivial⟩)
  intro a29 hS29
  refine st_val hS29 rfl rfl rfl (r_move hS29 rfl rfl) fun a30 hS30 => ?_
  refine g_join (N := 30) 7 [(2, .int .u64 p2), (25, .bool (((decide (p1 < 0)) || (decide ((p0.R.length : Int) ≤ p1))) || (decide (p2 < p0.Clock))))] ?_ (fun hk => ?_)
  rotate_left
  · rcases Bool.eq_false_or_eq_true (((decide (p1 < 0)) || (decide ((p0.R.length : Int) ≤ p1)))) with hb31 | hb31
    · refine st_off hS30 (want_off hS30 rfl rfl rfl hb31) rfl rfl fun a38 hS38 => st_off hS38 (want_off hS38 rfl rfl rfl hb31) rfl rfl fun a39 hS39 => st_off hS39 (want_off hS39 rfl rfl rfl hb31) rfl rfl fun a40 hS40 => st_off hS40 (want_off hS40 rfl rfl rfl hb31) rfl rfl fun a41 hS41 => st_off hS41 (want_off hS41 rfl rfl rfl hb31) rfl rfl fun a42 hS42 => st_off hS42 (want_off hS42 rfl rfl rfl hb31) rfl rfl fun a43 hS43 => st_val hS43 rfl rfl rfl (r_pickT hS43 rfl rfl rfl hb31) fun a44 hS44 => hk _ (hS44.re ⟨rfl, (by rw [hb31]; rfl), trivial⟩)
    · refine st_valW hS30 (want_on hS30 rfl rfl rfl hb31) rfl rfl (r_move hS30 rfl rfl) fun a45 hS45 => st_valW hS45 (want_on hS45 rfl rfl rfl hb31) rfl rfl (r_move hS45 rfl rfl) fun a46 hS46 => st_valW hS46 (want_on hS46 rfl rfl rfl hb31) rfl rfl (r_nil hS46 rfl rfl) fun a47 hS47 => st_valW hS47 (want_on hS47 rfl rfl rfl hb31) rfl rfl (r_fieldB (off := 3) hS47 rfl rfl (by kernel_rfl)) fun a48 hS48 => st_valW hS48 (want_on hS48 rfl rfl rfl hb31) rfl rfl (r_load1 (n := 1) hS48 rfl rfl (by kernel_rfl) (Bx.cell hb0 rfl)) fun a49 hS49 => st_valW hS49 (want_on hS49 rfl rfl rfl hb31) rfl rfl (r_bin hS49 rfl rfl rfl b_lss) fun a50 hS50 => st_val hS50 rfl rfl rfl (r_pickF hS50 rfl rfl rfl hb31) fun a51 hS51 => hk _ (hS51.re ⟨rfl, (by rw [hb31]; rfl), trivial⟩)
  intro a52 hS52
  refine st_val hS52 rfl rfl rfl (r_move hS52 rfl rfl) fun a53 hS53 => ?_
  refine g_join (N := 30) 3 [(29, .bool ((((decide (p1 < 0)) || (decide ((p0.R.length : Int) ≤ p1))) || (decide (p2 < p0.Clock))) || (decide (1152921504606846976 < p2))))] ?_ (fun hk => ?_)
  rotate_left
  · rcases Bool.eq_false_or_eq_true ((((decide (p1 < 0)) || (decide ((p0.R.length : Int) ≤ p1))) || (decide (p2 < p0.Clock)))) with hb54 | hb54
    · refine st_off hS53 (want_off hS53 rfl rfl rfl hb54) rfl rfl fun a57 hS57 => st_off hS57 (want_off hS57 rfl rfl rfl hb54) rfl rfl fun a58 hS58 => st_val hS58 rfl rfl rfl (r_pickT hS58 rfl rfl rfl hb54) fun a59 hS59 => hk _ (hS59.re ⟨(by rw [hb54]; rfl), trivial⟩)
    · refine st_valW hS53 (want_on hS53 rfl rfl rfl hb54) rfl rfl (r_move hS53 rfl rfl) fun a60 hS60 => st_valW hS60 (want_on hS60 rfl rfl rfl hb54) rfl rfl (r_bin hS60 rfl rfl rfl b_gtr) fun a61 hS61 => st_val hS61 rfl rfl rfl (r_pickF hS61 rfl rfl rfl hb54) fun a62 hS62 => hk _ (hS62.re ⟨(by rw [hb54]; rfl), trivial⟩)
  intro a63 hS63
  refine st_val hS63 rfl rfl rfl (r_assign hS63 rfl rfl) fun a64 hS64 => wpList_nil (hK _ _ ?_)
  replace hS : Sl 30 _ [(6, .bool ((((decide (p1 < 0)) || (decide ((p0.R.length : Int) ≤ p1))) || (decide (p2 < p0.Clock))) || (decide (1152921504606846976 < p2))))] := hS64.re ⟨rfl, trivial⟩
  clear hK K
  try clear hS2 hS3 hS4 hS29 hS30 hS52 hS53 hS63 hS64
  obtain ⟨a, ha⟩ : ∃ a', a' = a64 := ⟨_, rfl⟩
  rw [← ha] at hS ⊢; clear ha
  refine wp_ret ?_
  have e := Option.some.inj H
  subst e
  repeat (with_reducible first | refine then_ret ?_ | refine inBlock_ret ?_)
  exact c_ret1 hS Try.results44 rfl ⟨_, rfl, g, rfl, hF⟩

/-! ### ref25_Rails_own: function 45 -/
def ref25_Rails_own.l0 (p0 : ref25_Rails) (p1 : Int) : Nat → Int → Int → Option (Int)
  | 0, _, _ => none
  | k16 + 1, m0_0, m0_1 => if decide (m0_1 < (p0.R.length : Int)) = true then (((idx p0.R m0_1).bind fun x33 => (if (x33.Supply == p1) = true then (idx p0.N m0_1).bind fun x47 => some (decide (0 < x47)) else some false).bind fun t52 => if t52 = true then (some (wi (m0_0 - 1))) else (some m0_0) : Option (Int)).bind fun v25 => ref25_Rails_own.l0 p0 p1 k16 v25 (wi (m0_1 + 1))) else (some m0_0)
def ref25_Rails_own.f (p0 : ref25_Rails) (p1 : Int) : Option (Int) := (idx p0.N p1).bind fun x7 => (ref25_Rails_own.l0 p0 p1 FUEL x7 0 : Option (Int)).bind fun v12 => some v12
set_option maxRecDepth 100000 in
set_option maxHeartbeats 4000000 in
theorem ref25_Rails_own.calls {p0 : ref25_Rails} {c0 : Nat}  {b_p0 : Nat} {A_R_p0 : Option Addr} {cap_R_p0 : Nat} {A_N_p0 : Option Addr} {cap_N_p0 : Nat} {A_Done_p0 : Option Addr} {cap_Done_p0 : Nat} {p1 : Int} {w : World} {g : Nat → Nat} {out : Int} (N : Nat) (hp0 : ref25_Rails_At w g c0 b_p0 A_R_p0 cap_R_p0 A_N_p0 cap_N_p0 A_Done_p0 cap_Done_p0 p0) (hc0 : c0 + 7 ≤ N) (H : ref25_Rails_own.f p0 p1 = some out) :
    Calls Try.prog 45 #[.pointer (some ⟨b_p0, 0, none⟩), .int .i64 p1] w (fun e w' => ∃ v, e = .returned v ∧ ∃ (g' : Nat → Nat), v = .int .i64 out ∧ Fr (fun q => N ≤ q) w g w' g') := by
  unfold ref25_Rails_own.f at H
  refine calls_enter Try.func45 rfl Try.ntmps45 rfl (fun a hS => ?_)
  replace hS : Sl 46 a [(0, .pointer (some ⟨b_p0, 0, none⟩)), (1, .int .i64 p1)] := hS
  have hF : Fr (fun q => N ≤ q) w g w g := Fr.refl _ _ _
  obtain ⟨hb0, hf0_R, hf0_N, hf0_Done⟩ := hp0
  refine c_pure [(0, .pointer (some ⟨b_p0, 0, none⟩)), (1, .int .i64 p1)] (fun R hR => st_val hS rfl rfl rfl (r_assign hS rfl rfl) fun a1 hS1 => wpList_nil (hR _ (hS1.re ⟨rfl, rfl, trivial⟩))) ?_
  clear hS
  clear a
  intro a hS
  obtain ⟨x7, hx8, H⟩ := bind_el H
  refine c_pure [(0, .pointer (some ⟨b_p0, 0, none⟩)), (1, .int .i64 p1), (5, .int .i64 x7)] (fun R hR => st_val hS rfl rfl rfl (r_move hS rfl rfl) fun a2 hS2 => st_val hS2 rfl rfl rfl (r_nil hS2 rfl rfl) fun a3 hS3 => st_val hS3 rfl rfl rfl (r_fieldB (off := 1) hS3 rfl rfl (by kernel_rfl)) fun a4 hS4 => st_val hS4 rfl rfl rfl (r_load1 (n := 1) hS4 rfl rfl (by kernel_rfl) (Bx.cell hb0 rfl)) fun a5 hS5 => st_val hS5 rfl rfl rfl (r_move hS5 rfl rfl) fun a6 hS6 => st_val hS6 rfl rfl rfl (r_index (e := 3) (sz := 1) (by_ := 8) hS6 rfl rfl rfl (by kernel_rfl) (RdS.some_ (OwS.rd hf0_N) hx8) (idx_lo hx8) (idx_hi hx8)) fun a9 hS9 => st_val hS9 rfl rfl rfl (r_load1 (n := 1) hS9 rfl rfl (by kernel_rfl) (RdS.cell (i := p1) (sz := 1) (j := 0) (OwS.rd hf0_N) hx8 rfl)) fun a10 hS10 => st_val hS10 rfl rfl rfl (r_assign hS10 rfl rfl) fun a11 hS11 => wpList_nil (hR _ (hS11.re ⟨rfl, rfl, rfl, trivial⟩))) ?_
  clear hS
  clear a
  intro a hS
  obtain ⟨v12, H, Hl14⟩ := bind_el H
  refine c_cut (fun a w' => w = w' ∧ Sl 46 a [(5, .int .i64 v12)]) ?_ ?_
  · refine c_pure [(0, .pointer (some ⟨b_p0, 0, none⟩)), (1, .int .i64 p1), (5, .int .i64 x7), (6, .int .i64 0)] (fun R hR => st_val hS rfl rfl rfl (r_assign hS rfl rfl) fun a15 hS15 => wpList_nil (hR _ (hS15.re ⟨rfl, rfl, rfl, rfl, trivial⟩))) ?_
    clear hS
    clear a
    intro a hS
    refine wp_block ?_
    refine wp_loop_ghost (fun kq => fun a w' => ∃ (m0_0 : Int), ∃ (m0_1 : Int), ref25_Rails_own.l0 p0 p1 kq m0_0 m0_1 = some v12 ∧ w = w' ∧ Sl 46 a [(0, .pointer (some ⟨b_p0, 0, none⟩)), (1, .int .i64 p1), (5, .int .i64 m0_0), (6, .int .i64 m0_1)]) FUEL ?_ ?_
    · exact ⟨x7, 0, H, rfl, hS.re ⟨rfl, rfl, rfl, rfl, trivial⟩⟩
    · clear H
      clear hS
      rintro k16 a w' ⟨m0_0, m0_1, hpre0, hw, hS⟩
      subst hw
      have H := hpre0
      clear hpre0
      cases k16 with
      | zero => exact absurd H (by simp [ref25_Rails_own.l0])
      | succ k16 =>
        rw [ref25_Rails_own.l0] at H
        refine wp_seq ?_
        refine c_pure [(0, .pointer (some ⟨b_p0, 0, none⟩)), (1, .int .i64 p1), (5, .int .i64 m0_0), (6, .int .i64 m0_1), (20, .bool (decide (m0_1 < (p0.R.length : Int))))] (fun R hR => st_val hS rfl rfl rfl (r_move hS rfl rfl) fun a17 hS17 => st_val hS17 rfl rfl rfl (r_move hS17 rfl rfl) fun a18 hS18 => st_val hS18 rfl rfl rfl (r_nil hS18 rfl rfl) fun a19 hS19 => st_val hS19 rfl rfl rfl (r_fieldB (off := 0) hS19 rfl rfl (by kernel_rfl)) fun a20 hS20 => st_val hS20 rfl rfl rfl (r_load1 (n := 1) hS20 rfl rfl (by kernel_rfl) (Bx.cell hb0 rfl)) fun a21 hS21 => st_val hS21 rfl rfl rfl (r_len (e := 35) (sz := 3) (by_ := 24) hS21 rfl rfl (by kernel_rfl)) fun a22 hS22 => st_val hS22 rfl rfl rfl (r_bin hS22 rfl rfl rfl b_lss) fun a23 hS23 => wpList_nil (hR _ (hS23.re ⟨rfl, rfl, rfl, rfl, rfl, trivial⟩))) ?_
        clear hS
        clear a
        intro a hS
        refine c_cond hS rfl (fun hb24 => ?_) (fun hb24 => ?_)
        · replace H := ite_t hb24 H
          refine wp_skip ?_
          change Code.wp _ _ _ _ _
          obtain ⟨v25, H, Hl27⟩ := bind_el H
          refine c_cut (fun a w' => w = w' ∧ Sl 46 a [(0, .pointer (some ⟨b_p0, 0, none⟩)), (1, .int .i64 p1), (5, .int .i64 v25), (6, .int .i64 m0_1)]) ?_ ?_
          · refine wp_block ?_
            obtain ⟨x33, hx34, H⟩ := bind_el H
            obtain ⟨t52, ht53, H⟩ := bind_el H
            refine c_region (fun K hK => ?_)
            refine st_val hS rfl rfl rfl (r_move hS rfl rfl) fun a28 hS28 => st_val hS28 rfl rfl rfl (r_nil hS28 rfl rfl) fun a29 hS29 => st_val hS29 rfl rfl rfl (r_fieldB (off := 0) hS29 rfl rfl (by kernel_rfl)) fun a30 hS30 => st_val hS30 rfl rfl rfl (r_load1 (n := 1) hS30 rfl rfl (by kernel_rfl) (Bx.cell hb0 rfl)) fun a31 hS31 => st_val hS31 rfl rfl rfl (r_move hS31 rfl rfl) fun a32 hS32 => st_val hS32 rfl rfl rfl (r_index (e := 35) (sz := 3) (by_ := 24) hS32 rfl rfl rfl (by kernel_rfl) (RdS.some_ (OwS.rd hf0_R) hx34) (idx_lo hx34) (idx_hi hx34)) fun a35 hS35 => st_val hS35 rfl rfl rfl (r_fieldE (off := 0) hS35 rfl rfl (by kernel_rfl)) fun a36 hS36 => st_val hS36 rfl rfl rfl (r_load1 (n := 1) hS36 rfl rfl (by kernel_rfl) (RdS.cell (i := m0_1) (sz := 3) (j := 0) (OwS.rd hf0_R) hx34 rfl)) fun a37 hS37 => st_val hS37 rfl rfl rfl (r_move hS37 rfl rfl) fun a38 hS38 => st_val hS38 rfl rfl rfl (r_bin hS38 rfl rfl rfl b_eql) fun a39 hS39 => st_val hS39 rfl rfl rfl (r_move hS39 rfl rfl) fun a40 hS40 => ?_
            refine g_join (N := 46) 9 [(0, .pointer (some ⟨b_p0, 0, none⟩)), (1, .int .i64 p1), (5, .int .i64 m0_0), (6, .int .i64 m0_1), (42, .bool t52)] ?_ (fun hk => ?_)
            rotate_left
            · rcases Bool.eq_false_or_eq_true ((x33.Supply == p1)) with hb41 | hb41
              · have H := ite_t hb41 ht53
                obtain ⟨x59, hx60, H⟩ := bind_el H
                have e64 := Option.some.inj H
                refine st_valW hS40 (want_on hS40 rfl rfl rfl hb41) rfl rfl (r_move hS40 rfl rfl) fun a54 hS54 => st_valW hS54 (want_on hS54 rfl rfl rfl hb41) rfl rfl (r_nil hS54 rfl rfl) fun a55 hS55 => st_valW hS55 (want_on hS55 rfl rfl rfl hb41) rfl rfl (r_fieldB (off := 1) hS55 rfl rfl (by kernel_rfl)) fun a56 hS56 => st_valW hS56 (want_on hS56 rfl rfl rfl hb41) rfl rfl (r_load1 (n := 1) hS56 rfl rfl (by kernel_rfl) (Bx.cell hb0 rfl)) fun a57 hS57 => st_valW hS57 (want_on hS57 rfl rfl rfl hb41) rfl rfl (r_move hS57 rfl rfl) fun a58 hS58 => st_valW hS58 (want_on hS58 rfl rfl rfl hb41) rfl rfl (r_index (e := 3) (sz := 1) (by_ := 8) hS58 rfl rfl rfl (by kernel_rfl) (RdS.some_ (OwS.rd hf0_N) hx60) (idx_lo hx60) (idx_hi hx60)) fun a61 hS61 => st_valW hS61 (want_on hS61 rfl rfl rfl hb41) rfl rfl (r_load1 (n := 1) hS61 rfl rfl (by kernel_rfl) (RdS.cell (i := m0_1) (sz := 1) (j := 0) (OwS.rd hf0_N) hx60 rfl)) fun a62 hS62 => st_valW hS62 (want_on hS62 rfl rfl rfl hb41) rfl rfl (r_bin hS62 rfl rfl rfl b_gtr) fun a63 hS63 => st_val hS63 rfl rfl rfl (r_pickT hS63 rfl rfl rfl hb41) fun a65 hS65 => hk _ (hS65.re ⟨rfl, rfl, rfl, rfl, (by rw [← e64]; rfl), trivial⟩)
              · have H := ite_f hb41 ht53
                have e66 := Option.some.inj H
                refine st_off hS40 (want_off hS40 rfl rfl rfl hb41) rfl rfl fun a67 hS67 => st_off hS67 (want_off hS67 rfl rfl rfl hb41) rfl rfl fun a68 hS68 => st_off hS68 (want_off hS68 rfl rfl rfl hb41) rfl rfl fun a69 hS69 => st_off hS69 (want_off hS69 rfl rfl rfl hb41) rfl rfl fun a70 hS70 => st_off hS70 (want_off hS70 rfl rfl rfl hb41) rfl rfl fun a71 hS71 => st_off hS71 (want_off hS71 rfl rfl rfl hb41) rfl rfl fun a72 hS72 => st_off hS72 (want_off hS72 rfl rfl rfl hb41) rfl rfl fun a73 hS73 => st_off hS73 (want_off hS73 rfl rfl rfl hb41) rfl rfl fun a74 hS74 => st_val hS74 rfl rfl rfl (r_pickF hS74 rfl rfl rfl hb41) fun a75 hS75 => hk _ (hS75.re ⟨rfl, rfl, rfl, rfl, (by rw [← e66]; rfl), trivial⟩)
            intro a76 hS76
            refine wpList_nil (hK _ _ ?_)
            replace hS : Sl 46 _ [(0, .pointer (some ⟨b_p0, 0, none⟩)), (1, .int .i64 p1), (5, .int .i64 m0_0), (6, .int .i64 m0_1), (42, .bool t52)] := hS76.re ⟨rfl, rfl, rfl, rfl, rfl, trivial⟩
            clear hK K
            try clear hS28 hS29 hS30 hS31 hS32 hS35 hS36 hS37 hS38 hS39 hS40 hS76
            obtain ⟨a, ha⟩ : ∃ a', a' = a76 := ⟨_, rfl⟩
            rw [← ha] at hS ⊢; clear ha
            refine c_cond hS rfl (fun hb77 => ?_) (fun hb77 => ?_)
            · replace H := ite_t hb77 H
              refine c_pure1 [(0, .pointer (some ⟨b_p0, 0, none⟩)), (1, .int .i64 p1), (5, .int .i64 (wi (m0_0 - 1))), (6, .int .i64 m0_1)] (fun R hR => st_val hS rfl rfl rfl (r_move hS rfl rfl) fun a78 hS78 => st_val hS78 rfl rfl rfl (r_bin hS78 rfl rfl rfl b_sub) fun a79 hS79 => st_val hS79 rfl rfl rfl (r_assign hS79 rfl rfl) fun a80 hS80 => wpList_nil (hR _ (hS80.re ⟨rfl, rfl, rfl, rfl, trivial⟩))) ?_
              clear hS
              clear a
              intro a hS
              have e := Option.some.inj H
              subst e
              exact ⟨rfl, hS.re ⟨rfl, rfl, rfl, rfl, trivial⟩⟩
            · replace H := ite_f hb77 H
              refine wp_skip ?_
              have e := Option.some.inj H
              subst e
              exact ⟨rfl, hS.re ⟨rfl, rfl, rfl, rfl, trivial⟩⟩
          · clear H
            clear hS
            rintro a w' ⟨hw, hS⟩
            subst hw
            have H := Hl27
            clear Hl27
            refine c_pure1 [(0, .pointer (some ⟨b_p0, 0, none⟩)), (1, .int .i64 p1), (5, .int .i64 v25), (6, .int .i64 (wi (m0_1 + 1)))] (fun R hR => st_val hS rfl rfl rfl (r_move hS rfl rfl) fun a81 hS81 => st_val hS81 rfl rfl rfl (r_bin hS81 rfl rfl rfl b_add) fun a82 hS82 => st_val hS82 rfl rfl rfl (r_assign hS82 rfl rfl) fun a83 hS83 => wpList_nil (hR _ (hS83.re ⟨rfl, rfl, rfl, rfl, trivial⟩))) ?_
            clear hS
            clear a
            intro a hS
            refine ⟨k16, Nat.lt_succ_self _, ?_⟩
            exact ⟨v25, wi (m0_1 + 1), H, rfl, hS.re ⟨rfl, rfl, rfl, rfl, trivial⟩⟩
        · replace H := ite_f hb24 H
          refine wp_exit ?_
          have e := Option.some.inj H
          subst e
          exact ⟨rfl, hS.re ⟨rfl, trivial⟩⟩
  · clear H
    clear hS
    rintro a w' ⟨hw, hS⟩
    subst hw
    have H := Hl14
    clear Hl14
    refine c_pure [(4, .int .i64 v12)] (fun R hR => st_val hS rfl rfl rfl (r_move hS rfl rfl) fun a84 hS84 => st_val hS84 rfl rfl rfl (r_assign hS84 rfl rfl) fun a85 hS85 => wpList_nil (hR _ (hS85.re ⟨rfl, trivial⟩))) ?_
    clear hS
    clear a
    intro a hS
    refine wp_ret ?_
    have e := Option.some.inj H
    subst e
    repeat (with_reducible first | refine then_ret ?_ | refine inBlock_ret ?_)
    exact c_ret1 hS Try.results45 rfl ⟨_, rfl, g, rfl, hF⟩

/-! ### ref25_later: function 51 -/
def ref25_later.f (p0 : Int) (p1 : Int) : Option (Int) := if decide (p1 < p0) = true then (some p0) else (some p1)
set_option maxRecDepth 100000 in
set_option maxHeartbeats 4000000 in
theorem ref25_later.calls {p0 : Int} {p1 : Int} {w : World} {g : Nat → Nat} {out : Int} (N : Nat)  (H : ref25_later.f p0 p1 = some out) :
    Calls Try.prog 51 #[.int .u64 p0, .int .u64 p1] w (fun e w' => ∃ v, e = .returned v ∧ ∃ (g' : Nat → Nat), v = .int .u64 out ∧ Fr (fun q => N ≤ q) w g w' g') := by
  unfold ref25_later.f at H
  refine calls_enter Try.func51 rfl Try.ntmps51 rfl (fun a hS => ?_)
  replace hS : Sl 10 a [(0, .int .u64 p0), (1, .int .u64 p1)] := hS
  have hF : Fr (fun q => N ≤ q) w g w g := Fr.refl _ _ _
  refine c_pure [(0, .int .u64 p0), (1, .int .u64 p1)] (fun R hR => st_val hS rfl rfl rfl (r_assign hS rfl rfl) fun a1 hS1 => wpList_nil (hR _ (hS1.re ⟨rfl, rfl, trivial⟩))) ?_
  clear hS
  clear a
  intro a hS
  refine wp_seq ?_
  refine c_pure [(0, .int .u64 p0), (1, .int .u64 p1), (7, .bool (decide (p1 < p0)))] (fun R hR => st_val hS rfl rfl rfl (r_move hS rfl rfl) fun a2 hS2 => st_val hS2 rfl rfl rfl (r_move hS2 rfl rfl) fun a3 hS3 => st_val hS3 rfl rfl rfl (r_bin hS3 rfl rfl rfl b_gtr) fun a4 hS4 => wpList_nil (hR _ (hS4.re ⟨rfl, rfl, rfl, trivial⟩))) ?_
  clear hS
  clear a
  intro a hS
  refine c_cond hS rfl (fun hb5 => ?_) (fun hb5 => ?_)
  · replace H := ite_t hb5 H
    refine c_pure [(4, .int .u64 p0)] (fun R hR => st_val hS rfl rfl rfl (r_move hS rfl rfl) fun a6 hS6 => st_val hS6 rfl rfl rfl (r_assign hS6 rfl rfl) fun a7 hS7 => wpList_nil (hR _ (hS7.re ⟨rfl, trivial⟩))) ?_
    clear hS
    clear a
    intro a hS
    refine wp_ret ?_
    have e := Option.some.inj H
    subst e
    repeat (with_reducible first | refine then_ret ?_ | refine inBlock_ret ?_)
    exact c_ret1 hS Try.results51 rfl ⟨_, rfl, g, rfl, hF⟩
  · replace H := ite_f hb5 H
    refine wp_skip ?_
    change Code.wp _ _ _ _ _
    refine c_pure [(4, .int .u64 p1)] (fun R hR => st_val hS rfl rfl rfl (r_move hS rfl rfl) fun a8 hS8 => st_val hS8 rfl rfl rfl (r_assign hS8 rfl rfl) fun a9 hS9 => wpList_nil (hR _ (hS9.re ⟨rfl, trivial⟩))) ?_
    clear hS
    clear a
    intro a hS
    refine wp_ret ?_
    have e := Option.some.inj H
    subst e
    repeat (with_reducible first | refine then_ret ?_ | refine inBlock_ret ?_)
    exact c_ret1 hS Try.results51 rfl ⟨_, rfl, g, rfl, hF⟩

/-! ### ref25_Rails_drop: function 46 -/
def ref25_Rails_drop.l0 (p0 : ref25_Rails) (p2 : Int) : Nat → Int → Int → Option (Int)
  | 0, _, _ => none
  | k50 + 1, m0_0, m0_1 => if decide (m0_1 < (p0.R.length : Int)) = true then (((idx p0.R m0_1).bind fun x68 => if (x68.Supply == p2) = true then ((idx p0.Done m0_1).bind fun x82 => (ref25_later.f m0_0 x82).bind fun r86 => some r86) else (some m0_0) : Option (Int)).bind fun v60 => ref25_Rails_drop.l0 p0 p2 k50 v60 (wi (m0_1 + 1))) else (some m0_0)
def ref25_Rails_drop.r : Nat → ref25_Rails → (List api_RailOp) → Int → Int → Option (ref25_Rails × (List api_RailOp))
  | 0, _, _, _, _ => none
  | kr + 1, p0, p1, p2, p3 => (idx p0.N p2).bind fun x7 => (idx (upd p0.N p2 (wi (x7 - 1))) p2).bind fun x20 => if decide (0 < x20) = true then (some ((ref25_Rails.mk p0.R (upd p0.N p2 (wi (x7 - 1))) p0.Done p0.Clock), p1)) else ((idx p0.Done p2).bind fun x35 => (ref25_later.f p3 x35).bind fun r39 => (ref25_Rails_drop.l0 p0 p2 FUEL r39 0 : Option (Int)).bind fun v45 => (idx p0.R p2).bind fun x94 => (idx (upd p0.Done p2 (wu (v45 + x94.RampDown))) p2).bind fun x123 => (app p1 [(api_RailOp.mk p2 false v45 x123)]).bind fun y133 => (if decide (0 ≤ x94.Supply) = true then ((ref25_Rails_drop.r kr (ref25_Rails.mk p0.R (upd p0.N p2 (wi (x7 - 1))) (upd p0.Done p2 (wu (v45 + x94.RampDown))) p0.Clock) y133 x94.Supply p3).bind fun r165 => some (r165.2, r165.1)) else (some (y133, (ref25_Rails.mk p0.R (upd p0.N p2 (wi (x7 - 1))) (upd p0.Done p2 (wu (v45 + x94.RampDown))) p0.Clock))) : Option ((List api_RailOp) × ref25_Rails)).bind fun v146 => some (v146.2, v146.1))
def ref25_Rails_drop.f (p0 : ref25_Rails) (p1 : List api_RailOp) (p2 : Int) (p3 : Int) : Option (ref25_Rails × (List api_RailOp)) := ref25_Rails_drop.r FUEL p0 p1 p2 p3
set_option maxRecDepth 100000 in
set_option maxHeartbeats 4000000 in
theorem ref25_Rails_drop.calls_r : ∀ (kr : Nat) {p0 : ref25_Rails} {c0 : Nat}  {b_p0 : Nat} {A_R_p0 : Option Addr} {cap_R_p0 : Nat} {A_N_p0 : Option Addr} {cap_N_p0 : Nat} {A_Done_p0 : Option Addr} {cap_Done_p0 : Nat} {p1 : List api_RailOp} {A1 : Option Addr} {cap1 : Nat} {c1 : Nat} {p2 : Int} {p3 : Int} {w : World} {g : Nat → Nat} {out : ref25_Rails × (List api_RailOp)} (N : Nat) (r0 : Nat) (hp0 : ref25_Rails_At w g c0 b_p0 A_R_p0 cap_R_p0 A_N_p0 cap_N_p0 A_Done_p0 cap_Done_p0 p0) (hc0 : c0 + 7 ≤ N) (hp1 : OwS kd_api_RailOp 50 w g c1 A1 cap1 p1) (hc1 : c1 + 2 ≤ N) (ho1_0 : c1 + 2 ≤ c0 ∨ c0 + 7 ≤ c1) (hr0 : r0 + 2 ≤ N) (hv0_1 : r0 + 2 ≤ c1 ∨ c1 + 2 ≤ r0) (hq0_0 : r0 + 2 ≤ c0 ∨ c0 + 7 ≤ r0), ref25_Rails_drop.r kr p0 p1 p2 p3 = some out →
    Calls Try.prog 46 #[.pointer (some ⟨b_p0, 0, none⟩), .slice A1 p1.length cap1, .int .i64 p2, .int .u64 p3] w (fun e w' => ∃ v, e = .returned v ∧ ∃ (g' : Nat → Nat) (A_r0 : Option Addr) (cap_r0 : Nat), v = .slice A_r0 out.2.length cap_r0 ∧ ref25_Rails_At w' g' c0 b_p0 A_R_p0 cap_R_p0 A_N_p0 cap_N_p0 A_Done_p0 cap_Done_p0 out.1 ∧ OwS kd_api_RailOp 50 w' g' r0 A_r0 cap_r0 out.2 ∧ Fr (fun q => (c0 ≤ q ∧ q < c0 + 7) ∨ (c1 ≤ q ∧ q < c1 + 2) ∨ (r0 ≤ q ∧ q < r0 + 2) ∨ N ≤ q) w g w' g') := by
  intro kr
  induction kr with
  | zero => intros; rename_i H; exact absurd H (by simp [ref25_Rails_drop.r])
  | succ kr ih =>
    intro p0 c0 b_p0 A_R_p0 cap_R_p0 A_N_p0 cap_N_p0 A_Done_p0 cap_Done_p0 p1 A1 cap1 c1 p2 p3 w g out N r0 hp0 hc0 hp1 hc1 ho1_0 hr0 hv0_1 hq0_0 H
    rw [ref25_Rails_drop.r] at H
    refine calls_enter Try.func46 rfl Try.ntmps46 rfl (fun a hS => ?_)
    replace hS : Sl 112 a [(0, .pointer (some ⟨b_p0, 0, none⟩)), (1, .slice A1 p1.length cap1), (2, .int .i64 p2), (3, .int .u64 p3)] := hS
    have hF : Fr (fun q => (c0 ≤ q ∧ q < c0 + 7) ∨ (c1 ≤ q ∧ q < c1 + 2) ∨ (r0 ≤ q ∧ q < r0 + 2) ∨ N ≤ q) w g w g := Fr.refl _ _ _
    obtain ⟨hb0, hf0_R, hf0_N, hf0_Done⟩ := hp0
    refine c_pure [(0, .pointer (some ⟨b_p0, 0, none⟩)), (1, .slice A1 p1.length cap1), (2, .int .i64 p2), (3, .int .u64 p3)] (fun R hR => st_val hS rfl rfl rfl (r_assign hS rfl rfl) fun a1 hS1 => wpList_nil (hR _ (hS1.re ⟨rfl, rfl, rfl, rfl, trivial⟩))) ?_
    clear hS
    clear a
    intro a hS
    obtain ⟨x7, hx8, H⟩ := bind_el H
    refine c_region (fun K hK => ?_)
    refine st_val hS rfl rfl rfl (r_move hS rfl rfl) fun a2 hS2 => st_val hS2 rfl rfl rfl (r_nil hS2 rfl rfl) fun a3 hS3 => st_val hS3 rfl rfl rfl (r_fieldB (off := 1) hS3 rfl rfl (by kernel_rfl)) fun a4 hS4 => st_val hS4 rfl rfl rfl (r_load1 (n := 1) hS4 rfl rfl (by kernel_rfl) (Bx.cell hb0 rfl)) fun a5 hS5 => st_val hS5 rfl rfl rfl (r_move hS5 rfl rfl) fun a6 hS6 => st_val hS6 rfl rfl rfl (r_index (e := 3) (sz := 1) (by_ := 8) hS6 rfl rfl rfl (by kernel_rfl) (RdS.some_ (OwS.rd hf0_N) hx8) (idx_lo hx8) (idx_hi hx8)) fun a9 hS9 => st_val hS9 rfl rfl rfl (r_load1 (n := 1) hS9 rfl rfl (by kernel_rfl) (RdS.cell (i := p2) (sz := 1) (j := 0) (OwS.rd hf0_N) hx8 rfl)) fun a10 hS10 => st_val hS10 rfl rfl rfl (r_bin hS10 rfl rfl rfl b_sub) fun a11 hS11 => st_val hS11 rfl rfl rfl (r_index (e := 3) (sz := 1) (by_ := 8) hS11 rfl rfl rfl (by kernel_rfl) (RdS.some_ (OwS.rd hf0_N) hx8) (idx_lo hx8) (idx_hi hx8)) fun a12 hS12 => ?_
    refine st_effS hS12 rfl rfl (e_storeE (n := 1) (bb := false) (kd := (kint .i64)) (j := 0) (x' := wi (x7 - 1)) (us := [.int .i64 (wi (x7 - 1))]) g hS12 rfl rfl rfl rfl (by kernel_rfl) rfl rfl (by intro v hv; simp only [List.mem_cons, List.not_mem_nil, or_false] at hv; rcases hv with rfl <;> rfl) hf0_N hx8 rfl (fun _ _ cs hR => by rw [show cs = _ from hR]; rfl)) ?_
    rintro a13 w14 g14 ⟨hf0_N, F14⟩ hS13
    replace hb0 := hb0.fr F14 (fun (hm : c0 = c0 + 3) => by omega)
    replace hf0_Done := OwS.fr hf0_Done F14 (fun c' hc (hm : c' = c0 + 3) => by omega)
    replace hf0_R := OwS.fr hf0_R F14 (fun c' hc (hm : c' = c0 + 3) => by omega)
    replace hp1 := OwS.fr hp1 F14 (fun c' hc (hm : c' = c0 + 3) => by omega)
    replace hF := hF.trans F14 (fun c' (hm : c' = c0 + 3) => by show (c0 ≤ c' ∧ c' < c0 + 7) ∨ (c1 ≤ c' ∧ c' < c1 + 2) ∨ (r0 ≤ c' ∧ c' < r0 + 2) ∨ N ≤ c'; omega)
    replace hb0 : Bx w14 g14 (c0) b_p0 41 [.slice A_R_p0 p0.R.length cap_R_p0, .slice A_N_p0 (upd p0.N p2 (wi (x7 - 1))).length cap_N_p0, .slice A_Done_p0 p0.Done.length cap_Done_p0, .int .u64 p0.Clock] := by simpa only [upd_length] using hb0
    refine wpList_nil (hK _ _ ?_)
    replace hS : Sl 112 _ [(0, .pointer (some ⟨b_p0, 0, none⟩)), (1, .slice A1 p1.length cap1), (2, .int .i64 p2), (3, .int .u64 p3)] := hS13.re ⟨rfl, rfl, rfl, rfl, trivial⟩
    clear hK K
    try clear hS2 hS3 hS4 hS5 hS6 hS9 hS10 hS11 hS12 hS13
    obtain ⟨a, ha⟩ : ∃ a', a' = a13 := ⟨_, rfl⟩
    rw [← ha] at hS ⊢; clear ha
    refine wp_seq ?_
    obtain ⟨x20, hx21, H⟩ := bind_el H
    refine c_pure [(0, .pointer (some ⟨b_p0, 0, none⟩)), (1, .slice A1 p1.length cap1), (2, .int .i64 p2), (3, .int .u64 p3), (28, .bool (decide (0 < x20)))] (fun R hR => st_val hS rfl rfl rfl (r_move hS rfl rfl) fun a15 hS15 => st_val hS15 rfl rfl rfl (r_nil hS15 rfl rfl) fun a16 hS16 => st_val hS16 rfl rfl rfl (r_fieldB (off := 1) hS16 rfl rfl (by kernel_rfl)) fun a17 hS17 => st_val hS17 rfl rfl rfl (r_load1 (n := 1) hS17 rfl rfl (by kernel_rfl) (Bx.cell hb0 rfl)) fun a18 hS18 => st_val hS18 rfl rfl rfl (r_move hS18 rfl rfl) fun a19 hS19 => st_val hS19 rfl rfl rfl (r_index (e := 3) (sz := 1) (by_ := 8) hS19 rfl rfl rfl (by kernel_rfl) (RdS.some_ (OwS.rd hf0_N) hx21) (idx_lo hx21) (idx_hi hx21)) fun a22 hS22 => st_val hS22 rfl rfl rfl (r_load1 (n := 1) hS22 rfl rfl (by kernel_rfl) (RdS.cell (i := p2) (sz := 1) (j := 0) (OwS.rd hf0_N) hx21 rfl)) fun a23 hS23 => st_val hS23 rfl rfl rfl (r_bin hS23 rfl rfl rfl b_gtr) fun a24 hS24 => wpList_nil (hR _ (hS24.re ⟨rfl, rfl, rfl, rfl, rfl, trivial⟩))) ?_
    clear hS
    clear a
    intro a hS
    refine c_cond hS rfl (fun hb25 => ?_) (fun hb25 => ?_)
    · replace H := ite_t hb25 H
      refine c_pure [(8, .slice A1 p1.length cap1)] (fun R hR => st_val hS rfl rfl rfl (r_move hS rfl rfl) fun a26 hS26 => st_val hS26 rfl rfl rfl (r_assign hS26 rfl rfl) fun a27 hS27 => wpList_nil (hR _ (hS27.re ⟨rfl, trivial⟩))) ?_
      clear hS
      clear a
      intro a hS
      refine wp_ret ?_
      have e := Option.some.inj H
      subst e
      have F28 := Fr.recol2 w14 g14 (c1) r0
      replace hp1 := hp1.recol2 r0
      replace hb0 := hb0.fr F28 (fun (hm : c0 = c1 ∨ c0 = c1 + 1) => by omega)
      replace hf0_Done := OwS.fr hf0_Done F28 (fun c' hc (hm : c' = c1 ∨ c' = c1 + 1) => by omega)
      replace hf0_N := OwS.fr hf0_N F28 (fun c' hc (hm : c' = c1 ∨ c' = c1 + 1) => by omega)
      replace hf0_R := OwS.fr hf0_R F28 (fun c' hc (hm : c' = c1 ∨ c' = c1 + 1) => by omega)
      replace hF := hF.trans F28 (fun c' (hm : c' = c1 ∨ c' = c1 + 1) => by show (c0 ≤ c' ∧ c' < c0 + 7) ∨ (c1 ≤ c' ∧ c' < c1 + 2) ∨ (r0 ≤ c' ∧ c' < r0 + 2) ∨ N ≤ c'; omega)
      repeat (with_reducible first | refine then_ret ?_ | refine inBlock_ret ?_)
      exact c_ret1 hS Try.results46 rfl ⟨_, rfl, (recol2 g14 (c1) r0), A1, cap1, rfl, ⟨hb0, hf0_R, hf0_N, hf0_Done⟩, hp1, hF⟩
    · replace H := ite_f hb25 H
      refine wp_skip ?_
      change Code.wp _ _ _ _ _
      obtain ⟨x35, hx36, H⟩ := bind_el H
      obtain ⟨r39, hr40, H⟩ := bind_el H
      refine c_region (fun K hK => ?_)
      refine st_val hS rfl rfl rfl (r_move hS rfl rfl) fun a29 hS29 => st_val hS29 rfl rfl rfl (r_move hS29 rfl rfl) fun a30 hS30 => st_val hS30 rfl rfl rfl (r_nil hS30 rfl rfl) fun a31 hS31 => st_val hS31 rfl rfl rfl (r_fieldB (off := 2) hS31 rfl rfl (by kernel_rfl)) fun a32 hS32 => st_val hS32 rfl rfl rfl (r_load1 (n := 1) hS32 rfl rfl (by kernel_rfl) (Bx.cell hb0 rfl)) fun a33 hS33 => st_val hS33 rfl rfl rfl (r_move hS33 rfl rfl) fun a34 hS34 => st_val hS34 rfl rfl rfl (r_index (e := 33) (sz := 1) (by_ := 8) hS34 rfl rfl rfl (by kernel_rfl) (RdS.some_ (OwS.rd hf0_Done) hx36) (idx_lo hx36) (idx_hi hx36)) fun a37 hS37 => st_val hS37 rfl rfl rfl (r_load1 (n := 1) hS37 rfl rfl (by kernel_rfl) (RdS.cell (i := p2) (sz := 1) (j := 0) (OwS.rd hf0_Done) hx36 rfl)) fun a38 hS38 => ?_
      refine st_enter hS38 rfl rfl rfl (r_call hS38 rfl rfl (by kernel_rfl)) (ref25_later.calls (p0 := p3) (p1 := x35) (g := g14) (N + 6)   hr40) ?_
      rintro _ a41 w42 ⟨g42, rfl, F42⟩ hS41
      replace hb0 := hb0.fr F42 (fun (hm : N + 6 ≤ c0) => by omega)
      replace hf0_Done := OwS.fr hf0_Done F42 (fun c' hc (hm : N + 6 ≤ c') => by omega)
      replace hf0_N := OwS.fr hf0_N F42 (fun c' hc (hm : N + 6 ≤ c') => by omega)
      replace hf0_R := OwS.fr hf0_R F42 (fun c' hc (hm : N + 6 ≤ c') => by omega)
      replace hp1 := OwS.fr hp1 F42 (fun c' hc (hm : N + 6 ≤ c') => by omega)
      replace hF := hF.trans F42 (fun c' (hm : N + 6 ≤ c') => by show (c0 ≤ c' ∧ c' < c0 + 7) ∨ (c1 ≤ c' ∧ c' < c1 + 2) ∨ (r0 ≤ c' ∧ c' < r0 + 2) ∨ N ≤ c'; omega)
      refine st_val hS41 rfl rfl rfl (r_assign hS41 rfl rfl) fun a43 hS43 => wpList_nil (hK _ _ ?_)
      replace hS : Sl 112 _ [(0, .pointer (some ⟨b_p0, 0, none⟩)), (1, .slice A1 p1.length cap1), (2, .int .i64 p2), (3, .int .u64 p3), (9, .int .u64 r39)] := hS43.re ⟨rfl, rfl, rfl, rfl, rfl, trivial⟩
      clear hK K
      try clear hS29 hS30 hS31 hS32 hS33 hS34 hS37 hS38 hS41 hS43
      obtain ⟨a, ha⟩ : ∃ a', a' = a43 := ⟨_, rfl⟩
      rw [← ha] at hS ⊢; clear ha
      obtain ⟨v45, H, Hl47⟩ := bind_el H
      refine c_cut (fun a w44 => ∃ (g44 : Nat → Nat), Sl 112 a [(0, .pointer (some ⟨b_p0, 0, none⟩)), (1, .slice A1 p1.length cap1), (2, .int .i64 p2), (3, .int .u64 p3), (9, .int .u64 v45)] ∧ Bx w44 g44 (c0) b_p0 41 [.slice A_R_p0 p0.R.length cap_R_p0, .slice A_N_p0 (upd p0.N p2 (wi (x7 - 1))).length cap_N_p0, .slice A_Done_p0 p0.Done.length cap_Done_p0, .int .u64 p0.Clock] ∧ OwS (kint .u64) 33 w44 g44 (c0 + 5) A_Done_p0 cap_Done_p0 p0.Done ∧ OwS (kint .i64) 3 w44 g44 (c0 + 3) A_N_p0 cap_N_p0 (upd p0.N p2 (wi (x7 - 1))) ∧ OwS kd_api_Rail 35 w44 g44 (c0 + 1) A_R_p0 cap_R_p0 p0.R ∧ OwS kd_api_RailOp 50 w44 g44 (c1) A1 cap1 p1 ∧ Fr (fun q => (c0 ≤ q ∧ q < c0 + 7) ∨ (c1 ≤ q ∧ q < c1 + 2) ∨ (r0 ≤ q ∧ q < r0 + 2) ∨ N ≤ q) w g w44 g44) ?_ ?_
      · refine c_pure [(0, .pointer (some ⟨b_p0, 0, none⟩)), (1, .slice A1 p1.length cap1), (2, .int .i64 p2), (3, .int .u64 p3), (9, .int .u64 r39), (10, .int .i64 0)] (fun R hR => st_val hS rfl rfl rfl (r_assign hS rfl rfl) fun a48 hS48 => wpList_nil (hR _ (hS48.re ⟨rfl, rfl, rfl, rfl, rfl, rfl, trivial⟩))) ?_
        clear hS
        clear a
        intro a hS
        refine wp_block ?_
        refine wp_loop_ghost (fun kq => fun a w49 => ∃ (m0_0 : Int), ∃ (m0_1 : Int), ∃ (g49 : Nat → Nat), ref25_Rails_drop.l0 p0 p2 kq m0_0 m0_1 = some v45 ∧ Sl 112 a [(0, .pointer (some ⟨b_p0, 0, none⟩)), (1, .slice A1 p1.length cap1), (2, .int .i64 p2), (3, .int .u64 p3), (9, .int .u64 m0_0), (10, .int .i64 m0_1)] ∧ Bx w49 g49 (c0) b_p0 41 [.slice A_R_p0 p0.R.length cap_R_p0, .slice A_N_p0 (upd p0.N p2 (wi (x7 - 1))).length cap_N_p0, .slice A_Done_p0 p0.Done.length cap_Done_p0, .int .u64 p0.Clock] ∧ OwS (kint .u64) 33 w49 g49 (c0 + 5) A_Done_p0 cap_Done_p0 p0.Done ∧ OwS (kint .i64) 3 w49 g49 (c0 + 3) A_N_p0 cap_N_p0 (upd p0.N p2 (wi (x7 - 1))) ∧ OwS kd_api_Rail 35 w49 g49 (c0 + 1) A_R_p0 cap_R_p0 p0.R ∧ OwS kd_api_RailOp 50 w49 g49 (c1) A1 cap1 p1 ∧ Fr (fun q => (c0 ≤ q ∧ q < c0 + 7) ∨ (c1 ≤ q ∧ q < c1 + 2) ∨ (r0 ≤ q ∧ q < r0 + 2) ∨ N ≤ q) w g w49 g49) FUEL ?_ ?_
        · exact ⟨r39, 0, g42, H, hS.re ⟨rfl, rfl, rfl, rfl, rfl, rfl, trivial⟩, hb0, hf0_Done, hf0_N, hf0_R, hp1, hF⟩
        · clear H
          clear hf0_R hf0_N hf0_Done hb0 hp1 hF
          clear hS
          rintro k50 a w49 ⟨m0_0, m0_1, g49, hpre0, hS, hb0, hf0_Done, hf0_N, hf0_R, hp1, hF⟩
          have H := hpre0
          clear hpre0
          cases k50 with
          | zero => exact absurd H (by simp [ref25_Rails_drop.l0])
          | succ k50 =>
            rw [ref25_Rails_drop.l0] at H
            refine wp_seq ?_
            refine c_pure [(0, .pointer (some ⟨b_p0, 0, none⟩)), (1, .slice A1 p1.length cap1), (2, .int .i64 p2), (3, .int .u64 p3), (9, .int .u64 m0_0), (10, .int .i64 m0_1), (45, .bool (decide (m0_1 < (p0.R.length : Int))))] (fun R hR => st_val hS rfl rfl rfl (r_move hS rfl rfl) fun a51 hS51 => st_val hS51 rfl rfl rfl (r_move hS51 rfl rfl) fun a52 hS52 => st_val hS52 rfl rfl rfl (r_nil hS52 rfl rfl) fun a53 hS53 => st_val hS53 rfl rfl rfl (r_fieldB (off := 0) hS53 rfl rfl (by kernel_rfl)) fun a54 hS54 => st_val hS54 rfl rfl rfl (r_load1 (n := 1) hS54 rfl rfl (by kernel_rfl) (Bx.cell hb0 rfl)) fun a55 hS55 => st_val hS55 rfl rfl rfl (r_len (e := 35) (sz := 3) (by_ := 24) hS55 rfl rfl (by kernel_rfl)) fun a56 hS56 => st_val hS56 rfl rfl rfl (r_bin hS56 rfl rfl rfl b_lss) fun a57 hS57 => wpList_nil (hR _ (hS57.re ⟨rfl, rfl, rfl, rfl, rfl, rfl, rfl, trivial⟩))) ?_
            clear hS
            clear a
            intro a hS
            refine c_cond hS rfl (fun hb58 => ?_) (fun hb58 => ?_)
            · replace H := ite_t hb58 H
              refine wp_skip ?_
              change Code.wp _ _ _ _ _
              obtain ⟨v60, H, Hl62⟩ := bind_el H
              refine c_cut (fun a w59 => ∃ (g59 : Nat → Nat), Sl 112 a [(0, .pointer (some ⟨b_p0, 0, none⟩)), (1, .slice A1 p1.length cap1), (2, .int .i64 p2), (3, .int .u64 p3), (9, .int .u64 v60), (10, .int .i64 m0_1)] ∧ Bx w59 g59 (c0) b_p0 41 [.slice A_R_p0 p0.R.length cap_R_p0, .slice A_N_p0 (upd p0.N p2 (wi (x7 - 1))).length cap_N_p0, .slice A_Done_p0 p0.Done.length cap_Done_p0, .int .u64 p0.Clock] ∧ OwS (kint .u64) 33 w59 g59 (c0 + 5) A_Done_p0 cap_Done_p0 p0.Done ∧ OwS (kint .i64) 3 w59 g59 (c0 + 3) A_N_p0 cap_N_p0 (upd p0.N p2 (wi (x7 - 1))) ∧ OwS kd_api_Rail 35 w59 g59 (c0 + 1) A_R_p0 cap_R_p0 p0.R ∧ OwS kd_api_RailOp 50 w59 g59 (c1) A1 cap1 p1 ∧ Fr (fun q => (c0 ≤ q ∧ q < c0 + 7) ∨ (c1 ≤ q ∧ q < c1 + 2) ∨ (r0 ≤ q ∧ q < r0 + 2) ∨ N ≤ q) w g w59 g59) ?_ ?_
              · refine wp_block ?_
                obtain ⟨x68, hx69, H⟩ := bind_el H
                refine c_pure [(0, .pointer (some ⟨b_p0, 0, none⟩)), (1, .slice A1 p1.length cap1), (2, .int .i64 p2), (3, .int .u64 p3), (9, .int .u64 m0_0), (10, .int .i64 m0_1), (57, .bool (x68.Supply == p2))] (fun R hR => st_val hS rfl rfl rfl (r_move hS rfl rfl) fun a63 hS63 => st_val hS63 rfl rfl rfl (r_nil hS63 rfl rfl) fun a64 hS64 => st_val hS64 rfl rfl rfl (r_fieldB (off := 0) hS64 rfl rfl (by kernel_rfl)) fun a65 hS65 => st_val hS65 rfl rfl rfl (r_load1 (n := 1) hS65 rfl rfl (by kernel_rfl) (Bx.cell hb0 rfl)) fun a66 hS66 => st_val hS66 rfl rfl rfl (r_move hS66 rfl rfl) fun a67 hS67 => st_val hS67 rfl rfl rfl (r_index (e := 35) (sz := 3) (by_ := 24) hS67 rfl rfl rfl (by kernel_rfl) (RdS.some_ (OwS.rd hf0_R) hx69) (idx_lo hx69) (idx_hi hx69)) fun a70 hS70 => st_val hS70 rfl rfl rfl (r_fieldE (off := 0) hS70 rfl rfl (by kernel_rfl)) fun a71 hS71 => st_val hS71 rfl rfl rfl (r_load1 (n := 1) hS71 rfl rfl (by kernel_rfl) (RdS.cell (i := m0_1) (sz := 3) (j := 0) (OwS.rd hf0_R) hx69 rfl)) fun a72 hS72 => st_val hS72 rfl rfl rfl (r_move hS72 rfl rfl) fun a73 hS73 => st_val hS73 rfl rfl rfl (r_bin hS73 rfl rfl rfl b_eql) fun a74 hS74 => wpList_nil (hR _ (hS74.re ⟨rfl, rfl, rfl, rfl, rfl, rfl, rfl, trivial⟩))) ?_
                clear hS
                clear a
                intro a hS
                refine c_cond hS rfl (fun hb75 => ?_) (fun hb75 => ?_)
                · replace H := ite_t hb75 H
                  obtain ⟨x82, hx83, H⟩ := bind_el H
                  obtain ⟨r86, hr87, H⟩ := bind_el H
                  refine c_region1 (fun K hK => ?_)
                  refine st_val hS rfl rfl rfl (r_move hS rfl rfl) fun a76 hS76 => st_val hS76 rfl rfl rfl (r_move hS76 rfl rfl) fun a77 hS77 => st_val hS77 rfl rfl rfl (r_nil hS77 rfl rfl) fun a78 hS78 => st_val hS78 rfl rfl rfl (r_fieldB (off := 2) hS78 rfl rfl (by kernel_rfl)) fun a79 hS79 => st_val hS79 rfl rfl rfl (r_load1 (n := 1) hS79 rfl rfl (by kernel_rfl) (Bx.cell hb0 rfl)) fun a80 hS80 => st_val hS80 rfl rfl rfl (r_move hS80 rfl rfl) fun a81 hS81 => st_val hS81 rfl rfl rfl (r_index (e := 33) (sz := 1) (by_ := 8) hS81 rfl rfl rfl (by kernel_rfl) (RdS.some_ (OwS.rd hf0_Done) hx83) (idx_lo hx83) (idx_hi hx83)) fun a84 hS84 => st_val hS84 rfl rfl rfl (r_load1 (n := 1) hS84 rfl rfl (by kernel_rfl) (RdS.cell (i := m0_1) (sz := 1) (j := 0) (OwS.rd hf0_Done) hx83 rfl)) fun a85 hS85 => ?_
                  refine st_enter hS85 rfl rfl rfl (r_call hS85 rfl rfl (by kernel_rfl)) (ref25_later.calls (p0 := m0_0) (p1 := x82) (g := g49) (N + 6)   hr87) ?_
                  rintro _ a88 w89 ⟨g89, rfl, F89⟩ hS88
                  replace hb0 := hb0.fr F89 (fun (hm : N + 6 ≤ c0) => by omega)
                  replace hf0_Done := OwS.fr hf0_Done F89 (fun c' hc (hm : N + 6 ≤ c') => by omega)
                  replace hf0_N := OwS.fr hf0_N F89 (fun c' hc (hm : N + 6 ≤ c') => by omega)
                  replace hf0_R := OwS.fr hf0_R F89 (fun c' hc (hm : N + 6 ≤ c') => by omega)
                  replace hp1 := OwS.fr hp1 F89 (fun c' hc (hm : N + 6 ≤ c') => by omega)
                  replace hF := hF.trans F89 (fun c' (hm : N + 6 ≤ c') => by show (c0 ≤ c' ∧ c' < c0 + 7) ∨ (c1 ≤ c' ∧ c' < c1 + 2) ∨ (r0 ≤ c' ∧ c' < r0 + 2) ∨ N ≤ c'; omega)
                  refine st_val hS88 rfl rfl rfl (r_assign hS88 rfl rfl) fun a90 hS90 => wpList_nil (hK _ _ ?_)
                  replace hS : Sl 112 _ [(0, .pointer (some ⟨b_p0, 0, none⟩)), (1, .slice A1 p1.length cap1), (2, .int .i64 p2), (3, .int .u64 p3), (9, .int .u64 r86), (10, .int .i64 m0_1)] := hS90.re ⟨rfl, rfl, rfl, rfl, rfl, rfl, trivial⟩
                  clear hK K
                  try clear hS76 hS77 hS78 hS79 hS80 hS81 hS84 hS85 hS88 hS90
                  obtain ⟨a, ha⟩ : ∃ a', a' = a90 := ⟨_, rfl⟩
                  rw [← ha] at hS ⊢; clear ha
                  have e := Option.some.inj H
                  subst e
                  exact ⟨g89, hS.re ⟨rfl, rfl, rfl, rfl, rfl, rfl, trivial⟩, hb0, hf0_Done, hf0_N, hf0_R, hp1, hF⟩
                · replace H := ite_f hb75 H
                  refine wp_skip ?_
                  have e := Option.some.inj H
                  subst e
                  exact ⟨g49, hS.re ⟨rfl, rfl, rfl, rfl, rfl, rfl, trivial⟩, hb0, hf0_Done, hf0_N, hf0_R, hp1, hF⟩
              · clear H
                clear hf0_R hf0_N hf0_Done hb0 hp1 hF
                clear hS
                rintro a w59 ⟨g59, hS, hb0, hf0_Done, hf0_N, hf0_R, hp1, hF⟩
                have H := Hl62
                clear Hl62
                refine c_pure1 [(0, .pointer (some ⟨b_p0, 0, none⟩)), (1, .slice A1 p1.length cap1), (2, .int .i64 p2), (3, .int .u64 p3), (9, .int .u64 v60), (10, .int .i64 (wi (m0_1 + 1)))] (fun R hR => st_val hS rfl rfl rfl (r_move hS rfl rfl) fun a91 hS91 => st_val hS91 rfl rfl rfl (r_bin hS91 rfl rfl rfl b_add) fun a92 hS92 => st_val hS92 rfl rfl rfl (r_assign hS92 rfl rfl) fun a93 hS93 => wpList_nil (hR _ (hS93.re ⟨rfl, rfl, rfl, rfl, rfl, rfl, trivial⟩))) ?_
                clear hS
                clear a
                intro a hS
                refine ⟨k50, Nat.lt_succ_self _, ?_⟩
                exact ⟨v60, wi (m0_1 + 1), g59, H, hS.re ⟨rfl, rfl, rfl, rfl, rfl, rfl, trivial⟩, hb0, hf0_Done, hf0_N, hf0_R, hp1, hF⟩
            · replace H := ite_f hb58 H
              refine wp_exit ?_
              have e := Option.some.inj H
              subst e
              exact ⟨g49, hS.re ⟨rfl, rfl, rfl, rfl, rfl, trivial⟩, hb0, hf0_Done, hf0_N, hf0_R, hp1, hF⟩
      · clear H
        clear hf0_R hf0_N hf0_Done hb0 hp1 hF
        clear hS
        rintro a w44 ⟨g44, hS, hb0, hf0_Done, hf0_N, hf0_R, hp1, hF⟩
        have H := Hl47
        clear Hl47
        obtain ⟨x94, hx95, H⟩ := bind_el H
        refine c_draw (fun K hK => d_start (fun q => False) g44 [16] 17 #[false, false, false, false, false, false, false, false, false, false, false, false, false, false, false, false, false] (by kernel_rfl) rfl rfl (fun w96 hw96 => ?_))
        have F96 : Fr (fun _ => False) w44 g44 w96 g44 := by rw [hw96]; exact Fr.drew _ _ _
        replace hb0 := hb0.fr F96 (fun h => h)
        replace hf0_Done := OwS.fr hf0_Done F96 (fun _ _ h => h)
        replace hf0_N := OwS.fr hf0_N F96 (fun _ _ h => h)
        replace hf0_R := OwS.fr hf0_R F96 (fun _ _ h => h)
        replace hp1 := OwS.fr hp1 F96 (fun _ _ h => h)
        replace hF := hF.trans F96 (fun _ h => h.elim)
        have hC : Fr (fun q => False) w96 g44 w96 g44 := Fr.refl _ _ _
        refine d_pure hS 0 #[true, false, false, false, false, false, false, false, false, false, false, false, false, false, false, false, false] rfl rfl rfl rfl (by kernel_rfl) (fun _ _ _ h => h) (fun _ => (r_move hS rfl rfl)) fun a97 hS97 => d_pure hS97 1 #[true, true, false, false, false, false, false, false, false, false, false, false, false, false, false, false, false] rfl rfl rfl rfl (by kernel_rfl) (fun _ _ _ h => h) (fun _ => (r_nil hS97 rfl rfl)) fun a98 hS98 => d_pure hS98 2 #[true, true, true, false, false, false, false, false, false, false, false, false, false, false, false, false, false] rfl rfl rfl rfl (by kernel_rfl) (fun _ _ _ h => h) (fun _ => (r_fieldB (off := 2) hS98 rfl rfl (by kernel_rfl))) fun a99 hS99 => d_take hS99 3 #[true, true, true, true, false, false, false, false, false, false, false, false, false, false, false, false, false] rfl rfl rfl rfl (by kernel_rfl) (fun _ _ _ h => h) ⟨_, hC⟩ (fun w' g' Fz => (r_load1 (n := 1) hS99 rfl rfl (by kernel_rfl) (Bx.cell (hb0.fr Fz (fun h => h)) rfl))) fun a100 hS100 => d_pure hS100 4 #[true, true, true, true, true, false, false, false, false, false, false, false, false, false, false, false, false] rfl rfl rfl rfl (by kernel_rfl) (fun _ _ _ h => h) (fun _ => (r_move hS100 rfl rfl)) fun a101 hS101 => d_pure hS101 5 #[true, true, true, true, true, true, false, false, false, false, false, false, false, false, false, false, false] rfl rfl rfl rfl (by kernel_rfl) (fun _ _ _ h => h) (fun _ => (r_move hS101 rfl rfl)) fun a102 hS102 => d_pure hS102 6 #[true, true, true, true, true, true, true, false, false, false, false, false, false, false, false, false, false] rfl rfl rfl rfl (by kernel_rfl) (fun _ _ _ h => h) (fun _ => (r_move hS102 rfl rfl)) fun a103 hS103 => d_pure hS103 7 #[true, true, true, true, true, true, true, true, false, false, false, false, false, false, false, false, false] rfl rfl rfl rfl (by kernel_rfl) (fun _ _ _ h => h) (fun _ => (r_nil hS103 rfl rfl)) fun a104 hS104 => d_pure hS104 8 #[true, true, true, true, true, true, true, true, true, false, false, false, false, false, false, false, false] rfl rfl rfl rfl (by kernel_rfl) (fun _ _ _ h => h) (fun _ => (r_fieldB (off := 0) hS104 rfl rfl (by kernel_rfl))) fun a105 hS105 => d_take hS105 9 #[true, true, true, true, true, true, true, true, true, true, false, false, false, false, false, false, false] rfl rfl rfl rfl (by kernel_rfl) (fun _ _ _ h => h) ⟨_, hC⟩ (fun w' g' Fz => (r_load1 (n := 1) hS105 rfl rfl (by kernel_rfl) (Bx.cell (hb0.fr Fz (fun h => h)) rfl))) fun a106 hS106 => d_pure hS106 10 #[true, true, true, true, true, true, true, true, true, true, true, false, false, false, false, false, false] rfl rfl rfl rfl (by kernel_rfl) (fun _ _ _ h => h) (fun _ => (r_move hS106 rfl rfl)) fun a107 hS107 => d_pure hS107 11 #[true, true, true, true, true, true, true, true, true, true, true, true, false, false, false, false, false] rfl rfl rfl rfl (by kernel_rfl) (fun _ _ _ h => h) (fun _ => (r_index (e := 35) (sz := 3) (by_ := 24) hS107 rfl rfl rfl (by kernel_rfl) (RdS.some_ (OwS.rd hf0_R) hx95) (idx_lo hx95) (idx_hi hx95))) fun a108 hS108 => d_pure hS108 12 #[true, true, true, true, true, true, true, true, true, true, true, true, true, false, false, false, false] rfl rfl rfl rfl (by kernel_rfl) (fun _ _ _ h => h) (fun _ => (r_fieldE (off := 2) hS108 rfl rfl (by kernel_rfl))) fun a109 hS109 => d_take hS109 13 #[true, true, true, true, true, true, true, true, true, true, true, true, true, true, false, false, false] rfl rfl rfl rfl (by kernel_rfl) (fun _ _ _ h => h) ⟨_, hC⟩ (fun w' g' Fz => (r_load1 (n := 1) hS109 rfl rfl (by kernel_rfl) (RdS.cell (i := p2) (sz := 3) (j := 2) (OwS.rd (OwS.fr hf0_R Fz (fun _ _ h => h))) hx95 rfl))) fun a110 hS110 => d_pure hS110 14 #[true, true, true, true, true, true, true, true, true, true, true, true, true, true, true, false, false] rfl rfl rfl rfl (by kernel_rfl) (fun _ _ _ h => h) (fun _ => (r_bin hS110 rfl rfl rfl b_add)) fun a111 hS111 => d_pure hS111 15 #[true, true, true, true, true, true, true, true, true, true, true, true, true, true, true, true, false] rfl rfl rfl rfl (by kernel_rfl) (fun _ _ _ h => h) (fun _ => (r_index (e := 33) (sz := 1) (by_ := 8) hS111 rfl rfl rfl (by kernel_rfl) (RdS.some_ (OwS.rd hf0_Done) hx36) (idx_lo hx36) (idx_hi hx36))) fun a112 hS112 => ?_
        refine d_one 16 #[true, true, true, true, true, true, true, true, true, true, true, true, true, true, true, true, true] rfl (by kernel_rfl) (arm_effS hS112 rfl rfl (e_storeE (n := 1) (bb := false) (kd := (kint .u64)) (j := 0) (x' := wu (v45 + x94.RampDown)) (us := [.int .u64 (wu (v45 + x94.RampDown))]) g44 hS112 rfl rfl rfl rfl (by kernel_rfl) rfl rfl (by intro v hv; simp only [List.mem_cons, List.not_mem_nil, or_false] at hv; rcases hv with rfl <;> rfl) hf0_Done hx36 rfl (fun _ _ cs hR => by rw [show cs = _ from hR]; rfl)) (.inl (by decide)) ?_)
        rintro a113 w114 g114 ⟨hf0_Done, F114⟩ hS113
        replace hb0 := hb0.fr F114 (fun (hm : c0 = c0 + 5) => by omega)
        replace hf0_N := OwS.fr hf0_N F114 (fun c' hc (hm : c' = c0 + 5) => by omega)
        replace hf0_R := OwS.fr hf0_R F114 (fun c' hc (hm : c' = c0 + 5) => by omega)
        replace hp1 := OwS.fr hp1 F114 (fun c' hc (hm : c' = c0 + 5) => by omega)
        replace hF := hF.trans F114 (fun c' (hm : c' = c0 + 5) => by show (c0 ≤ c' ∧ c' < c0 + 7) ∨ (c1 ≤ c' ∧ c' < c1 + 2) ∨ (r0 ≤ c' ∧ c' < r0 + 2) ∨ N ≤ c'; omega)
        replace hb0 : Bx w114 g114 (c0) b_p0 41 [.slice A_R_p0 p0.R.length cap_R_p0, .slice A_N_p0 (upd p0.N p2 (wi (x7 - 1))).length cap_N_p0, .slice A_Done_p0 (upd p0.Done p2 (wu (v45 + x94.RampDown))).length cap_Done_p0, .int .u64 p0.Clock] := by simpa only [upd_length] using hb0
        refine d_done (by kernel_rfl) (hK _ _ ?_)
        replace hS : Sl 112 _ [(0, .pointer (some ⟨b_p0, 0, none⟩)), (1, .slice A1 p1.length cap1), (2, .int .i64 p2), (3, .int .u64 p3), (9, .int .u64 v45)] := hS113.re ⟨rfl, rfl, rfl, rfl, rfl, trivial⟩
        clear hK K hC
        try clear hS97 hS98 hS99 hS100 hS101 hS102 hS103 hS104 hS105 hS106 hS107 hS108 hS109 hS110 hS111 hS112 hS113
        obtain ⟨a, ha⟩ : ∃ a', a' = a113 := ⟨_, rfl⟩
        rw [← ha] at hS ⊢; clear ha
        obtain ⟨x123, hx124, H⟩ := bind_el H
        obtain ⟨y133, hy134, H⟩ := bind_el H
        refine c_region (fun K hK => ?_)
        refine st_val hS rfl rfl rfl (r_move hS rfl rfl) fun a115 hS115 => st_val hS115 rfl rfl rfl (r_move hS115 rfl rfl) fun a116 hS116 => st_val hS116 rfl rfl rfl (r_move hS116 rfl rfl) fun a117 hS117 => st_val hS117 rfl rfl rfl (r_move hS117 rfl rfl) fun a118 hS118 => st_val hS118 rfl rfl rfl (r_nil hS118 rfl rfl) fun a119 hS119 => st_val hS119 rfl rfl rfl (r_fieldB (off := 2) hS119 rfl rfl (by kernel_rfl)) fun a120 hS120 => st_val hS120 rfl rfl rfl (r_load1 (n := 1) hS120 rfl rfl (by kernel_rfl) (Bx.cell hb0 rfl)) fun a121 hS121 => st_val hS121 rfl rfl rfl (r_move hS121 rfl rfl) fun a122 hS122 => st_val hS122 rfl rfl rfl (r_index (e := 33) (sz := 1) (by_ := 8) hS122 rfl rfl rfl (by kernel_rfl) (RdS.some_ (OwS.rd hf0_Done) hx124) (idx_lo hx124) (idx_hi hx124)) fun a125 hS125 => st_val hS125 rfl rfl rfl (r_load1 (n := 1) hS125 rfl rfl (by kernel_rfl) (RdS.cell (i := p2) (sz := 1) (j := 0) (OwS.rd hf0_Done) hx124 rfl)) fun a126 hS126 => st_val hS126 rfl rfl rfl (r_build (parts := [(0, .int .i64 p2), (2, .int .u64 v45), (3, .int .u64 x123)]) (u := .agg #[.int .i64 p2, .bool false, .int .u64 v45, .int .u64 x123]) hS126 rfl rfl (fun _ => by kernel_rfl)) fun a127 hS127 => ?_
        refine st_eff hS127 rfl rfl rfl (e_lit (e := 50) (parts := [(0, .agg #[.int .i64 p2, .bool false, .int .u64 v45, .int .u64 x123])]) (cs := [.int .i64 p2, .bool false, .int .u64 v45, .int .u64 x123]) kd_api_RailOp [(api_RailOp.mk p2 false v45 x123)] (N + 0) g114 hS127 rfl rfl (fun _ => by kernel_rfl) rfl (by decide) (Rows.cons (cs := [.int .i64 p2, .bool false, .int .u64 v45, .int .u64 x123]) rfl Rows.nil)) ?_
        rintro _ a131 w132 g132 ⟨⟨A128, rfl, h129⟩, F132⟩ hS131
        replace hb0 := hb0.fr F132 (fun h => h)
        replace hf0_Done := OwS.fr hf0_Done F132 (fun _ _ h => h)
        replace hf0_N := OwS.fr hf0_N F132 (fun _ _ h => h)
        replace hf0_R := OwS.fr hf0_R F132 (fun _ _ h => h)
        replace hp1 := OwS.fr hp1 F132 (fun _ _ h => h)
        replace hF := hF.trans F132 (fun _ h => h.elim)
        refine st_eff hS131 rfl rfl rfl (e_append (e := 50) (sz := 4) (by_ := 32) (z := [.int .i64 0, .bool false, .int .u64 0, .int .u64 0]) (kd := kd_api_RailOp) g132 hS131 rfl rfl rfl rfl (by kernel_rfl) (by kernel_rfl) rfl rfl rfl rfl hp1 (OwD.rdx h129) (fun _ _ _ h => h) hy134) ?_
        rintro _ a139 w140 g140 ⟨⟨A135, cap136, rfl, h137⟩, F140⟩ hS139
        replace h129 := OwS.fr h129 F140 (fun c' hc (hm : c' = c1) => by omega)
        replace hb0 := hb0.fr F140 (fun (hm : c0 = c1) => by omega)
        replace hf0_Done := OwS.fr hf0_Done F140 (fun c' hc (hm : c' = c1) => by omega)
        replace hf0_N := OwS.fr hf0_N F140 (fun c' hc (hm : c' = c1) => by omega)
        replace hf0_R := OwS.fr hf0_R F140 (fun c' hc (hm : c' = c1) => by omega)
        replace hF := hF.trans F140 (fun c' (hm : c' = c1) => by show (c0 ≤ c' ∧ c' < c0 + 7) ∨ (c1 ≤ c' ∧ c' < c1 + 2) ∨ (r0 ≤ c' ∧ c' < r0 + 2) ∨ N ≤ c'; omega)
        refine st_val hS139 rfl rfl rfl (r_assign hS139 rfl rfl) fun a141 hS141 => wpList_nil (hK _ _ ?_)
        replace hS : Sl 112 _ [(0, .pointer (some ⟨b_p0, 0, none⟩)), (1, .slice A135 y133.length cap136), (2, .int .i64 p2), (3, .int .u64 p3)] := hS141.re ⟨rfl, rfl, rfl, rfl, trivial⟩
        clear hK K
        try clear hS115 hS116 hS117 hS118 hS119 hS120 hS121 hS122 hS125 hS126 hS127 hS131 hS139 hS141
        obtain ⟨a, ha⟩ : ∃ a', a' = a141 := ⟨_, rfl⟩
        rw [← ha] at hS ⊢; clear ha
        obtain ⟨v146, H, Hl148⟩ := bind_el H
        refine c_cut (fun a w142 => ∃ (g142 : Nat → Nat), ∃ (A143 : Option Addr), ∃ (cap144 : Nat), Sl 112 a [(1, .slice A143 v146.1.length cap144)] ∧ OwS kd_api_RailOp 50 w142 g142 (N + 4) A143 cap144 v146.1 ∧ Bx w142 g142 (c0) b_p0 41 [.slice A_R_p0 v146.2.R.length cap_R_p0, .slice A_N_p0 v146.2.N.length cap_N_p0, .slice A_Done_p0 v146.2.Done.length cap_Done_p0, .int .u64 v146.2.Clock] ∧ OwS (kint .u64) 33 w142 g142 (c0 + 5) A_Done_p0 cap_Done_p0 v146.2.Done ∧ OwS (kint .i64) 3 w142 g142 (c0 + 3) A_N_p0 cap_N_p0 v146.2.N ∧ OwS kd_api_Rail 35 w142 g142 (c0 + 1) A_R_p0 cap_R_p0 v146.2.R ∧ Fr (fun q => (c0 ≤ q ∧ q < c0 + 7) ∨ (c1 ≤ q ∧ q < c1 + 2) ∨ (r0 ≤ q ∧ q < r0 + 2) ∨ N ≤ q) w g w142 g142) ?_ ?_
        · refine c_pure [(0, .pointer (some ⟨b_p0, 0, none⟩)), (1, .slice A135 y133.length cap136), (3, .int .u64 p3), (11, .int .i64 x94.Supply)] (fun R hR => st_val hS rfl rfl rfl (r_move hS rfl rfl) fun a149 hS149 => st_val hS149 rfl rfl rfl (r_nil hS149 rfl rfl) fun a150 hS150 => st_val hS150 rfl rfl rfl (r_fieldB (off := 0) hS150 rfl rfl (by kernel_rfl)) fun a151 hS151 => st_val hS151 rfl rfl rfl (r_load1 (n := 1) hS151 rfl rfl (by kernel_rfl) (Bx.cell hb0 rfl)) fun a152 hS152 => st_val hS152 rfl rfl rfl (r_move hS152 rfl rfl) fun a153 hS153 => st_val hS153 rfl rfl rfl (r_index (e := 35) (sz := 3) (by_ := 24) hS153 rfl rfl rfl (by kernel_rfl) (RdS.some_ (OwS.rd hf0_R) hx95) (idx_lo hx95) (idx_hi hx95)) fun a154 hS154 => st_val hS154 rfl rfl rfl (r_fieldE (off := 0) hS154 rfl rfl (by kernel_rfl)) fun a155 hS155 => st_val hS155 rfl rfl rfl (r_load1 (n := 1) hS155 rfl rfl (by kernel_rfl) (RdS.cell (i := p2) (sz := 3) (j := 0) (OwS.rd hf0_R) hx95 rfl)) fun a156 hS156 => st_val hS156 rfl rfl rfl (r_assign hS156 rfl rfl) fun a157 hS157 => wpList_nil (hR _ (hS157.re ⟨rfl, rfl, rfl, rfl, trivial⟩))) ?_
          clear hS
          clear a
          intro a hS
          refine c_pure [(0, .pointer (some ⟨b_p0, 0, none⟩)), (1, .slice A135 y133.length cap136), (3, .int .u64 p3), (11, .int .i64 x94.Supply), (105, .bool (decide (0 ≤ x94.Supply)))] (fun R hR => st_val hS rfl rfl rfl (r_move hS rfl rfl) fun a158 hS158 => st_val hS158 rfl rfl rfl (r_bin hS158 rfl rfl rfl b_geq) fun a159 hS159 => wpList_nil (hR _ (hS159.re ⟨rfl, rfl, rfl, rfl, rfl, trivial⟩))) ?_
          clear hS
          clear a
          intro a hS
          refine c_cond hS rfl (fun hb160 => ?_) (fun hb160 => ?_)
          · replace H := ite_t hb160 H
            obtain ⟨r165, hr166, H⟩ := bind_el H
            refine c_region1 (fun K hK => ?_)
            refine st_val hS rfl rfl rfl (r_move hS rfl rfl) fun a161 hS161 => st_val hS161 rfl rfl rfl (r_move hS161 rfl rfl) fun a162 hS162 => st_val hS162 rfl rfl rfl (r_move hS162 rfl rfl) fun a163 hS163 => st_val hS163 rfl rfl rfl (r_move hS163 rfl rfl) fun a164 hS164 => ?_
            refine st_enter hS164 rfl rfl rfl (r_call hS164 rfl rfl (by kernel_rfl)) (ih (c0 := c0) (b_p0 := b_p0) (A_R_p0 := A_R_p0) (cap_R_p0 := cap_R_p0) (A_N_p0 := A_N_p0) (cap_N_p0 := cap_N_p0) (A_Done_p0 := A_Done_p0) (cap_Done_p0 := cap_Done_p0) (c1 := c1) (A1 := A135) (cap1 := cap136) (p0 := (ref25_Rails.mk p0.R (upd p0.N p2 (wi (x7 - 1))) (upd p0.Done p2 (wu (v45 + x94.RampDown))) p0.Clock)) (p1 := y133) (p2 := x94.Supply) (p3 := p3) (g := g140) (N + 6) (N + 2) ⟨hb0, hf0_R, hf0_N, hf0_Done⟩ (by omega) h137 (by omega) (by omega) (by omega) (by omega) (by omega) hr166) ?_
            rintro _ a171 w172 ⟨g172, A167, cap168, rfl, ⟨hb0, hf0_R, hf0_N, hf0_Done⟩, h169, F172⟩ hS171
            replace hF := hF.trans F172 (fun c' (hm : (c0 ≤ c' ∧ c' < c0 + 7) ∨ (c1 ≤ c' ∧ c' < c1 + 2) ∨ (N + 2 ≤ c' ∧ c' < N + 2 + 2) ∨ N + 6 ≤ c') => by show (c0 ≤ c' ∧ c' < c0 + 7) ∨ (c1 ≤ c' ∧ c' < c1 + 2) ∨ (r0 ≤ c' ∧ c' < r0 + 2) ∨ N ≤ c'; omega)
            refine st_val hS171 rfl rfl rfl (r_assign hS171 rfl rfl) fun a173 hS173 => wpList_nil (hK _ _ ?_)
            replace hS : Sl 112 _ [(1, .slice A167 r165.2.length cap168)] := hS173.re ⟨rfl, trivial⟩
            clear hK K
            try clear hS161 hS162 hS163 hS164 hS171 hS173
            obtain ⟨a, ha⟩ : ∃ a', a' = a173 := ⟨_, rfl⟩
            rw [← ha] at hS ⊢; clear ha
            have e := Option.some.inj H
            subst e
            have F174 := Fr.recol2 w172 g172 (N + 2) (N + 4)
            replace h169 := h169.recol2 (N + 4)
            replace hb0 := hb0.fr F174 (fun (hm : c0 = N + 2 ∨ c0 = N + 2 + 1) => by omega)
            replace hf0_Done := OwS.fr hf0_Done F174 (fun c' hc (hm : c' = N + 2 ∨ c' = N + 2 + 1) => by omega)
            replace hf0_N := OwS.fr hf0_N F174 (fun c' hc (hm : c' = N + 2 ∨ c' = N + 2 + 1) => by omega)
            replace hf0_R := OwS.fr hf0_R F174 (fun c' hc (hm : c' = N + 2 ∨ c' = N + 2 + 1) => by omega)
            replace hF := hF.trans F174 (fun c' (hm : c' = N + 2 ∨ c' = N + 2 + 1) => by show (c0 ≤ c' ∧ c' < c0 + 7) ∨ (c1 ≤ c' ∧ c' < c1 + 2) ∨ (r0 ≤ c' ∧ c' < r0 + 2) ∨ N ≤ c'; omega)
            exact ⟨(recol2 g172 (N + 2) (N + 4)), A167, cap168, hS.re ⟨rfl, trivial⟩, h169, hb0, hf0_Done, hf0_N, hf0_R, hF⟩
          · replace H := ite_f hb160 H
            refine wp_skip ?_
            have e := Option.some.inj H
            subst e
            have F175 := Fr.recol2 w140 g140 (c1) (N + 4)
            replace h137 := h137.recol2 (N + 4)
            replace hb0 := hb0.fr F175 (fun (hm : c0 = c1 ∨ c0 = c1 + 1) => by omega)
            replace hf0_Done := OwS.fr hf0_Done F175 (fun c' hc (hm : c' = c1 ∨ c' = c1 + 1) => by omega)
            replace hf0_N := OwS.fr hf0_N F175 (fun c' hc (hm : c' = c1 ∨ c' = c1 + 1) => by omega)
            replace hf0_R := OwS.fr hf0_R F175 (fun c' hc (hm : c' = c1 ∨ c' = c1 + 1) => by omega)
            replace hF := hF.trans F175 (fun c' (hm : c' = c1 ∨ c' = c1 + 1) => by show (c0 ≤ c' ∧ c' < c0 + 7) ∨ (c1 ≤ c' ∧ c' < c1 + 2) ∨ (r0 ≤ c' ∧ c' < r0 + 2) ∨ N ≤ c'; omega)
            exact ⟨(recol2 g140 (c1) (N + 4)), A135, cap136, hS.re ⟨rfl, trivial⟩, h137, hb0, hf0_Done, hf0_N, hf0_R, hF⟩
        · clear H
          clear hf0_R hf0_N hf0_Done hb0 h137 hF
          clear hS
          rintro a w142 ⟨g142, A143, cap144, hS, h145, hb0, hf0_Done, hf0_N, hf0_R, hF⟩
          have H := Hl148
          clear Hl148
          refine c_pure [(8, .slice A143 v146.1.length cap144)] (fun R hR => st_val hS rfl rfl rfl (r_move hS rfl rfl) fun a176 hS176 => st_val hS176 rfl rfl rfl (r_assign hS176 rfl rfl) fun a177 hS177 => wpList_nil (hR _ (hS177.re ⟨rfl, trivial⟩))) ?_
          clear hS
          clear a
          intro a hS
          refine wp_ret ?_
          have e := Option.some.inj H
          subst e
          have F178 := Fr.recol2 w142 g142 (N + 4) r0
          replace h145 := h145.recol2 r0
          replace hb0 := hb0.fr F178 (fun (hm : c0 = N + 4 ∨ c0 = N + 4 + 1) => by omega)
          replace hf0_Done := OwS.fr hf0_Done F178 (fun c' hc (hm : c' = N + 4 ∨ c' = N + 4 + 1) => by omega)
          replace hf0_N := OwS.fr hf0_N F178 (fun c' hc (hm : c' = N + 4 ∨ c' = N + 4 + 1) => by omega)
          replace hf0_R := OwS.fr hf0_R F178 (fun c' hc (hm : c' = N + 4 ∨ c' = N + 4 + 1) => by omega)
          replace hF := hF.trans F178 (fun c' (hm : c' = N + 4 ∨ c' = N + 4 + 1) => by show (c0 ≤ c' ∧ c' < c0 + 7) ∨ (c1 ≤ c' ∧ c' < c1 + 2) ∨ (r0 ≤ c' ∧ c' < r0 + 2) ∨ N ≤ c'; omega)
          repeat (with_reducible first | refine then_ret ?_ | refine inBlock_ret ?_)
          exact c_ret1 hS Try.results46 rfl ⟨_, rfl, (recol2 g142 (N + 4) r0), A143, cap144, rfl, ⟨hb0, hf0_R, hf0_N, hf0_Done⟩, h145, hF⟩
theorem ref25_Rails_drop.calls {p0 : ref25_Rails} {c0 : Nat}  {b_p0 : Nat} {A_R_p0 : Option Addr} {cap_R_p0 : Nat} {A_N_p0 : Option Addr} {cap_N_p0 : Nat} {A_Done_p0 : Option Addr} {cap_Done_p0 : Nat} {p1 : List api_RailOp} {A1 : Option Addr} {cap1 : Nat} {c1 : Nat} {p2 : Int} {p3 : Int} {w : World} {g : Nat → Nat} {out : ref25_Rails × (List api_RailOp)} (N : Nat) (r0 : Nat) (hp0 : ref25_Rails_At w g c0 b_p0 A_R_p0 cap_R_p0 A_N_p0 cap_N_p0 A_Done_p0 cap_Done_p0 p0) (hc0 : c0 + 7 ≤ N) (hp1 : OwS kd_api_RailOp 50 w g c1 A1 cap1 p1) (hc1 : c1 + 2 ≤ N) (ho1_0 : c1 + 2 ≤ c0 ∨ c0 + 7 ≤ c1) (hr0 : r0 + 2 ≤ N) (hv0_1 : r0 + 2 ≤ c1 ∨ c1 + 2 ≤ r0) (hq0_0 : r0 + 2 ≤ c0 ∨ c0 + 7 ≤ r0) (H : ref25_Rails_drop.f p0 p1 p2 p3 = some out) :
    Calls Try.prog 46 #[.pointer (some ⟨b_p0, 0, none⟩), .slice A1 p1.length cap1, .int .i64 p2, .int .u64 p3] w (fun e w' => ∃ v, e = .returned v ∧ ∃ (g' : Nat → Nat) (A_r0 : Option Addr) (cap_r0 : Nat), v = .slice A_r0 out.2.length cap_r0 ∧ ref25_Rails_At w' g' c0 b_p0 A_R_p0 cap_R_p0 A_N_p0 cap_N_p0 A_Done_p0 cap_Done_p0 out.1 ∧ OwS kd_api_RailOp 50 w' g' r0 A_r0 cap_r0 out.2 ∧ Fr (fun q => (c0 ≤ q ∧ q < c0 + 7) ∨ (c1 ≤ q ∧ q < c1 + 2) ∨ (r0 ≤ q ∧ q < r0 + 2) ∨ N ≤ q) w g w' g') :=
  ref25_Rails_drop.calls_r FUEL N r0 hp0 hc0 hp1 hc1 ho1_0 hr0 hv0_1 hq0_0 H

/-! ### ref25_Rails_Release: function 34 -/
def ref25_Rails_Release.f (p0 : ref25_Rails) (p1 : Int) (p2 : Int) : Option (ref25_Rails × (List api_RailOp) × Int) := (ref25_Rails_bad.f p0 p1 p2).bind fun r6 => if r6 = true then (some (p0, [], 1)) else ((ref25_Rails_own.f p0 p1).bind fun r15 => if (r15 == 0) = true then (some (p0, [], 9)) else ((ref25_Rails_drop.f (ref25_Rails.mk p0.R p0.N p0.Done p2) ([] : List api_RailOp) p1 p2).bind fun r32 => some (r32.1, r32.2, 0)))
set_option maxRecDepth 100000 in
set_option maxHeartbeats 4000000 in
theorem ref25_Rails_Release.calls {p0 : ref25_Rails} {c0 : Nat}  {b_p0 : Nat} {A_R_p0 : Option Addr} {cap_R_p0 : Nat} {A_N_p0 : Option Addr} {cap_N_p0 : Nat} {A_Done_p0 : Option Addr} {cap_Done_p0 : Nat} {p1 : Int} {p2 : Int} {w : World} {g : Nat → Nat} {out : ref25_Rails × (List api_RailOp) × Int} (N : Nat) (r0 : Nat) (hp0 : ref25_Rails_At w g c0 b_p0 A_R_p0 cap_R_p0 A_N_p0 cap_N_p0 A_Done_p0 cap_Done_p0 p0) (hc0 : c0 + 7 ≤ N) (hr0 : r0 + 2 ≤ N) (hq0_0 : r0 + 2 ≤ c0 ∨ c0 + 7 ≤ r0) (H : ref25_Rails_Release.f p0 p1 p2 = some out) :
    Calls Try.prog 34 #[.pointer (some ⟨b_p0, 0, none⟩), .int .i64 p1, .int .u64 p2] w (fun e w' => ∃ v, e = .returned v ∧ ∃ (g' : Nat → Nat) (A_r0 : Option Addr) (cap_r0 : Nat), v = .tuple #[.slice A_r0 out.2.1.length cap_r0, .int .i64 out.2.2] ∧ ref25_Rails_At w' g' c0 b_p0 A_R_p0 cap_R_p0 A_N_p0 cap_N_p0 A_Done_p0 cap_Done_p0 out.1 ∧ OwS kd_api_RailOp 50 w' g' r0 A_r0 cap_r0 out.2.1 ∧ Fr (fun q => (c0 ≤ q ∧ q < c0 + 7) ∨ (r0 ≤ q ∧ q < r0 + 2) ∨ N ≤ q) w g w' g') := by
  unfold ref25_Rails_Release.f at H
  refine calls_enter Try.func34 rfl Try.ntmps34 rfl (fun a hS => ?_)
  replace hS : Sl 24 a [(0, .pointer (some ⟨b_p0, 0, none⟩)), (1, .int .i64 p1), (2, .int .u64 p2)] := hS
  have hF : Fr (fun q => (c0 ≤ q ∧ q < c0 + 7) ∨ (r0 ≤ q ∧ q < r0 + 2) ∨ N ≤ q) w g w g := Fr.refl _ _ _
  obtain ⟨hb0, hf0_R, hf0_N, hf0_Done⟩ := hp0
  refine c_pure [(0, .pointer (some ⟨b_p0, 0, none⟩)), (1, .int .i64 p1), (2, .int .u64 p2)] (fun R hR => st_val hS rfl rfl rfl (r_assign hS rfl rfl) fun a1 hS1 => st_val hS1 rfl rfl rfl (r_assign hS1 rfl rfl) fun a2 hS2 => wpList_nil (hR _ (hS2.re ⟨rfl, rfl, rfl, trivial⟩))) ?_
  clear hS
  clear a
  intro a hS
  refine wp_seq ?_
  obtain ⟨r6, hr7, H⟩ := bind_el H
  refine c_region (fun K hK => ?_)
  refine st_val hS rfl rfl rfl (r_move hS rfl rfl) fun a3 hS3 => st_val hS3 rfl rfl rfl (r_move hS3 rfl rfl) fun a4 hS4 => st_val hS4 rfl rfl rfl (r_move hS4 rfl rfl) fun a5 hS5 => ?_
  refine st_enter hS5 rfl rfl rfl (r_call hS5 rfl rfl (by kernel_rfl)) (ref25_Rails_bad.calls (c0 := c0) (b_p0 := b_p0) (A_R_p0 := A_R_p0) (cap_R_p0 := cap_R_p0) (A_N_p0 := A_N_p0) (cap_N_p0 := cap_N_p0) (A_Done_p0 := A_Done_p0) (cap_Done_p0 := cap_Done_p0) (p0 := p0) (p1 := p1) (p2 := p2) (g := g) (N + 4)  ⟨hb0, hf0_R, hf0_N, hf0_Done⟩ (by omega) hr7) ?_
  rintro _ a8 w9 ⟨g9, rfl, F9⟩ hS8
  replace hb0 := hb0.fr F9 (fun (hm : N + 4 ≤ c0) => by omega)
  replace hf0_Done := OwS.fr hf0_Done F9 (fun c' hc (hm : N + 4 ≤ c') => by omega)
  replace hf0_N := OwS.fr hf0_N F9 (fun c' hc (hm : N + 4 ≤ c') => by omega)
  replace hf0_R := OwS.fr hf0_R F9 (fun c' hc (hm : N + 4 ≤ c') => by omega)
  replace hF := hF.trans F9 (fun c' (hm : N + 4 ≤ c') => by show (c0 ≤ c' ∧ c' < c0 + 7) ∨ (r0 ≤ c' ∧ c' < r0 + 2) ∨ N ≤ c'; omega)
  refine wpList_nil (hK _ _ ?_)
  replace hS : Sl 24 _ [(0, .pointer (some ⟨b_p0, 0, none⟩)), (1, .int .i64 p1), (2, .int .u64 p2), (11, .bool r6)] := hS8.re ⟨rfl, rfl, rfl, rfl, trivial⟩
  clear hK K
  try clear hS3 hS4 hS5 hS8
  obtain ⟨a, ha⟩ : ∃ a', a' = a8 := ⟨_, rfl⟩
  rw [← ha] at hS ⊢; clear ha
  refine c_cond hS rfl (fun hb10 => ?_) (fun hb10 => ?_)
  · replace H := ite_t hb10 H
    refine c_pure [(6, .slice none 0 0), (7, .int .i64 1)] (fun R hR => st_val hS rfl rfl rfl (r_assign hS rfl rfl) fun a11 hS11 => st_val hS11 rfl rfl rfl (r_assign hS11 rfl rfl) fun a12 hS12 => wpList_nil (hR _ (hS12.re ⟨rfl, rfl, trivial⟩))) ?_
    clear hS
    clear a
    intro a hS
    refine wp_ret ?_
    have e := Option.some.inj H
    subst e
    repeat (with_reducible first | refine then_ret ?_ | refine inBlock_ret ?_)
    exact c_ret2 hS Try.results34 rfl rfl ⟨_, rfl, g9, none, 0, rfl, ⟨hb0, hf0_R, hf0_N, hf0_Done⟩, OwS.nil kd_api_RailOp 50 w9 g9 r0, hF⟩
  · replace H := ite_f hb10 H
    refine wp_skip ?_
    change Code.wp _ _ _ _ _
    refine wp_seq ?_
    obtain ⟨r15, hr16, H⟩ := bind_el H
    refine c_region (fun K hK => ?_)
    refine st_val hS rfl rfl rfl (r_move hS rfl rfl) fun a13 hS13 => st_val hS13 rfl rfl rfl (r_move hS13 rfl rfl) fun a14 hS14 => ?_
    refine st_enter hS14 rfl rfl rfl (r_call hS14 rfl rfl (by kernel_rfl)) (ref25_Rails_own.calls (c0 := c0) (b_p0 := b_p0) (A_R_p0 := A_R_p0) (cap_R_p0 := cap_R_p0) (A_N_p0 := A_N_p0) (cap_N_p0 := cap_N_p0) (A_Done_p0 := A_Done_p0) (cap_Done_p0 := cap_Done_p0) (p0 := p0) (p1 := p1) (g := g9) (N + 4)  ⟨hb0, hf0_R, hf0_N, hf0_Done⟩ (by omega) hr16) ?_
    rintro _ a17 w18 ⟨g18, rfl, F18⟩ hS17
    replace hb0 := hb0.fr F18 (fun (hm : N + 4 ≤ c0) => by omega)
    replace hf0_Done := OwS.fr hf0_Done F18 (fun c' hc (hm : N + 4 ≤ c') => by omega)
    replace hf0_N := OwS.fr hf0_N F18 (fun c' hc (hm : N + 4 ≤ c') => by omega)
    replace hf0_R := OwS.fr hf0_R F18 (fun c' hc (hm : N + 4 ≤ c') => by omega)
    replace hF := hF.trans F18 (fun c' (hm : N + 4 ≤ c') => by show (c0 ≤ c' ∧ c' < c0 + 7) ∨ (r0 ≤ c' ∧ c' < r0 + 2) ∨ N ≤ c'; omega)
    refine st_val hS17 rfl rfl rfl (r_bin hS17 rfl rfl rfl b_eql) fun a19 hS19 => wpList_nil (hK _ _ ?_)
    replace hS : Sl 24 _ [(0, .pointer (some ⟨b_p0, 0, none⟩)), (1, .int .i64 p1), (2, .int .u64 p2), (15, .bool (r15 == 0))] := hS19.re ⟨rfl, rfl, rfl, rfl, trivial⟩
    clear hK K
    try clear hS13 hS14 hS17 hS19
    obtain ⟨a, ha⟩ : ∃ a', a' = a19 := ⟨_, rfl⟩
    rw [← ha] at hS ⊢; clear ha
    refine c_cond hS rfl (fun hb20 => ?_) (fun hb20 => ?_)
    · replace H := ite_t hb20 H
      refine c_pure [(6, .slice none 0 0), (7, .int .i64 9)] (fun R hR => st_val hS rfl rfl rfl (r_assign hS rfl rfl) fun a21 hS21 => st_val hS21 rfl rfl rfl (r_assign hS21 rfl rfl) fun a22 hS22 => wpList_nil (hR _ (hS22.re ⟨rfl, rfl, trivial⟩))) ?_
      clear hS
      clear a
      intro a hS
      refine wp_ret ?_
      have e := Option.some.inj H
      subst e
      repeat (with_reducible first | refine then_ret ?_ | refine inBlock_ret ?_)
      exact c_ret2 hS Try.results34 rfl rfl ⟨_, rfl, g18, none, 0, rfl, ⟨hb0, hf0_R, hf0_N, hf0_Done⟩, OwS.nil kd_api_RailOp 50 w18 g18 r0, hF⟩
    · replace H := ite_f hb20 H
      refine wp_skip ?_
      change Code.wp _ _ _ _ _
      refine c_region (fun K hK => ?_)
      refine st_val hS rfl rfl rfl (r_move hS rfl rfl) fun a23 hS23 => st_val hS23 rfl rfl rfl (r_move hS23 rfl rfl) fun a24 hS24 => st_val hS24 rfl rfl rfl (r_nil hS24 rfl rfl) fun a25 hS25 => st_val hS25 rfl rfl rfl (r_fieldB (off := 3) hS25 rfl rfl (by kernel_rfl)) fun a26 hS26 => ?_
      refine st_effS hS26 rfl rfl (e_storeB (n := 1) (bb := false) (cs' := [.slice A_R_p0 p0.R.length cap_R_p0, .slice A_N_p0 p0.N.length cap_N_p0, .slice A_Done_p0 p0.Done.length cap_Done_p0, .int .u64 p2]) g18 hS26 rfl rfl rfl (by kernel_rfl) rfl rfl rfl hb0 rfl rfl) ?_
      rintro a27 w28 g28 ⟨hb0, F28⟩ hS27
      replace hf0_Done := OwS.fr hf0_Done F28 (fun c' hc (hm : c' = c0) => by omega)
      replace hf0_N := OwS.fr hf0_N F28 (fun c' hc (hm : c' = c0) => by omega)
      replace hf0_R := OwS.fr hf0_R F28 (fun c' hc (hm : c' = c0) => by omega)
      replace hF := hF.trans F28 (fun c' (hm : c' = c0) => by show (c0 ≤ c' ∧ c' < c0 + 7) ∨ (r0 ≤ c' ∧ c' < r0 + 2) ∨ N ≤ c'; omega)
      refine wpList_nil (hK _ _ ?_)
      replace hS : Sl 24 _ [(0, .pointer (some ⟨b_p0, 0, none⟩)), (1, .int .i64 p1), (2, .int .u64 p2)] := hS27.re ⟨rfl, rfl, rfl, trivial⟩
      clear hK K
      try clear hS23 hS24 hS25 hS26 hS27
      obtain ⟨a, ha⟩ : ∃ a', a' = a27 := ⟨_, rfl⟩
      rw [← ha] at hS ⊢; clear ha
      obtain ⟨r32, hr33, H⟩ := bind_el H
      refine c_region (fun K hK => ?_)
      refine st_val hS rfl rfl rfl (r_move hS rfl rfl) fun a29 hS29 => st_val hS29 rfl rfl rfl (r_move hS29 rfl rfl) fun a30 hS30 => st_val hS30 rfl rfl rfl (r_move hS30 rfl rfl) fun a31 hS31 => ?_
      refine st_enter hS31 rfl rfl rfl (r_call hS31 rfl rfl (by kernel_rfl)) (ref25_Rails_drop.calls (c0 := c0) (b_p0 := b_p0) (A_R_p0 := A_R_p0) (cap_R_p0 := cap_R_p0) (A_N_p0 := A_N_p0) (cap_N_p0 := cap_N_p0) (A_Done_p0 := A_Done_p0) (cap_Done_p0 := cap_Done_p0) (c1 := N + 0) (A1 := none) (cap1 := 0) (p0 := (ref25_Rails.mk p0.R p0.N p0.Done p2)) (p1 := ([] : List api_RailOp)) (p2 := p1) (p3 := p2) (g := g28) (N + 4) (N + 2) ⟨hb0, hf0_R, hf0_N, hf0_Done⟩ (by omega) (OwS.nil kd_api_RailOp 50 w28 g28 (N + 0)) (by omega) (by omega) (by omega) (by omega) (by omega) hr33) ?_
      rintro _ a38 w39 ⟨g39, A34, cap35, rfl, ⟨hb0, hf0_R, hf0_N, hf0_Done⟩, h36, F39⟩ hS38
      replace hF := hF.trans F39 (fun c' (hm : (c0 ≤ c' ∧ c' < c0 + 7) ∨ (N + 0 ≤ c' ∧ c' < N + 0 + 2) ∨ (N + 2 ≤ c' ∧ c' < N + 2 + 2) ∨ N + 4 ≤ c') => by show (c0 ≤ c' ∧ c' < c0 + 7) ∨ (r0 ≤ c' ∧ c' < r0 + 2) ∨ N ≤ c'; omega)
      refine st_val hS38 rfl rfl rfl (r_assign hS38 rfl rfl) fun a40 hS40 => st_val hS40 rfl rfl rfl (r_assign hS40 rfl rfl) fun a41 hS41 => wpList_nil (hK _ _ ?_)
      replace hS : Sl 24 _ [(6, .slice A34 r32.2.length cap35), (7, .int .i64 0)] := hS41.re ⟨rfl, rfl, trivial⟩
      clear hK K
      try clear hS29 hS30 hS31 hS38 hS40 hS41
      obtain ⟨a, ha⟩ : ∃ a', a' = a41 := ⟨_, rfl⟩
      rw [← ha] at hS ⊢; clear ha
      refine wp_ret ?_
      have e := Option.some.inj H
      subst e
      have F42 := Fr.recol2 w39 g39 (N + 2) r0
      replace h36 := h36.recol2 r0
      replace hb0 := hb0.fr F42 (fun (hm : c0 = N + 2 ∨ c0 = N + 2 + 1) => by omega)
      replace hf0_Done := OwS.fr hf0_Done F42 (fun c' hc (hm : c' = N + 2 ∨ c' = N + 2 + 1) => by omega)
      replace hf0_N := OwS.fr hf0_N F42 (fun c' hc (hm : c' = N + 2 ∨ c' = N + 2 + 1) => by omega)
      replace hf0_R := OwS.fr hf0_R F42 (fun c' hc (hm : c' = N + 2 ∨ c' = N + 2 + 1) => by omega)
      replace hF := hF.trans F42 (fun c' (hm : c' = N + 2 ∨ c' = N + 2 + 1) => by show (c0 ≤ c' ∧ c' < c0 + 7) ∨ (r0 ≤ c' ∧ c' < r0 + 2) ∨ N ≤ c'; omega)
      repeat (with_reducible first | refine then_ret ?_ | refine inBlock_ret ?_)
      exact c_ret2 hS Try.results34 rfl rfl ⟨_, rfl, (recol2 g39 (N + 2) r0), A34, cap35, rfl, ⟨hb0, hf0_R, hf0_N, hf0_Done⟩, h36, hF⟩

/-! ### ref25_Rails_add: function 47 -/
def ref25_Rails_add.r : Nat → ref25_Rails → (List api_RailOp) → Int → Int → Option (ref25_Rails × (List api_RailOp))
  | 0, _, _, _, _ => none
  | kr + 1, p0, p1, p2, p3 => (idx p0.N p2).bind fun x7 => (idx (upd p0.N p2 (wi (x7 + 1))) p2).bind fun x20 => if decide (1 < x20) = true then (some ((ref25_Rails.mk p0.R (upd p0.N p2 (wi (x7 + 1))) p0.Done p0.Clock), p1)) else ((idx p0.Done p2).bind fun x35 => (ref25_later.f p3 x35).bind fun r39 => ((idx p0.R p2).bind fun x56 => if decide (0 ≤ x56.Supply) = true then ((ref25_Rails_add.r kr (ref25_Rails.mk p0.R (upd p0.N p2 (wi (x7 + 1))) p0.Done p0.Clock) p1 x56.Supply p3).bind fun r69 => (idx r69.1.Done x56.Supply).bind fun x84 => (ref25_later.f r39 x84).bind fun r88 => some (r69.1, r69.2, r88)) else (some ((ref25_Rails.mk p0.R (upd p0.N p2 (wi (x7 + 1))) p0.Done p0.Clock), p1, r39)) : Option (ref25_Rails × (List api_RailOp) × Int)).bind fun v48 => (idx v48.1.R p2).bind fun x95 => (idx v48.1.Done p2).bind fun x97 => (idx (upd v48.1.Done p2 (wu (v48.2.2 + x95.RampUp))) p2).bind fun x126 => (app v48.2.1 [(api_RailOp.mk p2 true v48.2.2 x126)]).bind fun y136 => some ((ref25_Rails.mk v48.1.R v48.1.N (upd v48.1.Done p2 (wu (v48.2.2 + x95.RampUp))) v48.1.Clock), y136))
def ref25_Rails_add.f (p0 : ref25_Rails) (p1 : List api_RailOp) (p2 : Int) (p3 : Int) : Option (ref25_Rails × (List api_RailOp)) := ref25_Rails_add.r FUEL p0 p1 p2 p3
set_option maxRecDepth 100000 in
set_option maxHeartbeats 4000000 in
theorem ref25_Rails_add.calls_r : ∀ (kr : Nat) {p0 : ref25_Rails} {c0 : Nat}  {b_p0 : Nat} {A_R_p0 : Option Addr} {cap_R_p0 : Nat} {A_N_p0 : Option Addr} {cap_N_p0 : Nat} {A_Done_p0 : Option Addr} {cap_Done_p0 : Nat} {p1 : List api_RailOp} {A1 : Option Addr} {cap1 : Nat} {c1 : Nat} {p2 : Int} {p3 : Int} {w : World} {g : Nat → Nat} {out : ref25_Rails × (List api_RailOp)} (N : Nat) (r0 : Nat) (hp0 : ref25_Rails_At w g c0 b_p0 A_R_p0 cap_R_p0 A_N_p0 cap_N_p0 A_Done_p0 cap_Done_p0 p0) (hc0 : c0 + 7 ≤ N) (hp1 : OwS kd_api_RailOp 50 w g c1 A1 cap1 p1) (hc1 : c1 + 2 ≤ N) (ho1_0 : c1 + 2 ≤ c0 ∨ c0 + 7 ≤ c1) (hr0 : r0 + 2 ≤ N) (hv0_1 : r0 + 2 ≤ c1 ∨ c1 + 2 ≤ r0) (hq0_0 : r0 + 2 ≤ c0 ∨ c0 + 7 ≤ r0), ref25_Rails_add.r kr p0 p1 p2 p3 = some out →
    Calls Try.prog 47 #[.pointer (some ⟨b_p0, 0, none⟩), .slice A1 p1.length cap1, .int .i64 p2, .int .u64 p3] w (fun e w' => ∃ v, e = .returned v ∧ ∃ (g' : Nat → Nat) (A_r0 : Option Addr) (cap_r0 : Nat), v = .slice A_r0 out.2.length cap_r0 ∧ ref25_Rails_At w' g' c0 b_p0 A_R_p0 cap_R_p0 A_N_p0 cap_N_p0 A_Done_p0 cap_Done_p0 out.1 ∧ OwS kd_api_RailOp 50 w' g' r0 A_r0 cap_r0 out.2 ∧ Fr (fun q => (c0 ≤ q ∧ q < c0 + 7) ∨ (c1 ≤ q ∧ q < c1 + 2) ∨ (r0 ≤ q ∧ q < r0 + 2) ∨ N ≤ q) w g w' g') := by
  intro kr
  induction kr with
  | zero => intros; rename_i H; exact absurd H (by simp [ref25_Rails_add.r])
  | succ kr ih =>
    intro p0 c0 b_p0 A_R_p0 cap_R_p0 A_N_p0 cap_N_p0 A_Done_p0 cap_Done_p0 p1 A1 cap1 c1 p2 p3 w g out N r0 hp0 hc0 hp1 hc1 ho1_0 hr0 hv0_1 hq0_0 H
    rw [ref25_Rails_add.r] at H
    refine calls_enter Try.func47 rfl Try.ntmps47 rfl (fun a hS => ?_)
    replace hS : Sl 91 a [(0, .pointer (some ⟨b_p0, 0, none⟩)), (1, .slice A1 p1.length cap1), (2, .int .i64 p2), (3, .int .u64 p3)] := hS
    have hF : Fr (fun q => (c0 ≤ q ∧ q < c0 + 7) ∨ (c1 ≤ q ∧ q < c1 + 2) ∨ (r0 ≤ q ∧ q < r0 + 2) ∨ N ≤ q) w g w g := Fr.refl _ _ _
    obtain ⟨hb0, hf0_R, hf0_N, hf0_Done⟩ := hp0
    refine c_pure [(0, .pointer (some ⟨b_p0, 0, none⟩)), (1, .slice A1 p1.length cap1), (2, .int .i64 p2), (3, .int .u64 p3)] (fun R hR => st_val hS rfl rfl rfl (r_assign hS rfl rfl) fun a1 hS1 => wpList_nil (hR _ (hS1.re ⟨rfl, rfl, rfl, rfl, trivial⟩))) ?_
    clear hS
    clear a
    intro a hS
    obtain ⟨x7, hx8, H⟩ := bind_el H
    refine c_region (fun K hK => ?_)
    refine st_val hS rfl rfl rfl (r_move hS rfl rfl) fun a2 hS2 => st_val hS2 rfl rfl rfl (r_nil hS2 rfl rfl) fun a3 hS3 => st_val hS3 rfl rfl rfl (r_fieldB (off := 1) hS3 rfl rfl (by kernel_rfl)) fun a4 hS4 => st_val hS4 rfl rfl rfl (r_load1 (n := 1) hS4 rfl rfl (by kernel_rfl) (Bx.cell hb0 rfl)) fun a5 hS5 => st_val hS5 rfl rfl rfl (r_move hS5 rfl rfl) fun a6 hS6 => st_val hS6 rfl rfl rfl (r_index (e := 3) (sz := 1) (by_ := 8) hS6 rfl rfl rfl (by kernel_rfl) (RdS.some_ (OwS.rd hf0_N) hx8) (idx_lo hx8) (idx_hi hx8)) fun a9 hS9 => st_val hS9 rfl rfl rfl (r_load1 (n := 1) hS9 rfl rfl (by kernel_rfl) (RdS.cell (i := p2) (sz := 1) (j := 0) (OwS.rd hf0_N) hx8 rfl)) fun a10 hS10 => st_val hS10 rfl rfl rfl (r_bin hS10 rfl rfl rfl b_add) fun a11 hS11 => st_val hS11 rfl rfl rfl (r_index (e := 3) (sz := 1) (by_ := 8) hS11 rfl rfl rfl (by kernel_rfl) (RdS.some_ (OwS.rd hf0_N) hx8) (idx_lo hx8) (idx_hi hx8)) fun a12 hS12 => ?_
    refine st_effS hS12 rfl rfl (e_storeE (n := 1) (bb := false) (kd := (kint .i64)) (j := 0) (x' := wi (x7 + 1)) (us := [.int .i64 (wi (x7 + 1))]) g hS12 rfl rfl rfl rfl (by kernel_rfl) rfl rfl (by intro v hv; simp only [List.mem_cons, List.not_mem_nil, or_false] at hv; rcases hv with rfl <;> rfl) hf0_N hx8 rfl (fun _ _ cs hR => by rw [show cs = _ from hR]; rfl)) ?_
    rintro a13 w14 g14 ⟨hf0_N, F14⟩ hS13
    replace hb0 := hb0.fr F14 (fun (hm : c0 = c0 + 3) => by omega)
    replace hf0_Done := OwS.fr hf0_Done F14 (fun c' hc (hm : c' = c0 + 3) => by omega)
    replace hf0_R := OwS.fr hf0_R F14 (fun c' hc (hm : c' = c0 + 3) => by omega)
    replace hp1 := OwS.fr hp1 F14 (fun c' hc (hm : c' = c0 + 3) => by omega)
    replace hF := hF.trans F14 (fun c' (hm : c' = c0 + 3) => by show (c0 ≤ c' ∧ c' < c0 + 7) ∨ (c1 ≤ c' ∧ c' < c1 + 2) ∨ (r0 ≤ c' ∧ c' < r0 + 2) ∨ N ≤ c'; omega)
    replace hb0 : Bx w14 g14 (c0) b_p0 41 [.slice A_R_p0 p0.R.length cap_R_p0, .slice A_N_p0 (upd p0.N p2 (wi (x7 + 1))).length cap_N_p0, .slice A_Done_p0 p0.Done.length cap_Done_p0, .int .u64 p0.Clock] := by simpa only [upd_length] using hb0
    refine wpList_nil (hK _ _ ?_)
    replace hS : Sl 91 _ [(0, .pointer (some ⟨b_p0, 0, none⟩)), (1, .slice A1 p1.length cap1), (2, .int .i64 p2), (3, .int .u64 p3)] := hS13.re ⟨rfl, rfl, rfl, rfl, trivial⟩
    clear hK K
    try clear hS2 hS3 hS4 hS5 hS6 hS9 hS10 hS11 hS12 hS13
    obtain ⟨a, ha⟩ : ∃ a', a' = a13 := ⟨_, rfl⟩
    rw [← ha] at hS ⊢; clear ha
    refine wp_seq ?_
    obtain ⟨x20, hx21, H⟩ := bind_el H
    refine c_pure [(0, .pointer (some ⟨b_p0, 0, none⟩)), (1, .slice A1 p1.length cap1), (2, .int .i64 p2), (3, .int .u64 p3), (27, .bool (decide (1 < x20)))] (fun R hR => st_val hS rfl rfl rfl (r_move hS rfl rfl) fun a15 hS15 => st_val hS15 rfl rfl rfl (r_nil hS15 rfl rfl) fun a16 hS16 => st_val hS16 rfl rfl rfl (r_fieldB (off := 1) hS16 rfl rfl (by kernel_rfl)) fun a17 hS17 => st_val hS17 rfl rfl rfl (r_load1 (n := 1) hS17 rfl rfl (by kernel_rfl) (Bx.cell hb0 rfl)) fun a18 hS18 => st_val hS18 rfl rfl rfl (r_move hS18 rfl rfl) fun a19 hS19 => st_val hS19 rfl rfl rfl (r_index (e := 3) (sz := 1) (by_ := 8) hS19 rfl rfl rfl (by kernel_rfl) (RdS.some_ (OwS.rd hf0_N) hx21) (idx_lo hx21) (idx_hi hx21)) fun a22 hS22 => st_val hS22 rfl rfl rfl (r_load1 (n := 1) hS22 rfl rfl (by kernel_rfl) (RdS.cell (i := p2) (sz := 1) (j := 0) (OwS.rd hf0_N) hx21 rfl)) fun a23 hS23 => st_val hS23 rfl rfl rfl (r_bin hS23 rfl rfl rfl b_gtr) fun a24 hS24 => wpList_nil (hR _ (hS24.re ⟨rfl, rfl, rfl, rfl, rfl, trivial⟩))) ?_
    clear hS
    clear a
    intro a hS
    refine c_cond hS rfl (fun hb25 => ?_) (fun hb25 => ?_)
    · replace H := ite_t hb25 H
      refine c_pure [(8, .slice A1 p1.length cap1)] (fun R hR => st_val hS rfl rfl rfl (r_move hS rfl rfl) fun a26 hS26 => st_val hS26 rfl rfl rfl (r_assign hS26 rfl rfl) fun a27 hS27 => wpList_nil (hR _ (hS27.re ⟨rfl, trivial⟩))) ?_
      clear hS
      clear a
      intro a hS
      refine wp_ret ?_
      have e := Option.some.inj H
      subst e
      have F28 := Fr.recol2 w14 g14 (c1) r0
      replace hp1 := hp1.recol2 r0
      replace hb0 := hb0.fr F28 (fun (hm : c0 = c1 ∨ c0 = c1 + 1) => by omega)
      replace hf0_Done := OwS.fr hf0_Done F28 (fun c' hc (hm : c' = c1 ∨ c' = c1 + 1) => by omega)
      replace hf0_N := OwS.fr hf0_N F28 (fun c' hc (hm : c' = c1 ∨ c' = c1 + 1) => by omega)
      replace hf0_R := OwS.fr hf0_R F28 (fun c' hc (hm : c' = c1 ∨ c' = c1 + 1) => by omega)
      replace hF := hF.trans F28 (fun c' (hm : c' = c1 ∨ c' = c1 + 1) => by show (c0 ≤ c' ∧ c' < c0 + 7) ∨ (c1 ≤ c' ∧ c' < c1 + 2) ∨ (r0 ≤ c' ∧ c' < r0 + 2) ∨ N ≤ c'; omega)
      repeat (with_reducible first | refine then_ret ?_ | refine inBlock_ret ?_)
      exact c_ret1 hS Try.results47 rfl ⟨_, rfl, (recol2 g14 (c1) r0), A1, cap1, rfl, ⟨hb0, hf0_R, hf0_N, hf0_Done⟩, hp1, hF⟩
    · replace H := ite_f hb25 H
      refine wp_skip ?_
      change Code.wp _ _ _ _ _
      obtain ⟨x35, hx36, H⟩ := bind_el H
      obtain ⟨r39, hr40, H⟩ := bind_el H
      refine c_region (fun K hK => ?_)
      refine st_val hS rfl rfl rfl (r_move hS rfl rfl) fun a29 hS29 => st_val hS29 rfl rfl rfl (r_move hS29 rfl rfl) fun a30 hS30 => st_val hS30 rfl rfl rfl (r_nil hS30 rfl rfl) fun a31 hS31 => st_val hS31 rfl rfl rfl (r_fieldB (off := 2) hS31 rfl rfl (by kernel_rfl)) fun a32 hS32 => st_val hS32 rfl rfl rfl (r_load1 (n := 1) hS32 rfl rfl (by kernel_rfl) (Bx.cell hb0 rfl)) fun a33 hS33 => st_val hS33 rfl rfl rfl (r_move hS33 rfl rfl) fun a34 hS34 => st_val hS34 rfl rfl rfl (r_index (e := 33) (sz := 1) (by_ := 8) hS34 rfl rfl rfl (by kernel_rfl) (RdS.some_ (OwS.rd hf0_Done) hx36) (idx_lo hx36) (idx_hi hx36)) fun a37 hS37 => st_val hS37 rfl rfl rfl (r_load1 (n := 1) hS37 rfl rfl (by kernel_rfl) (RdS.cell (i := p2) (sz := 1) (j := 0) (OwS.rd hf0_Done) hx36 rfl)) fun a38 hS38 => ?_
      refine st_enter hS38 rfl rfl rfl (r_call hS38 rfl rfl (by kernel_rfl)) (ref25_later.calls (p0 := p3) (p1 := x35) (g := g14) (N + 6)   hr40) ?_
      rintro _ a41 w42 ⟨g42, rfl, F42⟩ hS41
      replace hb0 := hb0.fr F42 (fun (hm : N + 6 ≤ c0) => by omega)
      replace hf0_Done := OwS.fr hf0_Done F42 (fun c' hc (hm : N + 6 ≤ c') => by omega)
      replace hf0_N := OwS.fr hf0_N F42 (fun c' hc (hm : N + 6 ≤ c') => by omega)
      replace hf0_R := OwS.fr hf0_R F42 (fun c' hc (hm : N + 6 ≤ c') => by omega)
      replace hp1 := OwS.fr hp1 F42 (fun c' hc (hm : N + 6 ≤ c') => by omega)
      replace hF := hF.trans F42 (fun c' (hm : N + 6 ≤ c') => by show (c0 ≤ c' ∧ c' < c0 + 7) ∨ (c1 ≤ c' ∧ c' < c1 + 2) ∨ (r0 ≤ c' ∧ c' < r0 + 2) ∨ N ≤ c'; omega)
      refine st_val hS41 rfl rfl rfl (r_assign hS41 rfl rfl) fun a43 hS43 => wpList_nil (hK _ _ ?_)
      replace hS : Sl 91 _ [(0, .pointer (some ⟨b_p0, 0, none⟩)), (1, .slice A1 p1.length cap1), (2, .int .i64 p2), (3, .int .u64 p3), (9, .int .u64 r39)] := hS43.re ⟨rfl, rfl, rfl, rfl, rfl, trivial⟩
      clear hK K
      try clear hS29 hS30 hS31 hS32 hS33 hS34 hS37 hS38 hS41 hS43
      obtain ⟨a, ha⟩ : ∃ a', a' = a43 := ⟨_, rfl⟩
      rw [← ha] at hS ⊢; clear ha
      obtain ⟨v48, H, Hl50⟩ := bind_el H
      refine c_cut (fun a w44 => ∃ (g44 : Nat → Nat), ∃ (A45 : Option Addr), ∃ (cap46 : Nat), Sl 91 a [(0, .pointer (some ⟨b_p0, 0, none⟩)), (1, .slice A45 v48.2.1.length cap46), (2, .int .i64 p2), (9, .int .u64 v48.2.2)] ∧ OwS kd_api_RailOp 50 w44 g44 (N + 2) A45 cap46 v48.2.1 ∧ Bx w44 g44 (c0) b_p0 41 [.slice A_R_p0 v48.1.R.length cap_R_p0, .slice A_N_p0 v48.1.N.length cap_N_p0, .slice A_Done_p0 v48.1.Done.length cap_Done_p0, .int .u64 v48.1.Clock] ∧ OwS (kint .u64) 33 w44 g44 (c0 + 5) A_Done_p0 cap_Done_p0 v48.1.Done ∧ OwS (kint .i64) 3 w44 g44 (c0 + 3) A_N_p0 cap_N_p0 v48.1.N ∧ OwS kd_api_Rail 35 w44 g44 (c0 + 1) A_R_p0 cap_R_p0 v48.1.R ∧ Fr (fun q => (c0 ≤ q ∧ q < c0 + 7) ∨ (c1 ≤ q ∧ q < c1 + 2) ∨ (r0 ≤ q ∧ q < r0 + 2) ∨ N ≤ q) w g w44 g44) ?_ ?_
      · obtain ⟨x56, hx57, H⟩ := bind_el H
        refine c_pure [(0, .pointer (some ⟨b_p0, 0, none⟩)), (1, .slice A1 p1.length cap1), (2, .int .i64 p2), (3, .int .u64 p3), (9, .int .u64 r39), (10, .int .i64 x56.Supply)] (fun R hR => st_val hS rfl rfl rfl (r_move hS rfl rfl) fun a51 hS51 => st_val hS51 rfl rfl rfl (r_nil hS51 rfl rfl) fun a52 hS52 => st_val hS52 rfl rfl rfl (r_fieldB (off := 0) hS52 rfl rfl (by kernel_rfl)) fun a53 hS53 => st_val hS53 rfl rfl rfl (r_load1 (n := 1) hS53 rfl rfl (by kernel_rfl) (Bx.cell hb0 rfl)) fun a54 hS54 => st_val hS54 rfl rfl rfl (r_move hS54 rfl rfl) fun a55 hS55 => st_val hS55 rfl rfl rfl (r_index (e := 35) (sz := 3) (by_ := 24) hS55 rfl rfl rfl (by kernel_rfl) (RdS.some_ (OwS.rd hf0_R) hx57) (idx_lo hx57) (idx_hi hx57)) fun a58 hS58 => st_val hS58 rfl rfl rfl (r_fieldE (off := 0) hS58 rfl rfl (by kernel_rfl)) fun a59 hS59 => st_val hS59 rfl rfl rfl (r_load1 (n := 1) hS59 rfl rfl (by kernel_rfl) (RdS.cell (i := p2) (sz := 3) (j := 0) (OwS.rd hf0_R) hx57 rfl)) fun a60 hS60 => st_val hS60 rfl rfl rfl (r_assign hS60 rfl rfl) fun a61 hS61 => wpList_nil (hR _ (hS61.re ⟨rfl, rfl, rfl, rfl, rfl, rfl, trivial⟩))) ?_
        clear hS
        clear a
        intro a hS
        refine c_pure [(0, .pointer (some ⟨b_p0, 0, none⟩)), (1, .slice A1 p1.length cap1), (2, .int .i64 p2), (3, .int .u64 p3), (9, .int .u64 r39), (10, .int .i64 x56.Supply), (47, .bool (decide (0 ≤ x56.Supply)))] (fun R hR => st_val hS rfl rfl rfl (r_move hS rfl rfl) fun a62 hS62 => st_val hS62 rfl rfl rfl (r_bin hS62 rfl rfl rfl b_geq) fun a63 hS63 => wpList_nil (hR _ (hS63.re ⟨rfl, rfl, rfl, rfl, rfl, rfl, rfl, trivial⟩))) ?_
        clear hS
        clear a
        intro a hS
        refine c_cond hS rfl (fun hb64 => ?_) (fun hb64 => ?_)
        · replace H := ite_t hb64 H
          obtain ⟨r69, hr70, H⟩ := bind_el H
          refine c_region (fun K hK => ?_)
          refine st_val hS rfl rfl rfl (r_move hS rfl rfl) fun a65 hS65 => st_val hS65 rfl rfl rfl (r_move hS65 rfl rfl) fun a66 hS66 => st_val hS66 rfl rfl rfl (r_move hS66 rfl rfl) fun a67 hS67 => st_val hS67 rfl rfl rfl (r_move hS67 rfl rfl) fun a68 hS68 => ?_
          refine st_enter hS68 rfl rfl rfl (r_call hS68 rfl rfl (by kernel_rfl)) (ih (c0 := c0) (b_p0 := b_p0) (A_R_p0 := A_R_p0) (cap_R_p0 := cap_R_p0) (A_N_p0 := A_N_p0) (cap_N_p0 := cap_N_p0) (A_Done_p0 := A_Done_p0) (cap_Done_p0 := cap_Done_p0) (c1 := c1) (A1 := A1) (cap1 := cap1) (p0 := (ref25_Rails.mk p0.R (upd p0.N p2 (wi (x7 + 1))) p0.Done p0.Clock)) (p1 := p1) (p2 := x56.Supply) (p3 := p3) (g := g42) (N + 6) (N + 0) ⟨hb0, hf0_R, hf0_N, hf0_Done⟩ (by omega) hp1 (by omega) (by omega) (by omega) (by omega) (by omega) hr70) ?_
          rintro _ a75 w76 ⟨g76, A71, cap72, rfl, ⟨hb0, hf0_R, hf0_N, hf0_Done⟩, h73, F76⟩ hS75
          replace hF := hF.trans F76 (fun c' (hm : (c0 ≤ c' ∧ c' < c0 + 7) ∨ (c1 ≤ c' ∧ c' < c1 + 2) ∨ (N + 0 ≤ c' ∧ c' < N + 0 + 2) ∨ N + 6 ≤ c') => by show (c0 ≤ c' ∧ c' < c0 + 7) ∨ (c1 ≤ c' ∧ c' < c1 + 2) ∨ (r0 ≤ c' ∧ c' < r0 + 2) ∨ N ≤ c'; omega)
          refine st_val hS75 rfl rfl rfl (r_assign hS75 rfl rfl) fun a77 hS77 => wpList_nil (hK _ _ ?_)
          replace hS : Sl 91 _ [(0, .pointer (some ⟨b_p0, 0, none⟩)), (1, .slice A71 r69.2.length cap72), (2, .int .i64 p2), (9, .int .u64 r39), (10, .int .i64 x56.Supply)] := hS77.re ⟨rfl, rfl, rfl, rfl, rfl, trivial⟩
          clear hK K
          try clear hS65 hS66 hS67 hS68 hS75 hS77
          obtain ⟨a, ha⟩ : ∃ a', a' = a77 := ⟨_, rfl⟩
          rw [← ha] at hS ⊢; clear ha
          obtain ⟨x84, hx85, H⟩ := bind_el H
          obtain ⟨r88, hr89, H⟩ := bind_el H
          refine c_region1 (fun K hK => ?_)
          refine st_val hS rfl rfl rfl (r_move hS rfl rfl) fun a78 hS78 => st_val hS78 rfl rfl rfl (r_move hS78 rfl rfl) fun a79 hS79 => st_val hS79 rfl rfl rfl (r_nil hS79 rfl rfl) fun a80 hS80 => st_val hS80 rfl rfl rfl (r_fieldB (off := 2) hS80 rfl rfl (by kernel_rfl)) fun a81 hS81 => st_val hS81 rfl rfl rfl (r_load1 (n := 1) hS81 rfl rfl (by kernel_rfl) (Bx.cell hb0 rfl)) fun a82 hS82 => st_val hS82 rfl rfl rfl (r_move hS82 rfl rfl) fun a83 hS83 => st_val hS83 rfl rfl rfl (r_index (e := 33) (sz := 1) (by_ := 8) hS83 rfl rfl rfl (by kernel_rfl) (RdS.some_ (OwS.rd hf0_Done) hx85) (idx_lo hx85) (idx_hi hx85)) fun a86 hS86 => st_val hS86 rfl rfl rfl (r_load1 (n := 1) hS86 rfl rfl (by kernel_rfl) (RdS.cell (i := x56.Supply) (sz := 1) (j := 0) (OwS.rd hf0_Done) hx85 rfl)) fun a87 hS87 => ?_
          refine st_enter hS87 rfl rfl rfl (r_call hS87 rfl rfl (by kernel_rfl)) (ref25_later.calls (p0 := r39) (p1 := x84) (g := g76) (N + 6)   hr89) ?_
          rintro _ a90 w91 ⟨g91, rfl, F91⟩ hS90
          replace h73 := OwS.fr h73 F91 (fun c' hc (hm : N + 6 ≤ c') => by omega)
          replace hb0 := hb0.fr F91 (fun (hm : N + 6 ≤ c0) => by omega)
          replace hf0_Done := OwS.fr hf0_Done F91 (fun c' hc (hm : N + 6 ≤ c') => by omega)
          replace hf0_N := OwS.fr hf0_N F91 (fun c' hc (hm : N + 6 ≤ c') => by omega)
          replace hf0_R := OwS.fr hf0_R F91 (fun c' hc (hm : N + 6 ≤ c') => by omega)
          replace hF := hF.trans F91 (fun c' (hm : N + 6 ≤ c') => by show (c0 ≤ c' ∧ c' < c0 + 7) ∨ (c1 ≤ c' ∧ c' < c1 + 2) ∨ (r0 ≤ c' ∧ c' < r0 + 2) ∨ N ≤ c'; omega)
          refine st_val hS90 rfl rfl rfl (r_assign hS90 rfl rfl) fun a92 hS92 => wpList_nil (hK _ _ ?_)
          replace hS : Sl 91 _ [(0, .pointer (some ⟨b_p0, 0, none⟩)), (1, .slice A71 r69.2.length cap72), (2, .int .i64 p2), (9, .int .u64 r88)] := hS92.re ⟨rfl, rfl, rfl, rfl, trivial⟩
          clear hK K
          try clear hS78 hS79 hS80 hS81 hS82 hS83 hS86 hS87 hS90 hS92
          obtain ⟨a, ha⟩ : ∃ a', a' = a92 := ⟨_, rfl⟩
          rw [← ha] at hS ⊢; clear ha
          have e := Option.some.inj H
          subst e
          have F93 := Fr.recol2 w91 g91 (N + 0) (N + 2)
          replace h73 := h73.recol2 (N + 2)
          replace hb0 := hb0.fr F93 (fun (hm : c0 = N + 0 ∨ c0 = N + 0 + 1) => by omega)
          replace hf0_Done := OwS.fr hf0_Done F93 (fun c' hc (hm : c' = N + 0 ∨ c' = N + 0 + 1) => by omega)
          replace hf0_N := OwS.fr hf0_N F93 (fun c' hc (hm : c' = N + 0 ∨ c' = N + 0 + 1) => by omega)
          replace hf0_R := OwS.fr hf0_R F93 (fun c' hc (hm : c' = N + 0 ∨ c' = N + 0 + 1) => by omega)
          replace hF := hF.trans F93 (fun c' (hm : c' = N + 0 ∨ c' = N + 0 + 1) => by show (c0 ≤ c' ∧ c' < c0 + 7) ∨ (c1 ≤ c' ∧ c' < c1 + 2) ∨ (r0 ≤ c' ∧ c' < r0 + 2) ∨ N ≤ c'; omega)
          exact ⟨(recol2 g91 (N + 0) (N + 2)), A71, cap72, hS.re ⟨rfl, rfl, rfl, rfl, trivial⟩, h73, hb0, hf0_Done, hf0_N, hf0_R, hF⟩
        · replace H := ite_f hb64 H
          refine wp_skip ?_
          have e := Option.some.inj H
          subst e
          have F94 := Fr.recol2 w42 g42 (c1) (N + 2)
          replace hp1 := hp1.recol2 (N + 2)
          replace hb0 := hb0.fr F94 (fun (hm : c0 = c1 ∨ c0 = c1 + 1) => by omega)
          replace hf0_Done := OwS.fr hf0_Done F94 (fun c' hc (hm : c' = c1 ∨ c' = c1 + 1) => by omega)
          replace hf0_N := OwS.fr hf0_N F94 (fun c' hc (hm : c' = c1 ∨ c' = c1 + 1) => by omega)
          replace hf0_R := OwS.fr hf0_R F94 (fun c' hc (hm : c' = c1 ∨ c' = c1 + 1) => by omega)
          replace hF := hF.trans F94 (fun c' (hm : c' = c1 ∨ c' = c1 + 1) => by show (c0 ≤ c' ∧ c' < c0 + 7) ∨ (c1 ≤ c' ∧ c' < c1 + 2) ∨ (r0 ≤ c' ∧ c' < r0 + 2) ∨ N ≤ c'; omega)
          exact ⟨(recol2 g42 (c1) (N + 2)), A1, cap1, hS.re ⟨rfl, rfl, rfl, rfl, trivial⟩, hp1, hb0, hf0_Done, hf0_N, hf0_R, hF⟩
      · clear H
        clear hf0_R hf0_N hf0_Done hb0 hp1 hF
        clear hS
        rintro a w44 ⟨g44, A45, cap46, hS, h47, hb0, hf0_Done, hf0_N, hf0_R, hF⟩
        have H := Hl50
        clear Hl50
        obtain ⟨x95, hx96, H⟩ := bind_el H
        obtain ⟨x97, hx98, H⟩ := bind_el H
        refine c_draw (fun K hK => d_start (fun q => False) g44 [16] 17 #[false, false, false, false, false, false, false, false, false, false, false, false, false, false, false, false, false] (by kernel_rfl) rfl rfl (fun w99 hw99 => ?_))
        have F99 : Fr (fun _ => False) w44 g44 w99 g44 := by rw [hw99]; exact Fr.drew _ _ _
        replace h47 := OwS.fr h47 F99 (fun _ _ h => h)
        replace hb0 := hb0.fr F99 (fun h => h)
        replace hf0_Done := OwS.fr hf0_Done F99 (fun _ _ h => h)
        replace hf0_N := OwS.fr hf0_N F99 (fun _ _ h => h)
        replace hf0_R := OwS.fr hf0_R F99 (fun _ _ h => h)
        replace hF := hF.trans F99 (fun _ h => h.elim)
        have hC : Fr (fun q => False) w99 g44 w99 g44 := Fr.refl _ _ _
        refine d_pure hS 0 #[true, false, false, false, false, false, false, false, false, false, false, false, false, false, false, false, false] rfl rfl rfl rfl (by kernel_rfl) (fun _ _ _ h => h) (fun _ => (r_move hS rfl rfl)) fun a100 hS100 => d_pure hS100 1 #[true, true, false, false, false, false, false, false, false, false, false, false, false, false, false, false, false] rfl rfl rfl rfl (by kernel_rfl) (fun _ _ _ h => h) (fun _ => (r_nil hS100 rfl rfl)) fun a101 hS101 => d_pure hS101 2 #[true, true, true, false, false, false, false, false, false, false, false, false, false, false, false, false, false] rfl rfl rfl rfl (by kernel_rfl) (fun _ _ _ h => h) (fun _ => (r_fieldB (off := 2) hS101 rfl rfl (by kernel_rfl))) fun a102 hS102 => d_take hS102 3 #[true, true, true, true, false, false, false, false, false, false, false, false, false, false, false, false, false] rfl rfl rfl rfl (by kernel_rfl) (fun _ _ _ h => h) ⟨_, hC⟩ (fun w' g' Fz => (r_load1 (n := 1) hS102 rfl rfl (by kernel_rfl) (Bx.cell (hb0.fr Fz (fun h => h)) rfl))) fun a103 hS103 => d_pure hS103 4 #[true, true, true, true, true, false, false, false, false, false, false, false, false, false, false, false, false] rfl rfl rfl rfl (by kernel_rfl) (fun _ _ _ h => h) (fun _ => (r_move hS103 rfl rfl)) fun a104 hS104 => d_pure hS104 5 #[true, true, true, true, true, true, false, false, false, false, false, false, false, false, false, false, false] rfl rfl rfl rfl (by kernel_rfl) (fun _ _ _ h => h) (fun _ => (r_move hS104 rfl rfl)) fun a105 hS105 => d_pure hS105 6 #[true, true, true, true, true, true, true, false, false, false, false, false, false, false, false, false, false] rfl rfl rfl rfl (by kernel_rfl) (fun _ _ _ h => h) (fun _ => (r_move hS105 rfl rfl)) fun a106 hS106 => d_pure hS106 7 #[true, true, true, true, true, true, true, true, false, false, false, false, false, false, false, false, false] rfl rfl rfl rfl (by kernel_rfl) (fun _ _ _ h => h) (fun _ => (r_nil hS106 rfl rfl)) fun a107 hS107 => d_pure hS107 8 #[true, true, true, true, true, true, true, true, true, false, false, false, false, false, false, false, false] rfl rfl rfl rfl (by kernel_rfl) (fun _ _ _ h => h) (fun _ => (r_fieldB (off := 0) hS107 rfl rfl (by kernel_rfl))) fun a108 hS108 => d_take hS108 9 #[true, true, true, true, true, true, true, true, true, true, false, false, false, false, false, false, false] rfl rfl rfl rfl (by kernel_rfl) (fun _ _ _ h => h) ⟨_, hC⟩ (fun w' g' Fz => (r_load1 (n := 1) hS108 rfl rfl (by kernel_rfl) (Bx.cell (hb0.fr Fz (fun h => h)) rfl))) fun a109 hS109 => d_pure hS109 10 #[true, true, true, true, true, true, true, true, true, true, true, false, false, false, false, false, false] rfl rfl rfl rfl (by kernel_rfl) (fun _ _ _ h => h) (fun _ => (r_move hS109 rfl rfl)) fun a110 hS110 => d_pure hS110 11 #[true, true, true, true, true, true, true, true, true, true, true, true, false, false, false, false, false] rfl rfl rfl rfl (by kernel_rfl) (fun _ _ _ h => h) (fun _ => (r_index (e := 35) (sz := 3) (by_ := 24) hS110 rfl rfl rfl (by kernel_rfl) (RdS.some_ (OwS.rd hf0_R) hx96) (idx_lo hx96) (idx_hi hx96))) fun a111 hS111 => d_pure hS111 12 #[true, true, true, true, true, true, true, true, true, true, true, true, true, false, false, false, false] rfl rfl rfl rfl (by kernel_rfl) (fun _ _ _ h => h) (fun _ => (r_fieldE (off := 1) hS111 rfl rfl (by kernel_rfl))) fun a112 hS112 => d_take hS112 13 #[true, true, true, true, true, true, true, true, true, true, true, true, true, true, false, false, false] rfl rfl rfl rfl (by kernel_rfl) (fun _ _ _ h => h) ⟨_, hC⟩ (fun w' g' Fz => (r_load1 (n := 1) hS112 rfl rfl (by kernel_rfl) (RdS.cell (i := p2) (sz := 3) (j := 1) (OwS.rd (OwS.fr hf0_R Fz (fun _ _ h => h))) hx96 rfl))) fun a113 hS113 => d_pure hS113 14 #[true, true, true, true, true, true, true, true, true, true, true, true, true, true, true, false, false] rfl rfl rfl rfl (by kernel_rfl) (fun _ _ _ h => h) (fun _ => (r_bin hS113 rfl rfl rfl b_add)) fun a114 hS114 => d_pure hS114 15 #[true, true, true, true, true, true, true, true, true, true, true, true, true, true, true, true, false] rfl rfl rfl rfl (by kernel_rfl) (fun _ _ _ h => h) (fun _ => (r_index (e := 33) (sz := 1) (by_ := 8) hS114 rfl rfl rfl (by kernel_rfl) (RdS.some_ (OwS.rd hf0_Done) hx98) (idx_lo hx98) (idx_hi hx98))) fun a115 hS115 => ?_
        refine d_one 16 #[true, true, true, true, true, true, true, true, true, true, true, true, true, true, true, true, true] rfl (by kernel_rfl) (arm_effS hS115 rfl rfl (e_storeE (n := 1) (bb := false) (kd := (kint .u64)) (j := 0) (x' := wu (v48.2.2 + x95.RampUp)) (us := [.int .u64 (wu (v48.2.2 + x95.RampUp))]) g44 hS115 rfl rfl rfl rfl (by kernel_rfl) rfl rfl (by intro v hv; simp only [List.mem_cons, List.not_mem_nil, or_false] at hv; rcases hv with rfl <;> rfl) hf0_Done hx98 rfl (fun _ _ cs hR => by rw [show cs = _ from hR]; rfl)) (.inl (by decide)) ?_)
        rintro a116 w117 g117 ⟨hf0_Done, F117⟩ hS116
        replace h47 := OwS.fr h47 F117 (fun c' hc (hm : c' = c0 + 5) => by omega)
        replace hb0 := hb0.fr F117 (fun (hm : c0 = c0 + 5) => by omega)
        replace hf0_N := OwS.fr hf0_N F117 (fun c' hc (hm : c' = c0 + 5) => by omega)
        replace hf0_R := OwS.fr hf0_R F117 (fun c' hc (hm : c' = c0 + 5) => by omega)
        replace hF := hF.trans F117 (fun c' (hm : c' = c0 + 5) => by show (c0 ≤ c' ∧ c' < c0 + 7) ∨ (c1 ≤ c' ∧ c' < c1 + 2) ∨ (r0 ≤ c' ∧ c' < r0 + 2) ∨ N ≤ c'; omega)
        replace hb0 : Bx w117 g117 (c0) b_p0 41 [.slice A_R_p0 v48.1.R.length cap_R_p0, .slice A_N_p0 v48.1.N.length cap_N_p0, .slice A_Done_p0 (upd v48.1.Done p2 (wu (v48.2.2 + x95.RampUp))).length cap_Done_p0, .int .u64 v48.1.Clock] := by simpa only [upd_length] using hb0
        refine d_done (by kernel_rfl) (hK _ _ ?_)
        replace hS : Sl 91 _ [(0, .pointer (some ⟨b_p0, 0, none⟩)), (1, .slice A45 v48.2.1.length cap46), (2, .int .i64 p2), (9, .int .u64 v48.2.2)] := hS116.re ⟨rfl, rfl, rfl, rfl, trivial⟩
        clear hK K hC
        try clear hS100 hS101 hS102 hS103 hS104 hS105 hS106 hS107 hS108 hS109 hS110 hS111 hS112 hS113 hS114 hS115 hS116
        obtain ⟨a, ha⟩ : ∃ a', a' = a116 := ⟨_, rfl⟩
        rw [← ha] at hS ⊢; clear ha
        obtain ⟨x126, hx127, H⟩ := bind_el H
        obtain ⟨y136, hy137, H⟩ := bind_el H
        refine c_region (fun K hK => ?_)
        refine st_val hS rfl rfl rfl (r_move hS rfl rfl) fun a118 hS118 => st_val hS118 rfl rfl rfl (r_move hS118 rfl rfl) fun a119 hS119 => st_val hS119 rfl rfl rfl (r_move hS119 rfl rfl) fun a120 hS120 => st_val hS120 rfl rfl rfl (r_move hS120 rfl rfl) fun a121 hS121 => st_val hS121 rfl rfl rfl (r_nil hS121 rfl rfl) fun a122 hS122 => st_val hS122 rfl rfl rfl (r_fieldB (off := 2) hS122 rfl rfl (by kernel_rfl)) fun a123 hS123 => st_val hS123 rfl rfl rfl (r_load1 (n := 1) hS123 rfl rfl (by kernel_rfl) (Bx.cell hb0 rfl)) fun a124 hS124 => st_val hS124 rfl rfl rfl (r_move hS124 rfl rfl) fun a125 hS125 => st_val hS125 rfl rfl rfl (r_index (e := 33) (sz := 1) (by_ := 8) hS125 rfl rfl rfl (by kernel_rfl) (RdS.some_ (OwS.rd hf0_Done) hx127) (idx_lo hx127) (idx_hi hx127)) fun a128 hS128 => st_val hS128 rfl rfl rfl (r_load1 (n := 1) hS128 rfl rfl (by kernel_rfl) (RdS.cell (i := p2) (sz := 1) (j := 0) (OwS.rd hf0_Done) hx127 rfl)) fun a129 hS129 => st_val hS129 rfl rfl rfl (r_build (parts := [(0, .int .i64 p2), (1, .bool true), (2, .int .u64 v48.2.2), (3, .int .u64 x126)]) (u := .agg #[.int .i64 p2, .bool true, .int .u64 v48.2.2, .int .u64 x126]) hS129 rfl rfl (fun _ => by kernel_rfl)) fun a130 hS130 => ?_
        refine st_eff hS130 rfl rfl rfl (e_lit (e := 50) (parts := [(0, .agg #[.int .i64 p2, .bool true, .int .u64 v48.2.2, .int .u64 x126])]) (cs := [.int .i64 p2, .bool true, .int .u64 v48.2.2, .int .u64 x126]) kd_api_RailOp [(api_RailOp.mk p2 true v48.2.2 x126)] (N + 4) g117 hS130 rfl rfl (fun _ => by kernel_rfl) rfl (by decide) (Rows.cons (cs := [.int .i64 p2, .bool true, .int .u64 v48.2.2, .int .u64 x126]) rfl Rows.nil)) ?_
        rintro _ a134 w135 g135 ⟨⟨A131, rfl, h132⟩, F135⟩ hS134
        replace h47 := OwS.fr h47 F135 (fun _ _ h => h)
        replace hb0 := hb0.fr F135 (fun h => h)
        replace hf0_Done := OwS.fr hf0_Done F135 (fun _ _ h => h)
        replace hf0_N := OwS.fr hf0_N F135 (fun _ _ h => h)
        replace hf0_R := OwS.fr hf0_R F135 (fun _ _ h => h)
        replace hF := hF.trans F135 (fun _ h => h.elim)
        refine st_eff hS134 rfl rfl rfl (e_append (e := 50) (sz := 4) (by_ := 32) (z := [.int .i64 0, .bool false, .int .u64 0, .int .u64 0]) (kd := kd_api_RailOp) g135 hS134 rfl rfl rfl rfl (by kernel_rfl) (by kernel_rfl) rfl rfl rfl rfl h47 (OwD.rdx h132) (fun _ _ _ h => h) hy137) ?_
        rintro _ a142 w143 g143 ⟨⟨A138, cap139, rfl, h140⟩, F143⟩ hS142
        replace h132 := OwS.fr h132 F143 (fun c' hc (hm : c' = N + 2) => by omega)
        replace hb0 := hb0.fr F143 (fun (hm : c0 = N + 2) => by omega)
        replace hf0_Done := OwS.fr hf0_Done F143 (fun c' hc (hm : c' = N + 2) => by omega)
        replace hf0_N := OwS.fr hf0_N F143 (fun c' hc (hm : c' = N + 2) => by omega)
        replace hf0_R := OwS.fr hf0_R F143 (fun c' hc (hm : c' = N + 2) => by omega)
        replace hF := hF.trans F143 (fun c' (hm : c' = N + 2) => by show (c0 ≤ c' ∧ c' < c0 + 7) ∨ (c1 ≤ c' ∧ c' < c1 + 2) ∨ (r0 ≤ c' ∧ c' < r0 + 2) ∨ N ≤ c'; omega)
        refine st_val hS142 rfl rfl rfl (r_assign hS142 rfl rfl) fun a144 hS144 => wpList_nil (hK _ _ ?_)
        replace hS : Sl 91 _ [(8, .slice A138 y136.length cap139)] := hS144.re ⟨rfl, trivial⟩
        clear hK K
        try clear hS118 hS119 hS120 hS121 hS122 hS123 hS124 hS125 hS128 hS129 hS130 hS134 hS142 hS144
        obtain ⟨a, ha⟩ : ∃ a', a' = a144 := ⟨_, rfl⟩
        rw [← ha] at hS ⊢; clear ha
        refine wp_ret ?_
        have e := Option.some.inj H
        subst e
        have F145 := Fr.recol2 w143 g143 (N + 2) r0
        replace h140 := h140.recol2 r0
        replace hb0 := hb0.fr F145 (fun (hm : c0 = N + 2 ∨ c0 = N + 2 + 1) => by omega)
        replace hf0_Done := OwS.fr hf0_Done F145 (fun c' hc (hm : c' = N + 2 ∨ c' = N + 2 + 1) => by omega)
        replace hf0_N := OwS.fr hf0_N F145 (fun c' hc (hm : c' = N + 2 ∨ c' = N + 2 + 1) => by omega)
        replace hf0_R := OwS.fr hf0_R F145 (fun c' hc (hm : c' = N + 2 ∨ c' = N + 2 + 1) => by omega)
        replace hF := hF.trans F145 (fun c' (hm : c' = N + 2 ∨ c' = N + 2 + 1) => by show (c0 ≤ c' ∧ c' < c0 + 7) ∨ (c1 ≤ c' ∧ c' < c1 + 2) ∨ (r0 ≤ c' ∧ c' < r0 + 2) ∨ N ≤ c'; omega)
        repeat (with_reducible first | refine then_ret ?_ | refine inBlock_ret ?_)
        exact c_ret1 hS Try.results47 rfl ⟨_, rfl, (recol2 g143 (N + 2) r0), A138, cap139, rfl, ⟨hb0, hf0_R, hf0_N, hf0_Done⟩, h140, hF⟩
theorem ref25_Rails_add.calls {p0 : ref25_Rails} {c0 : Nat}  {b_p0 : Nat} {A_R_p0 : Option Addr} {cap_R_p0 : Nat} {A_N_p0 : Option Addr} {cap_N_p0 : Nat} {A_Done_p0 : Option Addr} {cap_Done_p0 : Nat} {p1 : List api_RailOp} {A1 : Option Addr} {cap1 : Nat} {c1 : Nat} {p2 : Int} {p3 : Int} {w : World} {g : Nat → Nat} {out : ref25_Rails × (List api_RailOp)} (N : Nat) (r0 : Nat) (hp0 : ref25_Rails_At w g c0 b_p0 A_R_p0 cap_R_p0 A_N_p0 cap_N_p0 A_Done_p0 cap_Done_p0 p0) (hc0 : c0 + 7 ≤ N) (hp1 : OwS kd_api_RailOp 50 w g c1 A1 cap1 p1) (hc1 : c1 + 2 ≤ N) (ho1_0 : c1 + 2 ≤ c0 ∨ c0 + 7 ≤ c1) (hr0 : r0 + 2 ≤ N) (hv0_1 : r0 + 2 ≤ c1 ∨ c1 + 2 ≤ r0) (hq0_0 : r0 + 2 ≤ c0 ∨ c0 + 7 ≤ r0) (H : ref25_Rails_add.f p0 p1 p2 p3 = some out) :
    Calls Try.prog 47 #[.pointer (some ⟨b_p0, 0, none⟩), .slice A1 p1.length cap1, .int .i64 p2, .int .u64 p3] w (fun e w' => ∃ v, e = .returned v ∧ ∃ (g' : Nat → Nat) (A_r0 : Option Addr) (cap_r0 : Nat), v = .slice A_r0 out.2.length cap_r0 ∧ ref25_Rails_At w' g' c0 b_p0 A_R_p0 cap_R_p0 A_N_p0 cap_N_p0 A_Done_p0 cap_Done_p0 out.1 ∧ OwS kd_api_RailOp 50 w' g' r0 A_r0 cap_r0 out.2 ∧ Fr (fun q => (c0 ≤ q ∧ q < c0 + 7) ∨ (c1 ≤ q ∧ q < c1 + 2) ∨ (r0 ≤ q ∧ q < r0 + 2) ∨ N ≤ q) w g w' g') :=
  ref25_Rails_add.calls_r FUEL N r0 hp0 hc0 hp1 hc1 ho1_0 hr0 hv0_1 hq0_0 H

/-! ### ref25_Rails_Acquire: function 35 -/
def ref25_Rails_Acquire.f (p0 : ref25_Rails) (p1 : Int) (p2 : Int) : Option (ref25_Rails × (List api_RailOp) × Int) := (ref25_Rails_bad.f p0 p1 p2).bind fun r6 => if r6 = true then (some (p0, [], 1)) else ((ref25_Rails_add.f (ref25_Rails.mk p0.R p0.N p0.Done p2) ([] : List api_RailOp) p1 p2).bind fun r22 => some (r22.1, r22.2, 0))
set_option maxRecDepth 100000 in
set_option maxHeartbeats 4000000 in
theorem ref25_Rails_Acquire.calls {p0 : ref25_Rails} {c0 : Nat}  {b_p0 : Nat} {A_R_p0 : Option Addr} {cap_R_p0 : Nat} {A_N_p0 : Option Addr} {cap_N_p0 : Nat} {A_Done_p0 : Option Addr} {cap_Done_p0 : Nat} {p1 : Int} {p2 : Int} {w : World} {g : Nat → Nat} {out : ref25_Rails × (List api_RailOp) × Int} (N : Nat) (r0 : Nat) (hp0 : ref25_Rails_At w g c0 b_p0 A_R_p0 cap_R_p0 A_N_p0 cap_N_p0 A_Done_p0 cap_Done_p0 p0) (hc0 : c0 + 7 ≤ N) (hr0 : r0 + 2 ≤ N) (hq0_0 : r0 + 2 ≤ c0 ∨ c0 + 7 ≤ r0) (H : ref25_Rails_Acquire.f p0 p1 p2 = some out) :
    Calls Try.prog 35 #[.pointer (some ⟨b_p0, 0, none⟩), .int .i64 p1, .int .u64 p2] w (fun e w' => ∃ v, e = .returned v ∧ ∃ (g' : Nat → Nat) (A_r0 : Option Addr) (cap_r0 : Nat), v = .tuple #[.slice A_r0 out.2.1.length cap_r0, .int .i64 out.2.2] ∧ ref25_Rails_At w' g' c0 b_p0 A_R_p0 cap_R_p0 A_N_p0 cap_N_p0 A_Done_p0 cap_Done_p0 out.1 ∧ OwS kd_api_RailOp 50 w' g' r0 A_r0 cap_r0 out.2.1 ∧ Fr (fun q => (c0 ≤ q ∧ q < c0 + 7) ∨ (r0 ≤ q ∧ q < r0 + 2) ∨ N ≤ q) w g w' g') := by
  unfold ref25_Rails_Acquire.f at H
  refine calls_enter Try.func35 rfl Try.ntmps35 rfl (fun a hS => ?_)
  replace hS : Sl 20 a [(0, .pointer (some ⟨b_p0, 0, none⟩)), (1, .int .i64 p1), (2, .int .u64 p2)] := hS
  have hF : Fr (fun q => (c0 ≤ q ∧ q < c0 + 7) ∨ (r0 ≤ q ∧ q < r0 + 2) ∨ N ≤ q) w g w g := Fr.refl _ _ _
  obtain ⟨hb0, hf0_R, hf0_N, hf0_Done⟩ := hp0
  refine c_pure [(0, .pointer (some ⟨b_p0, 0, none⟩)), (1, .int .i64 p1), (2, .int .u64 p2)] (fun R hR => st_val hS rfl rfl rfl (r_assign hS rfl rfl) fun a1 hS1 => st_val hS1 rfl rfl rfl (r_assign hS1 rfl rfl) fun a2 hS2 => wpList_nil (hR _ (hS2.re ⟨rfl, rfl, rfl, trivial⟩))) ?_
  clear hS
  clear a
  intro a hS
  refine wp_seq ?_
  obtain ⟨r6, hr7, H⟩ := bind_el H
  refine c_region (fun K hK => ?_)
  refine st_val hS rfl rfl rfl (r_move hS rfl rfl) fun a3 hS3 => st_val hS3 rfl rfl rfl (r_move hS3 rfl rfl) fun a4 hS4 => st_val hS4 rfl rfl rfl (r_move hS4 rfl rfl) fun a5 hS5 => ?_
  refine st_enter hS5 rfl rfl rfl (r_call hS5 rfl rfl (by kernel_rfl)) (ref25_Rails_bad.calls (c0 := c0) (b_p0 := b_p0) (A_R_p0 := A_R_p0) (cap_R_p0 := cap_R_p0) (A_N_p0 := A_N_p0) (cap_N_p0 := cap_N_p0) (A_Done_p0 := A_Done_p0) (cap_Done_p0 := cap_Done_p0) (p0 := p0) (p1 := p1) (p2 := p2) (g := g) (N + 4)  ⟨hb0, hf0_R, hf0_N, hf0_Done⟩ (by omega) hr7) ?_
  rintro _ a8 w9 ⟨g9, rfl, F9⟩ hS8
  replace hb0 := hb0.fr F9 (fun (hm : N + 4 ≤ c0) => by omega)
  replace hf0_Done := OwS.fr hf0_Done F9 (fun c' hc (hm : N + 4 ≤ c') => by omega)
  replace hf0_N := OwS.fr hf0_N F9 (fun c' hc (hm : N + 4 ≤ c') => by omega)
  replace hf0_R := OwS.fr hf0_R F9 (fun c' hc (hm : N + 4 ≤ c') => by omega)
  replace hF := hF.trans F9 (fun c' (hm : N + 4 ≤ c') => by show (c0 ≤ c' ∧ c' < c0 + 7) ∨ (r0 ≤ c' ∧ c' < r0 + 2) ∨ N ≤ c'; omega)
  refine wpList_nil (hK _ _ ?_)
  replace hS : Sl 20 _ [(0, .pointer (some ⟨b_p0, 0, none⟩)), (1, .int .i64 p1), (2, .int .u64 p2), (11, .bool r6)] := hS8.re ⟨rfl, rfl, rfl, rfl, trivial⟩
  clear hK K
  try clear hS3 hS4 hS5 hS8
  obtain ⟨a, ha⟩ : ∃ a', a' = a8 := ⟨_, rfl⟩
  rw [← ha] at hS ⊢; clear ha
  refine c_cond hS rfl (fun hb10 => ?_) (fun hb10 => ?_)
  · replace H := ite_t hb10 H
    refine c_pure [(6, .slice none 0 0), (7, .int .i64 1)] (fun R hR => st_val hS rfl rfl rfl (r_assign hS rfl rfl) fun a11 hS11 => st_val hS11 rfl rfl rfl (r_assign hS11 rfl rfl) fun a12 hS12 => wpList_nil (hR _ (hS12.re ⟨rfl, rfl, trivial⟩))) ?_
    clear hS
    clear a
    intro a hS
    refine wp_ret ?_
    have e := Option.some.inj H
    subst e
    repeat (with_reducible first | refine then_ret ?_ | refine inBlock_ret ?_)
    exact c_ret2 hS Try.results35 rfl rfl ⟨_, rfl, g9, none, 0, rfl, ⟨hb0, hf0_R, hf0_N, hf0_Done⟩, OwS.nil kd_api_RailOp 50 w9 g9 r0, hF⟩
  · replace H := ite_f hb10 H
    refine wp_skip ?_
    change Code.wp _ _ _ _ _
    refine c_region (fun K hK => ?_)
    refine st_val hS rfl rfl rfl (r_move hS rfl rfl) fun a13 hS13 => st_val hS13 rfl rfl rfl (r_move hS13 rfl rfl) fun a14 hS14 => st_val hS14 rfl rfl rfl (r_nil hS14 rfl rfl) fun a15 hS15 => st_val hS15 rfl rfl rfl (r_fieldB (off := 3) hS15 rfl rfl (by kernel_rfl)) fun a16 hS16 => ?_
    refine st_effS hS16 rfl rfl (e_storeB (n := 1) (bb := false) (cs' := [.slice A_R_p0 p0.R.length cap_R_p0, .slice A_N_p0 p0.N.length cap_N_p0, .slice A_Done_p0 p0.Done.length cap_Done_p0, .int .u64 p2]) g9 hS16 rfl rfl rfl (by kernel_rfl) rfl rfl rfl hb0 rfl rfl) ?_
    rintro a17 w18 g18 ⟨hb0, F18⟩ hS17
    replace hf0_Done := OwS.fr hf0_Done F18 (fun c' hc (hm : c' = c0) => by omega)
    replace hf0_N := OwS.fr hf0_N F18 (fun c' hc (hm : c' = c0) => by omega)
    replace hf0_R := OwS.fr hf0_R F18 (fun c' hc (hm : c' = c0) => by omega)
    replace hF := hF.trans F18 (fun c' (hm : c' = c0) => by show (c0 ≤ c' ∧ c' < c0 + 7) ∨ (r0 ≤ c' ∧ c' < r0 + 2) ∨ N ≤ c'; omega)
    refine wpList_nil (hK _ _ ?_)
    replace hS : Sl 20 _ [(0, .pointer (some ⟨b_p0, 0, none⟩)), (1, .int .i64 p1), (2, .int .u64 p2)] := hS17.re ⟨rfl, rfl, rfl, trivial⟩
    clear hK K
    try clear hS13 hS14 hS15 hS16 hS17
    obtain ⟨a, ha⟩ : ∃ a', a' = a17 := ⟨_, rfl⟩
    rw [← ha] at hS ⊢; clear ha
    obtain ⟨r22, hr23, H⟩ := bind_el H
    refine c_region (fun K hK => ?_)
    refine st_val hS rfl rfl rfl (r_move hS rfl rfl) fun a19 hS19 => st_val hS19 rfl rfl rfl (r_move hS19 rfl rfl) fun a20 hS20 => st_val hS20 rfl rfl rfl (r_move hS20 rfl rfl) fun a21 hS21 => ?_
    refine st_enter hS21 rfl rfl rfl (r_call hS21 rfl rfl (by kernel_rfl)) (ref25_Rails_add.calls (c0 := c0) (b_p0 := b_p0) (A_R_p0 := A_R_p0) (cap_R_p0 := cap_R_p0) (A_N_p0 := A_N_p0) (cap_N_p0 := cap_N_p0) (A_Done_p0 := A_Done_p0) (cap_Done_p0 := cap_Done_p0) (c1 := N + 0) (A1 := none) (cap1 := 0) (p0 := (ref25_Rails.mk p0.R p0.N p0.Done p2)) (p1 := ([] : List api_RailOp)) (p2 := p1) (p3 := p2) (g := g18) (N + 4) (N + 2) ⟨hb0, hf0_R, hf0_N, hf0_Done⟩ (by omega) (OwS.nil kd_api_RailOp 50 w18 g18 (N + 0)) (by omega) (by omega) (by omega) (by omega) (by omega) hr23) ?_
    rintro _ a28 w29 ⟨g29, A24, cap25, rfl, ⟨hb0, hf0_R, hf0_N, hf0_Done⟩, h26, F29⟩ hS28
    replace hF := hF.trans F29 (fun c' (hm : (c0 ≤ c' ∧ c' < c0 + 7) ∨ (N + 0 ≤ c' ∧ c' < N + 0 + 2) ∨ (N + 2 ≤ c' ∧ c' < N + 2 + 2) ∨ N + 4 ≤ c') => by show (c0 ≤ c' ∧ c' < c0 + 7) ∨ (r0 ≤ c' ∧ c' < r0 + 2) ∨ N ≤ c'; omega)
    refine st_val hS28 rfl rfl rfl (r_assign hS28 rfl rfl) fun a30 hS30 => st_val hS30 rfl rfl rfl (r_assign hS30 rfl rfl) fun a31 hS31 => wpList_nil (hK _ _ ?_)
    replace hS : Sl 20 _ [(6, .slice A24 r22.2.length cap25), (7, .int .i64 0)] := hS31.re ⟨rfl, rfl, trivial⟩
    clear hK K
    try clear hS19 hS20 hS21 hS28 hS30 hS31
    obtain ⟨a, ha⟩ : ∃ a', a' = a31 := ⟨_, rfl⟩
    rw [← ha] at hS ⊢; clear ha
    refine wp_ret ?_
    have e := Option.some.inj H
    subst e
    have F32 := Fr.recol2 w29 g29 (N + 2) r0
    replace h26 := h26.recol2 r0
    replace hb0 := hb0.fr F32 (fun (hm : c0 = N + 2 ∨ c0 = N + 2 + 1) => by omega)
    replace hf0_Done := OwS.fr hf0_Done F32 (fun c' hc (hm : c' = N + 2 ∨ c' = N + 2 + 1) => by omega)
    replace hf0_N := OwS.fr hf0_N F32 (fun c' hc (hm : c' = N + 2 ∨ c' = N + 2 + 1) => by omega)
    replace hf0_R := OwS.fr hf0_R F32 (fun c' hc (hm : c' = N + 2 ∨ c' = N + 2 + 1) => by omega)
    replace hF := hF.trans F32 (fun c' (hm : c' = N + 2 ∨ c' = N + 2 + 1) => by show (c0 ≤ c' ∧ c' < c0 + 7) ∨ (r0 ≤ c' ∧ c' < r0 + 2) ∨ N ≤ c'; omega)
    repeat (with_reducible first | refine then_ret ?_ | refine inBlock_ret ?_)
    exact c_ret2 hS Try.results35 rfl rfl ⟨_, rfl, (recol2 g29 (N + 2) r0), A24, cap25, rfl, ⟨hb0, hf0_R, hf0_N, hf0_Done⟩, h26, hF⟩

/-! ### law25_want: function 18 -/
def law25_want.f (p0 : ref25_Rails) (p1 : law25_Call) (p2 : Int) (p3 : Int) : Option (ref25_Rails × (List api_RailOp) × Int) := (law25_Call_at.f p1 p2 p3).bind fun r11 => if p1.Release = true then ((ref25_Rails_Release.f p0 r11.1 r11.2).bind fun r26 => some (r26.1, r26.2.1, r26.2.2)) else ((ref25_Rails_Acquire.f p0 r11.1 r11.2).bind fun r42 => some (r42.1, r42.2.1, r42.2.2))
set_option maxRecDepth 100000 in
set_option maxHeartbeats 4000000 in
theorem law25_want.calls {p0 : ref25_Rails} {c0 : Nat}  {b_p0 : Nat} {A_R_p0 : Option Addr} {cap_R_p0 : Nat} {A_N_p0 : Option Addr} {cap_N_p0 : Nat} {A_Done_p0 : Option Addr} {cap_Done_p0 : Nat} {p1 : law25_Call} {p2 : Int} {p3 : Int} {w : World} {g : Nat → Nat} {out : ref25_Rails × (List api_RailOp) × Int} (N : Nat) (r0 : Nat) (hp0 : ref25_Rails_At w g c0 b_p0 A_R_p0 cap_R_p0 A_N_p0 cap_N_p0 A_Done_p0 cap_Done_p0 p0) (hc0 : c0 + 7 ≤ N) (hr0 : r0 + 2 ≤ N) (hq0_0 : r0 + 2 ≤ c0 ∨ c0 + 7 ≤ r0) (H : law25_want.f p0 p1 p2 p3 = some out) :
    Calls Try.prog 18 #[.pointer (some ⟨b_p0, 0, none⟩), .agg #[.bool p1.Release, .int .i64 p1.Rail, .int .u64 p1.Wait, .bool p1.Raw], .int .i64 p2, .int .u64 p3] w (fun e w' => ∃ v, e = .returned v ∧ ∃ (g' : Nat → Nat) (A_r0 : Option Addr) (cap_r0 : Nat), v = .tuple #[.slice A_r0 out.2.1.length cap_r0, .int .i64 out.2.2] ∧ ref25_Rails_At w' g' c0 b_p0 A_R_p0 cap_R_p0 A_N_p0 cap_N_p0 A_Done_p0 cap_Done_p0 out.1 ∧ OwS kd_api_RailOp 50 w' g' r0 A_r0 cap_r0 out.2.1 ∧ Fr (fun q => (c0 ≤ q ∧ q < c0 + 7) ∨ (r0 ≤ q ∧ q < r0 + 2) ∨ N ≤ q) w g w' g') := by
  unfold law25_want.f at H
  refine calls_enter Try.func18 rfl Try.ntmps18 rfl (fun a hS => ?_)
  replace hS : Sl 33 a [(0, .pointer (some ⟨b_p0, 0, none⟩)), (1, .agg #[.bool p1.Release, .int .i64 p1.Rail, .int .u64 p1.Wait, .bool p1.Raw]), (2, .int .i64 p2), (3, .int .u64 p3)] := hS
  have hF : Fr (fun q => (c0 ≤ q ∧ q < c0 + 7) ∨ (r0 ≤ q ∧ q < r0 + 2) ∨ N ≤ q) w g w g := Fr.refl _ _ _
  obtain ⟨hb0, hf0_R, hf0_N, hf0_Done⟩ := hp0
  refine c_region (fun K hK => ?_)
  refine st_eff hS rfl rfl rfl (e_box (cs := [.bool p1.Release, .int .i64 p1.Rail, .int .u64 p1.Wait, .bool p1.Raw]) (N + 0) g hS rfl rfl rfl) ?_
  rintro _ a4 w5 g5 ⟨⟨b1, rfl, h2⟩, F5⟩ hS4
  replace hb0 := hb0.fr F5 (fun h => h)
  replace hf0_Done := OwS.fr hf0_Done F5 (fun _ _ h => h)
  replace hf0_N := OwS.fr hf0_N F5 (fun _ _ h => h)
  replace hf0_R := OwS.fr hf0_R F5 (fun _ _ h => h)
  replace hF := hF.trans F5 (fun _ h => h.elim)
  refine st_val hS4 rfl rfl rfl (r_assign hS4 rfl rfl) fun a6 hS6 => st_val hS6 rfl rfl rfl (r_assign hS6 rfl rfl) fun a7 hS7 => wpList_nil (hK _ _ ?_)
  replace hS : Sl 33 _ [(0, .pointer (some ⟨b_p0, 0, none⟩)), (2, .int .i64 p2), (3, .int .u64 p3), (5, .pointer (some ⟨b1, 0, none⟩))] := hS7.re ⟨rfl, rfl, rfl, rfl, trivial⟩
  clear hK K
  try clear hS4 hS6 hS7
  obtain ⟨a, ha⟩ : ∃ a', a' = a7 := ⟨_, rfl⟩
  rw [← ha] at hS ⊢; clear ha
  obtain ⟨r11, hr12, H⟩ := bind_el H
  refine c_region (fun K hK => ?_)
  refine st_val hS rfl rfl rfl (r_loadN (n := 4) (cs := [.bool p1.Release, .int .i64 p1.Rail, .int .u64 p1.Wait, .bool p1.Raw]) hS rfl rfl (by kernel_rfl) rfl (Bx.cells_off h2 0 4)) fun a8 hS8 => st_val hS8 rfl rfl rfl (r_move hS8 rfl rfl) fun a9 hS9 => st_val hS9 rfl rfl rfl (r_move hS9 rfl rfl) fun a10 hS10 => ?_
  refine st_enter hS10 rfl rfl rfl (r_call hS10 rfl rfl (by kernel_rfl)) (law25_Call_at.calls (p0 := p1) (p1 := p2) (p2 := p3) (g := g5) (N + 6)   hr12) ?_
  rintro _ a13 w14 ⟨g14, rfl, F14⟩ hS13
  replace h2 := h2.fr F14 (fun (hm : N + 6 ≤ N + 0) => by omega)
  replace hb0 := hb0.fr F14 (fun (hm : N + 6 ≤ c0) => by omega)
  replace hf0_Done := OwS.fr hf0_Done F14 (fun c' hc (hm : N + 6 ≤ c') => by omega)
  replace hf0_N := OwS.fr hf0_N F14 (fun c' hc (hm : N + 6 ≤ c') => by omega)
  replace hf0_R := OwS.fr hf0_R F14 (fun c' hc (hm : N + 6 ≤ c') => by omega)
  replace hF := hF.trans F14 (fun c' (hm : N + 6 ≤ c') => by show (c0 ≤ c' ∧ c' < c0 + 7) ∨ (r0 ≤ c' ∧ c' < r0 + 2) ∨ N ≤ c'; omega)
  refine st_val hS13 rfl rfl rfl (r_move hS13 rfl rfl) fun a15 hS15 => st_val hS15 rfl rfl rfl (r_extract hS15 rfl rfl rfl) fun a16 hS16 => st_val hS16 rfl rfl rfl (r_extract hS16 rfl rfl rfl) fun a17 hS17 => st_val hS17 rfl rfl rfl (r_assign hS17 rfl rfl) fun a18 hS18 => st_val hS18 rfl rfl rfl (r_assign hS18 rfl rfl) fun a19 hS19 => wpList_nil (hK _ _ ?_)
  replace hS : Sl 33 _ [(0, .pointer (some ⟨b_p0, 0, none⟩)), (5, .pointer (some ⟨b1, 0, none⟩)), (10, .int .i64 r11.1), (11, .int .u64 r11.2)] := hS19.re ⟨rfl, rfl, rfl, rfl, trivial⟩
  clear hK K
  try clear hS8 hS9 hS10 hS13 hS15 hS16 hS17 hS18 hS19
  obtain ⟨a, ha⟩ : ∃ a', a' = a19 := ⟨_, rfl⟩
  rw [← ha] at hS ⊢; clear ha
  refine wp_seq ?_
  refine c_pure [(0, .pointer (some ⟨b_p0, 0, none⟩)), (10, .int .i64 r11.1), (11, .int .u64 r11.2), (20, .bool p1.Release)] (fun R hR => st_val hS rfl rfl rfl (r_fieldB (off := 0) hS rfl rfl (by kernel_rfl)) fun a20 hS20 => st_val hS20 rfl rfl rfl (r_load1 (n := 1) hS20 rfl rfl (by kernel_rfl) (Bx.cell h2 rfl)) fun a21 hS21 => wpList_nil (hR _ (hS21.re ⟨rfl, rfl, rfl, rfl, trivial⟩))) ?_
  clear hS
  clear a
  intro a hS
  refine c_cond hS rfl (fun hb22 => ?_) (fun hb22 => ?_)
  · replace H := ite_t hb22 H
    obtain ⟨r26, hr27, H⟩ := bind_el H
    refine c_region (fun K hK => ?_)
    refine st_val hS rfl rfl rfl (r_move hS rfl rfl) fun a23 hS23 => st_val hS23 rfl rfl rfl (r_move hS23 rfl rfl) fun a24 hS24 => st_val hS24 rfl rfl rfl (r_move hS24 rfl rfl) fun a25 hS25 => ?_
    refine st_enter hS25 rfl rfl rfl (r_call hS25 rfl rfl (by kernel_rfl)) (ref25_Rails_Release.calls (c0 := c0) (b_p0 := b_p0) (A_R_p0 := A_R_p0) (cap_R_p0 := cap_R_p0) (A_N_p0 := A_N_p0) (cap_N_p0 := cap_N_p0) (A_Done_p0 := A_Done_p0) (cap_Done_p0 := cap_Done_p0) (p0 := p0) (p1 := r11.1) (p2 := r11.2) (g := g14) (N + 6) (N + 2) ⟨hb0, hf0_R, hf0_N, hf0_Done⟩ (by omega) (by omega) (by omega) hr27) ?_
    rintro _ a32 w33 ⟨g33, A28, cap29, rfl, ⟨hb0, hf0_R, hf0_N, hf0_Done⟩, h30, F33⟩ hS32
    replace hF := hF.trans F33 (fun c' (hm : (c0 ≤ c' ∧ c' < c0 + 7) ∨ (N + 2 ≤ c' ∧ c' < N + 2 + 2) ∨ N + 6 ≤ c') => by show (c0 ≤ c' ∧ c' < c0 + 7) ∨ (r0 ≤ c' ∧ c' < r0 + 2) ∨ N ≤ c'; omega)
    refine st_val hS32 rfl rfl rfl (r_extract hS32 rfl rfl rfl) fun a34 hS34 => st_val hS34 rfl rfl rfl (r_extract hS34 rfl rfl rfl) fun a35 hS35 => st_val hS35 rfl rfl rfl (r_assign hS35 rfl rfl) fun a36 hS36 => st_val hS36 rfl rfl rfl (r_assign hS36 rfl rfl) fun a37 hS37 => wpList_nil (hK _ _ ?_)
    replace hS : Sl 33 _ [(8, .slice A28 r26.2.1.length cap29), (9, .int .i64 r26.2.2)] := hS37.re ⟨rfl, rfl, trivial⟩
    clear hK K
    try clear hS23 hS24 hS25 hS32 hS34 hS35 hS36 hS37
    obtain ⟨a, ha⟩ : ∃ a', a' = a37 := ⟨_, rfl⟩
    rw [← ha] at hS ⊢; clear ha
    refine wp_ret ?_
    have e := Option.some.inj H
    subst e
    have F38 := Fr.recol2 w33 g33 (N + 2) r0
    replace h30 := h30.recol2 r0
    replace hb0 := hb0.fr F38 (fun (hm : c0 = N + 2 ∨ c0 = N + 2 + 1) => by omega)
    replace hf0_Done := OwS.fr hf0_Done F38 (fun c' hc (hm : c' = N + 2 ∨ c' = N + 2 + 1) => by omega)
    replace hf0_N := OwS.fr hf0_N F38 (fun c' hc (hm : c' = N + 2 ∨ c' = N + 2 + 1) => by omega)
    replace hf0_R := OwS.fr hf0_R F38 (fun c' hc (hm : c' = N + 2 ∨ c' = N + 2 + 1) => by omega)
    replace hF := hF.trans F38 (fun c' (hm : c' = N + 2 ∨ c' = N + 2 + 1) => by show (c0 ≤ c' ∧ c' < c0 + 7) ∨ (r0 ≤ c' ∧ c' < r0 + 2) ∨ N ≤ c'; omega)
    repeat (with_reducible first | refine then_ret ?_ | refine inBlock_ret ?_)
    exact c_ret2 hS Try.results18 rfl rfl ⟨_, rfl, (recol2 g33 (N + 2) r0), A28, cap29, rfl, ⟨hb0, hf0_R, hf0_N, hf0_Done⟩, h30, hF⟩
  · replace H := ite_f hb22 H
    refine wp_skip ?_
    change Code.wp _ _ _ _ _
    obtain ⟨r42, hr43, H⟩ := bind_el H
    refine c_region (fun K hK => ?_)
    refine st_val hS rfl rfl rfl (r_move hS rfl rfl) fun a39 hS39 => st_val hS39 rfl rfl rfl (r_move hS39 rfl rfl) fun a40 hS40 => st_val hS40 rfl rfl rfl (r_move hS40 rfl rfl) fun a41 hS41 => ?_
    refine st_enter hS41 rfl rfl rfl (r_call hS41 rfl rfl (by kernel_rfl)) (ref25_Rails_Acquire.calls (c0 := c0) (b_p0 := b_p0) (A_R_p0 := A_R_p0) (cap_R_p0 := cap_R_p0) (A_N_p0 := A_N_p0) (cap_N_p0 := cap_N_p0) (A_Done_p0 := A_Done_p0) (cap_Done_p0 := cap_Done_p0) (p0 := p0) (p1 := r11.1) (p2 := r11.2) (g := g14) (N + 6) (N + 4) ⟨hb0, hf0_R, hf0_N, hf0_Done⟩ (by omega) (by omega) (by omega) hr43) ?_
    rintro _ a48 w49 ⟨g49, A44, cap45, rfl, ⟨hb0, hf0_R, hf0_N, hf0_Done⟩, h46, F49⟩ hS48
    replace hF := hF.trans F49 (fun c' (hm : (c0 ≤ c' ∧ c' < c0 + 7) ∨ (N + 4 ≤ c' ∧ c' < N + 4 + 2) ∨ N + 6 ≤ c') => by show (c0 ≤ c' ∧ c' < c0 + 7) ∨ (r0 ≤ c' ∧ c' < r0 + 2) ∨ N ≤ c'; omega)
    refine st_val hS48 rfl rfl rfl (r_extract hS48 rfl rfl rfl) fun a50 hS50 => st_val hS50 rfl rfl rfl (r_extract hS50 rfl rfl rfl) fun a51 hS51 => st_val hS51 rfl rfl rfl (r_assign hS51 rfl rfl) fun a52 hS52 => st_val hS52 rfl rfl rfl (r_assign hS52 rfl rfl) fun a53 hS53 => wpList_nil (hK _ _ ?_)
    replace hS : Sl 33 _ [(8, .slice A44 r42.2.1.length cap45), (9, .int .i64 r42.2.2)] := hS53.re ⟨rfl, rfl, trivial⟩
    clear hK K
    try clear hS39 hS40 hS41 hS48 hS50 hS51 hS52 hS53
    obtain ⟨a, ha⟩ : ∃ a', a' = a53 := ⟨_, rfl⟩
    rw [← ha] at hS ⊢; clear ha
    refine wp_ret ?_
    have e := Option.some.inj H
    subst e
    have F54 := Fr.recol2 w49 g49 (N + 4) r0
    replace h46 := h46.recol2 r0
    replace hb0 := hb0.fr F54 (fun (hm : c0 = N + 4 ∨ c0 = N + 4 + 1) => by omega)
    replace hf0_Done := OwS.fr hf0_Done F54 (fun c' hc (hm : c' = N + 4 ∨ c' = N + 4 + 1) => by omega)
    replace hf0_N := OwS.fr hf0_N F54 (fun c' hc (hm : c' = N + 4 ∨ c' = N + 4 + 1) => by omega)
    replace hf0_R := OwS.fr hf0_R F54 (fun c' hc (hm : c' = N + 4 ∨ c' = N + 4 + 1) => by omega)
    replace hF := hF.trans F54 (fun c' (hm : c' = N + 4 ∨ c' = N + 4 + 1) => by show (c0 ≤ c' ∧ c' < c0 + 7) ∨ (r0 ≤ c' ∧ c' < r0 + 2) ∨ N ≤ c'; omega)
    repeat (with_reducible first | refine then_ret ?_ | refine inBlock_ret ?_)
    exact c_ret2 hS Try.results18 rfl rfl ⟨_, rfl, (recol2 g49 (N + 4) r0), A44, cap45, rfl, ⟨hb0, hf0_R, hf0_N, hf0_Done⟩, h46, hF⟩

/-! ### ref25_Rails_Count: function 23 -/
def ref25_Rails_Count.f (p0 : ref25_Rails) (p1 : Int) : Option (Int) := if ((decide (p1 < 0)) || (decide ((p0.R.length : Int) ≤ p1))) = true then (some 0) else ((idx p0.N p1).bind fun x37 => some x37)
set_option maxRecDepth 100000 in
set_option maxHeartbeats 4000000 in
theorem ref25_Rails_Count.calls {p0 : ref25_Rails} {c0 : Nat}  {b_p0 : Nat} {A_R_p0 : Option Addr} {cap_R_p0 : Nat} {A_N_p0 : Option Addr} {cap_N_p0 : Nat} {A_Done_p0 : Option Addr} {cap_Done_p0 : Nat} {p1 : Int} {w : World} {g : Nat → Nat} {out : Int} (N : Nat) (hp0 : ref25_Rails_At w g c0 b_p0 A_R_p0 cap_R_p0 A_N_p0 cap_N_p0 A_Done_p0 cap_Done_p0 p0) (hc0 : c0 + 7 ≤ N) (H : ref25_Rails_Count.f p0 p1 = some out) :
    Calls Try.prog 23 #[.pointer (some ⟨b_p0, 0, none⟩), .int .i64 p1] w (fun e w' => ∃ v, e = .returned v ∧ ∃ (g' : Nat → Nat), v = .int .i64 out ∧ Fr (fun q => N ≤ q) w g w' g') := by
  unfold ref25_Rails_Count.f at H
  refine calls_enter Try.func23 rfl Try.ntmps23 rfl (fun a hS => ?_)
  replace hS : Sl 23 a [(0, .pointer (some ⟨b_p0, 0, none⟩)), (1, .int .i64 p1)] := hS
  have hF : Fr (fun q => N ≤ q) w g w g := Fr.refl _ _ _
  obtain ⟨hb0, hf0_R, hf0_N, hf0_Done⟩ := hp0
  refine c_pure [(0, .pointer (some ⟨b_p0, 0, none⟩)), (1, .int .i64 p1)] (fun R hR => st_val hS rfl rfl rfl (r_assign hS rfl rfl) fun a1 hS1 => wpList_nil (hR _ (hS1.re ⟨rfl, rfl, trivial⟩))) ?_
  clear hS
  clear a
  intro a hS
  refine wp_seq ?_
  refine c_region (fun K hK => ?_)
  refine st_val hS rfl rfl rfl (r_move hS rfl rfl) fun a2 hS2 => st_val hS2 rfl rfl rfl (r_bin hS2 rfl rfl rfl b_lss) fun a3 hS3 => st_val hS3 rfl rfl rfl (r_move hS3 rfl rfl) fun a4 hS4 => ?_
  refine g_join (N := 23) 8 [(0, .pointer (some ⟨b_p0, 0, none⟩)), (1, .int .i64 p1), (15, .bool ((decide (p1 < 0)) || (decide ((p0.R.length : Int) ≤ p1))))] ?_ (fun hk => ?_)
  rotate_left
  · rcases Bool.eq_false_or_eq_true (decide (p1 < 0)) with hb5 | hb5
    · refine st_off hS4 (want_off hS4 rfl rfl rfl hb5) rfl rfl fun a13 hS13 => st_off hS13 (want_off hS13 rfl rfl rfl hb5) rfl rfl fun a14 hS14 => st_off hS14 (want_off hS14 rfl rfl rfl hb5) rfl rfl fun a15 hS15 => st_off hS15 (want_off hS15 rfl rfl rfl hb5) rfl rfl fun a16 hS16 => st_off hS16 (want_off hS16 rfl rfl rfl hb5) rfl rfl fun a17 hS17 => st_off hS17 (want_off hS17 rfl rfl rfl hb5) rfl rfl fun a18 hS18 => st_off hS18 (want_off hS18 rfl rfl rfl hb5) rfl rfl fun a19 hS19 => st_val hS19 rfl rfl rfl (r_pickT hS19 rfl rfl rfl hb5) fun a20 hS20 => hk _ (hS20.re ⟨rfl, rfl, (by rw [hb5]; rfl), trivial⟩)
    · refine st_valW hS4 (want_on hS4 rfl rfl rfl hb5) rfl rfl (r_move hS4 rfl rfl) fun a21 hS21 => st_valW hS21 (want_on hS21 rfl rfl rfl hb5) rfl rfl (r_move hS21 rfl rfl) fun a22 hS22 => st_valW hS22 (want_on hS22 rfl rfl rfl hb5) rfl rfl (r_nil hS22 rfl rfl) fun a23 hS23 => st_valW hS23 (want_on hS23 rfl rfl rfl hb5) rfl rfl (r_fieldB (off := 0) hS23 rfl rfl (by kernel_rfl)) fun a24 hS24 => st_valW hS24 (want_on hS24 rfl rfl rfl hb5) rfl rfl (r_load1 (n := 1) hS24 rfl rfl (by kernel_rfl) (Bx.cell hb0 rfl)) fun a25 hS25 => st_valW hS25 (want_on hS25 rfl rfl rfl hb5) rfl rfl (r_len (e := 35) (sz := 3) (by_ := 24) hS25 rfl rfl (by kernel_rfl)) fun a26 hS26 => st_valW hS26 (want_on hS26 rfl rfl rfl hb5) rfl rfl (r_bin hS26 rfl rfl rfl b_geq) fun a27 hS27 => st_val hS27 rfl rfl rfl (r_pickF hS27 rfl rfl rfl hb5) fun a28 hS28 => hk _ (hS28.re ⟨rfl, rfl, (by rw [hb5]; rfl), trivial⟩)
  intro a29 hS29
  refine wpList_nil (hK _ _ ?_)
  replace hS : Sl 23 _ [(0, .pointer (some ⟨b_p0, 0, none⟩)), (1, .int .i64 p1), (15, .bool ((decide (p1 < 0)) || (decide ((p0.R.length : Int) ≤ p1))))] := hS29.re ⟨rfl, rfl, rfl, trivial⟩
  clear hK K
  try clear hS2 hS3 hS4 hS29
  obtain ⟨a, ha⟩ : ∃ a', a' = a29 := ⟨_, rfl⟩
  rw [← ha] at hS ⊢; clear ha
  refine c_cond hS rfl (fun hb30 => ?_) (fun hb30 => ?_)
  · replace H := ite_t hb30 H
    refine c_pure [(4, .int .i64 0)] (fun R hR => st_val hS rfl rfl rfl (r_assign hS rfl rfl) fun a31 hS31 => wpList_nil (hR _ (hS31.re ⟨rfl, trivial⟩))) ?_
    clear hS
    clear a
    intro a hS
    refine wp_ret ?_
    have e := Option.some.inj H
    subst e
    repeat (with_reducible first | refine then_ret ?_ | refine inBlock_ret ?_)
    exact c_ret1 hS Try.results23 rfl ⟨_, rfl, g, rfl, hF⟩
  · replace H := ite_f hb30 H
    refine wp_skip ?_
    change Code.wp _ _ _ _ _
    obtain ⟨x37, hx38, H⟩ := bind_el H
    refine c_pure [(4, .int .i64 x37)] (fun R hR => st_val hS rfl rfl rfl (r_move hS rfl rfl) fun a32 hS32 => st_val hS32 rfl rfl rfl (r_nil hS32 rfl rfl) fun a33 hS33 => st_val hS33 rfl rfl rfl (r_fieldB (off := 1) hS33 rfl rfl (by kernel_rfl)) fun a34 hS34 => st_val hS34 rfl rfl rfl (r_load1 (n := 1) hS34 rfl rfl (by kernel_rfl) (Bx.cell hb0 rfl)) fun a35 hS35 => st_val hS35 rfl rfl rfl (r_move hS35 rfl rfl) fun a36 hS36 => st_val hS36 rfl rfl rfl (r_index (e := 3) (sz := 1) (by_ := 8) hS36 rfl rfl rfl (by kernel_rfl) (RdS.some_ (OwS.rd hf0_N) hx38) (idx_lo hx38) (idx_hi hx38)) fun a39 hS39 => st_val hS39 rfl rfl rfl (r_load1 (n := 1) hS39 rfl rfl (by kernel_rfl) (RdS.cell (i := p1) (sz := 1) (j := 0) (OwS.rd hf0_N) hx38 rfl)) fun a40 hS40 => st_val hS40 rfl rfl rfl (r_assign hS40 rfl rfl) fun a41 hS41 => wpList_nil (hR _ (hS41.re ⟨rfl, trivial⟩))) ?_
    clear hS
    clear a
    intro a hS
    refine wp_ret ?_
    have e := Option.some.inj H
    subst e
    repeat (with_reducible first | refine then_ret ?_ | refine inBlock_ret ?_)
    exact c_ret1 hS Try.results23 rfl ⟨_, rfl, g, rfl, hF⟩

/-! ### ref25_Rails_ReadyAt: function 21 -/
def ref25_Rails_ReadyAt.f (p0 : ref25_Rails) (p1 : Int) : Option (Int × Bool) := (ref25_Rails_Count.f p0 p1).bind fun r5 => if (r5 == 0) = true then (some (0, false)) else ((idx p0.Done p1).bind fun x18 => some (x18, true))
set_option maxRecDepth 100000 in
set_option maxHeartbeats 4000000 in
theorem ref25_Rails_ReadyAt.calls {p0 : ref25_Rails} {c0 : Nat}  {b_p0 : Nat} {A_R_p0 : Option Addr} {cap_R_p0 : Nat} {A_N_p0 : Option Addr} {cap_N_p0 : Nat} {A_Done_p0 : Option Addr} {cap_Done_p0 : Nat} {p1 : Int} {w : World} {g : Nat → Nat} {out : Int × Bool} (N : Nat) (hp0 : ref25_Rails_At w g c0 b_p0 A_R_p0 cap_R_p0 A_N_p0 cap_N_p0 A_Done_p0 cap_Done_p0 p0) (hc0 : c0 + 7 ≤ N) (H : ref25_Rails_ReadyAt.f p0 p1 = some out) :
    Calls Try.prog 21 #[.pointer (some ⟨b_p0, 0, none⟩), .int .i64 p1] w (fun e w' => ∃ v, e = .returned v ∧ ∃ (g' : Nat → Nat), v = .tuple #[.int .u64 out.1, .bool out.2] ∧ Fr (fun q => N ≤ q) w g w' g') := by
  unfold ref25_Rails_ReadyAt.f at H
  refine calls_enter Try.func21 rfl Try.ntmps21 rfl (fun a hS => ?_)
  replace hS : Sl 17 a [(0, .pointer (some ⟨b_p0, 0, none⟩)), (1, .int .i64 p1)] := hS
  have hF : Fr (fun q => N ≤ q) w g w g := Fr.refl _ _ _
  obtain ⟨hb0, hf0_R, hf0_N, hf0_Done⟩ := hp0
  refine c_pure [(0, .pointer (some ⟨b_p0, 0, none⟩)), (1, .int .i64 p1)] (fun R hR => st_val hS rfl rfl rfl (r_assign hS rfl rfl) fun a1 hS1 => st_val hS1 rfl rfl rfl (r_assign hS1 rfl rfl) fun a2 hS2 => wpList_nil (hR _ (hS2.re ⟨rfl, rfl, trivial⟩))) ?_
  clear hS
  clear a
  intro a hS
  refine wp_seq ?_
  obtain ⟨r5, hr6, H⟩ := bind_el H
  refine c_region (fun K hK => ?_)
  refine st_val hS rfl rfl rfl (r_move hS rfl rfl) fun a3 hS3 => st_val hS3 rfl rfl rfl (r_move hS3 rfl rfl) fun a4 hS4 => ?_
  refine st_enter hS4 rfl rfl rfl (r_call hS4 rfl rfl (by kernel_rfl)) (ref25_Rails_Count.calls (c0 := c0) (b_p0 := b_p0) (A_R_p0 := A_R_p0) (cap_R_p0 := cap_R_p0) (A_N_p0 := A_N_p0) (cap_N_p0 := cap_N_p0) (A_Done_p0 := A_Done_p0) (cap_Done_p0 := cap_Done_p0) (p0 := p0) (p1 := p1) (g := g) (N + 0)  ⟨hb0, hf0_R, hf0_N, hf0_Done⟩ (by omega) hr6) ?_
  rintro _ a7 w8 ⟨g8, rfl, F8⟩ hS7
  replace hb0 := hb0.fr F8 (fun (hm : N + 0 ≤ c0) => by omega)
  replace hf0_Done := OwS.fr hf0_Done F8 (fun c' hc (hm : N + 0 ≤ c') => by omega)
  replace hf0_N := OwS.fr hf0_N F8 (fun c' hc (hm : N + 0 ≤ c') => by omega)
  replace hf0_R := OwS.fr hf0_R F8 (fun c' hc (hm : N + 0 ≤ c') => by omega)
  replace hF := hF.trans F8 (fun c' (hm : N + 0 ≤ c') => by show N ≤ c'; omega)
  refine st_val hS7 rfl rfl rfl (r_bin hS7 rfl rfl rfl b_eql) fun a9 hS9 => wpList_nil (hK _ _ ?_)
  replace hS : Sl 17 _ [(0, .pointer (some ⟨b_p0, 0, none⟩)), (1, .int .i64 p1), (9, .bool (r5 == 0))] := hS9.re ⟨rfl, rfl, rfl, trivial⟩
  clear hK K
  try clear hS3 hS4 hS7 hS9
  obtain ⟨a, ha⟩ : ∃ a', a' = a9 := ⟨_, rfl⟩
  rw [← ha] at hS ⊢; clear ha
  refine c_cond hS rfl (fun hb10 => ?_) (fun hb10 => ?_)
  · replace H := ite_t hb10 H
    refine c_pure [(4, .int .u64 0), (5, .bool false)] (fun R hR => st_val hS rfl rfl rfl (r_assign hS rfl rfl) fun a11 hS11 => st_val hS11 rfl rfl rfl (r_assign hS11 rfl rfl) fun a12 hS12 => wpList_nil (hR _ (hS12.re ⟨rfl, rfl, trivial⟩))) ?_
    clear hS
    clear a
    intro a hS
    refine wp_ret ?_
    have e := Option.some.inj H
    subst e
    repeat (with_reducible first | refine then_ret ?_ | refine inBlock_ret ?_)
    exact c_ret2 hS Try.results21 rfl rfl ⟨_, rfl, g8, rfl, hF⟩
  · replace H := ite_f hb10 H
    refine wp_skip ?_
    change Code.wp _ _ _ _ _
    obtain ⟨x18, hx19, H⟩ := bind_el H
    refine c_pure [(4, .int .u64 x18), (5, .bool true)] (fun R hR => st_val hS rfl rfl rfl (r_move hS rfl rfl) fun a13 hS13 => st_val hS13 rfl rfl rfl (r_nil hS13 rfl rfl) fun a14 hS14 => st_val hS14 rfl rfl rfl (r_fieldB (off := 2) hS14 rfl rfl (by kernel_rfl)) fun a15 hS15 => st_val hS15 rfl rfl rfl (r_load1 (n := 1) hS15 rfl rfl (by kernel_rfl) (Bx.cell hb0 rfl)) fun a16 hS16 => st_val hS16 rfl rfl rfl (r_move hS16 rfl rfl) fun a17 hS17 => st_val hS17 rfl rfl rfl (r_index (e := 33) (sz := 1) (by_ := 8) hS17 rfl rfl rfl (by kernel_rfl) (RdS.some_ (OwS.rd hf0_Done) hx19) (idx_lo hx19) (idx_hi hx19)) fun a20 hS20 => st_val hS20 rfl rfl rfl (r_load1 (n := 1) hS20 rfl rfl (by kernel_rfl) (RdS.cell (i := p1) (sz := 1) (j := 0) (OwS.rd hf0_Done) hx19 rfl)) fun a21 hS21 => st_val hS21 rfl rfl rfl (r_assign hS21 rfl rfl) fun a22 hS22 => st_val hS22 rfl rfl rfl (r_assign hS22 rfl rfl) fun a23 hS23 => wpList_nil (hR _ (hS23.re ⟨rfl, rfl, trivial⟩))) ?_
    clear hS
    clear a
    intro a hS
    refine wp_ret ?_
    have e := Option.some.inj H
    subst e
    repeat (with_reducible first | refine then_ret ?_ | refine inBlock_ret ?_)
    exact c_ret2 hS Try.results21 rfl rfl ⟨_, rfl, g8, rfl, hF⟩

/-! ### ref25_Rails_Powered: function 25 -/
def ref25_Rails_Powered.f (p0 : ref25_Rails) (p1 : Int) (p2 : Int) : Option (Bool) := (ref25_Rails_Count.f p0 p1).bind fun r4 => (if decide (0 < r4) = true then (idx p0.Done p1).bind fun x16 => some (decide (x16 ≤ p2)) else some false).bind fun t22 => some t22
set_option maxRecDepth 100000 in
set_option maxHeartbeats 4000000 in
theorem ref25_Rails_Powered.calls {p0 : ref25_Rails} {c0 : Nat}  {b_p0 : Nat} {A_R_p0 : Option Addr} {cap_R_p0 : Nat} {A_N_p0 : Option Addr} {cap_N_p0 : Nat} {A_Done_p0 : Option Addr} {cap_Done_p0 : Nat} {p1 : Int} {p2 : Int} {w : World} {g : Nat → Nat} {out : Bool} (N : Nat) (hp0 : ref25_Rails_At w g c0 b_p0 A_R_p0 cap_R_p0 A_N_p0 cap_N_p0 A_Done_p0 cap_Done_p0 p0) (hc0 : c0 + 7 ≤ N) (H : ref25_Rails_Powered.f p0 p1 p2 = some out) :
    Calls Try.prog 25 #[.pointer (some ⟨b_p0, 0, none⟩), .int .i64 p1, .int .u64 p2] w (fun e w' => ∃ v, e = .returned v ∧ ∃ (g' : Nat → Nat), v = .bool out ∧ Fr (fun q => N ≤ q) w g w' g') := by
  unfold ref25_Rails_Powered.f at H
  refine calls_enter Try.func25 rfl Try.ntmps25 rfl (fun a hS => ?_)
  replace hS : Sl 22 a [(0, .pointer (some ⟨b_p0, 0, none⟩)), (1, .int .i64 p1), (2, .int .u64 p2)] := hS
  have hF : Fr (fun q => N ≤ q) w g w g := Fr.refl _ _ _
  obtain ⟨hb0, hf0_R, hf0_N, hf0_Done⟩ := hp0
  refine c_pure [(0, .pointer (some ⟨b_p0, 0, none⟩)), (1, .int .i64 p1), (2, .int .u64 p2)] (fun R hR => st_val hS rfl rfl rfl (r_assign hS rfl rfl) fun a1 hS1 => wpList_nil (hR _ (hS1.re ⟨rfl, rfl, rfl, trivial⟩))) ?_
  clear hS
  clear a
  intro a hS
  obtain ⟨r4, hr5, H⟩ := bind_el H
  obtain ⟨t22, ht23, H⟩ := bind_el H
  refine c_region (fun K hK => ?_)
  refine st_val hS rfl rfl rfl (r_move hS rfl rfl) fun a2 hS2 => st_val hS2 rfl rfl rfl (r_move hS2 rfl rfl) fun a3 hS3 => ?_
  refine st_enter hS3 rfl rfl rfl (r_call hS3 rfl rfl (by kernel_rfl)) (ref25_Rails_Count.calls (c0 := c0) (b_p0 := b_p0) (A_R_p0 := A_R_p0) (cap_R_p0 := cap_R_p0) (A_N_p0 := A_N_p0) (cap_N_p0 := cap_N_p0) (A_Done_p0 := A_Done_p0) (cap_Done_p0 := cap_Done_p0) (p0 := p0) (p1 := p1) (g := g) (N + 0)  ⟨hb0, hf0_R, hf0_N, hf0_Done⟩ (by omega) hr5) ?_
  rintro _ a6 w7 ⟨g7, rfl, F7⟩ hS6
  replace hb0 := hb0.fr F7 (fun (hm : N + 0 ≤ c0) => by omega)
  replace hf0_Done := OwS.fr hf0_Done F7 (fun c' hc (hm : N + 0 ≤ c') => by omega)
  replace hf0_N := OwS.fr hf0_N F7 (fun c' hc (hm : N + 0 ≤ c') => by omega)
  replace hf0_R := OwS.fr hf0_R F7 (fun c' hc (hm : N + 0 ≤ c') => by omega)
  replace hF := hF.trans F7 (fun c' (hm : N + 0 ≤ c') => by show N ≤ c'; omega)
  refine st_val hS6 rfl rfl rfl (r_bin hS6 rfl rfl rfl b_gtr) fun a8 hS8 => st_val hS8 rfl rfl rfl (r_move hS8 rfl rfl) fun a9 hS9 => ?_
  refine g_join (N := 22) 10 [(21, .bool t22)] ?_ (fun hk => ?_)
  rotate_left
  · rcases Bool.eq_false_or_eq_true (decide (0 < r4)) with hb10 | hb10
    · have H := ite_t hb10 ht23
      obtain ⟨x29, hx30, H⟩ := bind_el H
      have e35 := Option.some.inj H
      refine st_valW hS9 (want_on hS9 rfl rfl rfl hb10) rfl rfl (r_move hS9 rfl rfl) fun a24 hS24 => st_valW hS24 (want_on hS24 rfl rfl rfl hb10) rfl rfl (r_nil hS24 rfl rfl) fun a25 hS25 => st_valW hS25 (want_on hS25 rfl rfl rfl hb10) rfl rfl (r_fieldB (off := 2) hS25 rfl rfl (by kernel_rfl)) fun a26 hS26 => st_valW hS26 (want_on hS26 rfl rfl rfl hb10) rfl rfl (r_load1 (n := 1) hS26 rfl rfl (by kernel_rfl) (Bx.cell hb0 rfl)) fun a27 hS27 => st_valW hS27 (want_on hS27 rfl rfl rfl hb10) rfl rfl (r_move hS27 rfl rfl) fun a28 hS28 => st_valW hS28 (want_on hS28 rfl rfl rfl hb10) rfl rfl (r_index (e := 33) (sz := 1) (by_ := 8) hS28 rfl rfl rfl (by kernel_rfl) (RdS.some_ (OwS.rd hf0_Done) hx30) (idx_lo hx30) (idx_hi hx30)) fun a31 hS31 => st_valW hS31 (want_on hS31 rfl rfl rfl hb10) rfl rfl (r_load1 (n := 1) hS31 rfl rfl (by kernel_rfl) (RdS.cell (i := p1) (sz := 1) (j := 0) (OwS.rd hf0_Done) hx30 rfl)) fun a32 hS32 => st_valW hS32 (want_on hS32 rfl rfl rfl hb10) rfl rfl (r_move hS32 rfl rfl) fun a33 hS33 => st_valW hS33 (want_on hS33 rfl rfl rfl hb10) rfl rfl (r_bin hS33 rfl rfl rfl b_leq) fun a34 hS34 => st_val hS34 rfl rfl rfl (r_pickT hS34 rfl rfl rfl hb10) fun a36 hS36 => hk _ (hS36.re ⟨(by rw [← e35]; rfl), trivial⟩)
    · have H := ite_f hb10 ht23
      have e37 := Option.some.inj H
      refine st_off hS9 (want_off hS9 rfl rfl rfl hb10) rfl rfl fun a38 hS38 => st_off hS38 (want_off hS38 rfl rfl rfl hb10) rfl rfl fun a39 hS39 => st_off hS39 (want_off hS39 rfl rfl rfl hb10) rfl rfl fun a40 hS40 => st_off hS40 (want_off hS40 rfl rfl rfl hb10) rfl rfl fun a41 hS41 => st_off hS41 (want_off hS41 rfl rfl rfl hb10) rfl rfl fun a42 hS42 => st_off hS42 (want_off hS42 rfl rfl rfl hb10) rfl rfl fun a43 hS43 => st_off hS43 (want_off hS43 rfl rfl rfl hb10) rfl rfl fun a44 hS44 => st_off hS44 (want_off hS44 rfl rfl rfl hb10) rfl rfl fun a45 hS45 => st_off hS45 (want_off hS45 rfl rfl rfl hb10) rfl rfl fun a46 hS46 => st_val hS46 rfl rfl rfl (r_pickF hS46 rfl rfl rfl hb10) fun a47 hS47 => hk _ (hS47.re ⟨(by rw [← e37]; rfl), trivial⟩)
  intro a48 hS48
  refine st_val hS48 rfl rfl rfl (r_assign hS48 rfl rfl) fun a49 hS49 => wpList_nil (hK _ _ ?_)
  replace hS : Sl 22 _ [(6, .bool t22)] := hS49.re ⟨rfl, trivial⟩
  clear hK K
  try clear hS2 hS3 hS6 hS8 hS9 hS48 hS49
  obtain ⟨a, ha⟩ : ∃ a', a' = a49 := ⟨_, rfl⟩
  rw [← ha] at hS ⊢; clear ha
  refine wp_ret ?_
  have e := Option.some.inj H
  subst e
  repeat (with_reducible first | refine then_ret ?_ | refine inBlock_ret ?_)
  exact c_ret1 hS Try.results25 rfl ⟨_, rfl, g7, rfl, hF⟩


end Go.Proofs.Ytfiodhdldleocaa.Sim
