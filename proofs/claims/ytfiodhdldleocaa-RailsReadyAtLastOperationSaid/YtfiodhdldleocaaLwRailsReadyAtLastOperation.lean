/-
  Printed by a program of this session (wip/tools): plain functions with the same answers as the Go functions, and the proofs of it.
-/
import Derived.Test.YtfiodhdldleocaaFn
import Derived.Test.YtfiodhdldleocaaOp
namespace Go.Proofs.Ytfiodhdldleocaa.Sim
open Go
set_option linter.unusedVariables false
set_option linter.unusedSimpArgs false

/-! ### law25_RailsReadyAtLastOperation: function 8 -/
def law25_RailsReadyAtLastOperation.l1 (r126 : rails_Rails × (List api_RailOp) × Int) (v139 : Int) : Nat → (List Int) → Int → Option (Fl (Fl (Bool) ((List rails_rail) × Int × (List Int))) (rails_Rails × (List Int) × Int))
  | 0, _, _ => none
  | k159 + 1, m1_0, m1_1 => if decide (m1_1 < (r126.2.1.length : Int)) = true then ((idx r126.2.1 m1_1).bind fun x165 => (idx m1_0 x165.Rail).bind fun x167 => law25_RailsReadyAtLastOperation.l1 r126 v139 k159 (upd m1_0 x165.Rail x165.Done) (wi (m1_1 + 1))) else (some (.nxt (r126.1, m1_0, v139)))
def law25_RailsReadyAtLastOperation.l0 (p1 : List law25_Call) (r12 : (List api_Rail)) : Nat → rails_Rails → (List Int) → Int → Int → Option (Fl (Bool) ((List rails_rail) × Int × (List Int)))
  | 0, _, _, _, _ => none
  | k82 + 1, m0_0, m0_1, m0_2, m0_3 => if decide (m0_3 < (p1.length : Int)) = true then (((idx p1 m0_3).bind fun x94 => (law25_Call_at.f (law25_Call.mk x94.Release x94.Rail x94.Wait false) (r12.length : Int) m0_2).bind fun r112 => (law25_do.f m0_0 (law25_Call.mk x94.Release x94.Rail x94.Wait false) (r12.length : Int) m0_2).bind fun r126 => (if (r126.2.2 == 0) = true then (some r112.2) else (some m0_2) : Option (Int)).bind fun v139 => (law25_named.f r126.2.1 (r12.length : Int)).bind fun r150 => if (!r150) = true then (some (.out (.out false))) else (law25_RailsReadyAtLastOperation.l1 r126 v139 FUEL m0_1 0) : Option (Fl (Fl (Bool) ((List rails_rail) × Int × (List Int))) (rails_Rails × (List Int) × Int))).bind fun o90 => o90.go fun v89 => law25_RailsReadyAtLastOperation.l0 p1 r12 k82 v89.1 v89.2.1 v89.2.2 (wi (m0_3 + 1))) else (some (.nxt (m0_0.list, m0_0.now, m0_1)))
def law25_RailsReadyAtLastOperation.l2 (p2 : Int) (r12 : (List api_Rail)) (v67 : (List rails_rail) × Int × (List Int)) : Nat → Int → Option (Fl (Bool) (Unit))
  | 0, _ => none
  | k196 + 1, m2_0 => if decide (m2_0 < (r12.length : Int)) = true then ((rails_Rails_ReadyAt.f (rails_Rails.mk v67.1 v67.2.1) m2_0).bind fun r204 => (rails_Rails_Count.f (rails_Rails.mk v67.1 v67.2.1) m2_0).bind fun r216 => (if (!(r204.2 == (decide (0 < r216)))) = true then some true else (if r204.2 = true then (idx v67.2.2 m2_0).bind fun x230 => some (r204.1 != x230) else some false).bind fun t235 => some t235).bind fun t256 => (if (t256 || ((!r204.2) && (r204.1 != 0))) = true then some true else (rails_Rails_Powered.f (rails_Rails.mk v67.1 v67.2.1) m2_0 p2).bind fun r346 => some (!(r346 == (r204.2 && (decide (r204.1 ≤ p2)))))).bind fun t366 => if t366 = true then (some (.out false)) else (law25_RailsReadyAtLastOperation.l2 p2 r12 v67 k196 (wi (m2_0 + 1)))) else (some (.nxt ()))
def law25_RailsReadyAtLastOperation.f (p0 : List api_Rail) (p1 : List law25_Call) (p2 : Int) : Option (Bool) := if decide (40 < (p1.length : Int)) = true then ((law25_awake.f ).bind fun r6 => some r6) else ((law25_Some.f p0).bind fun r12 => (rails_New.f r12).bind fun r22 => if ((r22.2 != 0) || r22.1.isNone) = true then (some false) else ((mk (r12.length : Int) 0).bind fun y51 => ((r22.1).bind fun st71 => law25_RailsReadyAtLastOperation.l0 p1 r12 FUEL st71 y51 0 0 : Option (Fl (Bool) ((List rails_rail) × Int × (List Int)))).bind fun o68 => o68.go fun v67 => (law25_RailsReadyAtLastOperation.l2 p2 r12 v67 FUEL 0 : Option (Fl (Bool) (Unit))).bind fun o192 => o192.go fun _ => (law25_awake.f ).bind fun r413 => some r413))
set_option maxRecDepth 100000 in
set_option maxHeartbeats 4000000 in
theorem law25_RailsReadyAtLastOperation.calls {p0 : List api_Rail} {A0 : Option Addr} {cap0 : Nat} {C0 : Nat → Prop} {p1 : List law25_Call} {A1 : Option Addr} {cap1 : Nat} {C1 : Nat → Prop} {p2 : Int} {w : World} {g : Nat → Nat} {out : Bool} (N : Nat) (hp0 : RdS kd_api_Rail w g C0 A0 cap0 p0) (hC0 : ∀ c, C0 c → c < N) (hp1 : RdS kd_law25_Call w g C1 A1 cap1 p1) (hC1 : ∀ c, C1 c → c < N) (H : law25_RailsReadyAtLastOperation.f p0 p1 p2 = some out) :
    Calls Try.prog 8 #[.slice A0 p0.length cap0, .slice A1 p1.length cap1, .int .u64 p2] w (fun e w' => ∃ v, e = .returned v ∧ ∃ (g' : Nat → Nat), v = .bool out ∧ Fr (fun q => N ≤ q) w g w' g') := by
  unfold law25_RailsReadyAtLastOperation.f at H
  refine calls_enter Try.func8 rfl Try.ntmps8 rfl (fun a hS => ?_)
  replace hS : Sl 147 a [(0, .slice A0 p0.length cap0), (1, .slice A1 p1.length cap1), (2, .int .u64 p2)] := hS
  have hF : Fr (fun q => N ≤ q) w g w g := Fr.refl _ _ _
  refine c_pure [(0, .slice A0 p0.length cap0), (1, .slice A1 p1.length cap1), (2, .int .u64 p2)] (fun R hR => st_val hS rfl rfl rfl (r_assign hS rfl rfl) fun a1 hS1 => wpList_nil (hR _ (hS1.re ⟨rfl, rfl, rfl, trivial⟩))) ?_
  clear hS
  clear a
  intro a hS
  refine wp_seq ?_
  refine c_pure [(0, .slice A0 p0.length cap0), (1, .slice A1 p1.length cap1), (2, .int .u64 p2), (24, .bool (decide (40 < (p1.length : Int))))] (fun R hR => st_val hS rfl rfl rfl (r_move hS rfl rfl) fun a2 hS2 => st_val hS2 rfl rfl rfl (r_len (e := 46) (sz := 4) (by_ := 32) hS2 rfl rfl (by kernel_rfl)) fun a3 hS3 => st_val hS3 rfl rfl rfl (r_bin hS3 rfl rfl rfl b_gtr) fun a4 hS4 => wpList_nil (hR _ (hS4.re ⟨rfl, rfl, rfl, rfl, trivial⟩))) ?_
  clear hS
  clear a
  intro a hS
  refine c_cond hS rfl (fun hb5 => ?_) (fun hb5 => ?_)
  · replace H := ite_t hb5 H
    obtain ⟨r6, hr7, H⟩ := bind_el H
    refine c_region (fun K hK => ?_)
    refine st_enter hS rfl rfl rfl (r_call hS rfl rfl (by kernel_rfl)) (law25_awake.calls (g := g) (N + 11)   hr7) ?_
    rintro _ a8 w9 ⟨g9, rfl, F9⟩ hS8
    replace hp0 := RdS.fr hp0 F9 (by decide) (fun q (hq : C0 q) (hm : N + 11 ≤ q) => by have := hC0 q hq; omega)
    replace hp1 := RdS.fr hp1 F9 (by decide) (fun q (hq : C1 q) (hm : N + 11 ≤ q) => by have := hC1 q hq; omega)
    replace hF := hF.trans F9 (fun c' (hm : N + 11 ≤ c') => by show N ≤ c'; omega)
    refine st_val hS8 rfl rfl rfl (r_assign hS8 rfl rfl) fun a10 hS10 => wpList_nil (hK _ _ ?_)
    replace hS : Sl 147 _ [(6, .bool r6)] := hS10.re ⟨rfl, trivial⟩
    clear hK K
    try clear hS8 hS10
    obtain ⟨a, ha⟩ : ∃ a', a' = a10 := ⟨_, rfl⟩
    rw [← ha] at hS ⊢; clear ha
    refine wp_ret ?_
    have e := Option.some.inj H
    subst e
    repeat (with_reducible first | refine then_ret ?_ | refine inBlock_ret ?_)
    exact c_ret1 hS Try.results8 rfl ⟨_, rfl, g9, rfl, hF⟩
  · replace H := ite_f hb5 H
    refine wp_skip ?_
    change Code.wp _ _ _ _ _
    obtain ⟨r12, hr13, H⟩ := bind_el H
    refine c_region (fun K hK => ?_)
    refine st_val hS rfl rfl rfl (r_move hS rfl rfl) fun a11 hS11 => ?_
    refine st_enter hS11 rfl rfl rfl (r_call hS11 rfl rfl (by kernel_rfl)) (law25_Some.calls (C0 := C0) (p0 := p0) (g := g) (N + 11) (N + 0) hp0 (fun q (hq : C0 q) => by have := hC0 q hq; omega) (by omega) hr13) ?_
    rintro _ a18 w19 ⟨g19, A14, cap15, rfl, h16, F19⟩ hS18
    replace hp0 := RdS.fr hp0 F19 (by decide) (fun q (hq : C0 q) (hm : (N + 0 ≤ q ∧ q < N + 0 + 2) ∨ N + 11 ≤ q) => by have := hC0 q hq; omega)
    replace hp1 := RdS.fr hp1 F19 (by decide) (fun q (hq : C1 q) (hm : (N + 0 ≤ q ∧ q < N + 0 + 2) ∨ N + 11 ≤ q) => by have := hC1 q hq; omega)
    replace hF := hF.trans F19 (fun c' (hm : (N + 0 ≤ c' ∧ c' < N + 0 + 2) ∨ N + 11 ≤ c') => by show N ≤ c'; omega)
    refine st_val hS18 rfl rfl rfl (r_assign hS18 rfl rfl) fun a20 hS20 => wpList_nil (hK _ _ ?_)
    replace hS : Sl 147 _ [(1, .slice A1 p1.length cap1), (2, .int .u64 p2), (7, .slice A14 r12.length cap15)] := hS20.re ⟨rfl, rfl, rfl, trivial⟩
    clear hK K
    try clear hS11 hS18 hS20
    obtain ⟨a, ha⟩ : ∃ a', a' = a20 := ⟨_, rfl⟩
    rw [← ha] at hS ⊢; clear ha
    obtain ⟨r22, hr23, H⟩ := bind_el H
    refine c_region (fun K hK => ?_)
    refine st_val hS rfl rfl rfl (r_move hS rfl rfl) fun a21 hS21 => ?_
    refine st_enter hS21 rfl rfl rfl (r_call hS21 rfl rfl (by kernel_rfl)) (rails_New.calls (C0 := (fun q => q = N + 0)) (p0 := r12) (g := g19) (N + 11) (N + 2) (OwD.rdf (fun _ _ _ _ _ _ h => h) h16) (fun q (hq : q = N + 0) => by omega) (by omega) hr23) ?_
    rintro _ a27 w28 ⟨g28, p24, rfl, h25, F28⟩ hS27
    replace h16 := OwS.fr h16 F28 (fun c' hc (hm : (N + 2 ≤ c' ∧ c' < N + 2 + 3) ∨ N + 11 ≤ c') => by omega)
    replace hp1 := RdS.fr hp1 F28 (by decide) (fun q (hq : C1 q) (hm : (N + 2 ≤ q ∧ q < N + 2 + 3) ∨ N + 11 ≤ q) => by have := hC1 q hq; omega)
    replace hF := hF.trans F28 (fun c' (hm : (N + 2 ≤ c' ∧ c' < N + 2 + 3) ∨ N + 11 ≤ c') => by show N ≤ c'; omega)
    refine st_val hS27 rfl rfl rfl (r_move hS27 rfl rfl) fun a29 hS29 => st_val hS29 rfl rfl rfl (r_extract hS29 rfl rfl rfl) fun a30 hS30 => st_val hS30 rfl rfl rfl (r_extract hS30 rfl rfl rfl) fun a31 hS31 => st_val hS31 rfl rfl rfl (r_assign hS31 rfl rfl) fun a32 hS32 => st_val hS32 rfl rfl rfl (r_assign hS32 rfl rfl) fun a33 hS33 => wpList_nil (hK _ _ ?_)
    replace hS : Sl 147 _ [(1, .slice A1 p1.length cap1), (2, .int .u64 p2), (7, .slice A14 r12.length cap15), (8, .pointer p24), (9, .int .i64 r22.2)] := hS33.re ⟨rfl, rfl, rfl, rfl, rfl, trivial⟩
    clear hK K
    try clear hS21 hS27 hS29 hS30 hS31 hS32 hS33
    obtain ⟨a, ha⟩ : ∃ a', a' = a33 := ⟨_, rfl⟩
    rw [← ha] at hS ⊢; clear ha
    refine wp_seq ?_
    refine c_region (fun K hK => ?_)
    refine st_val hS rfl rfl rfl (r_move hS rfl rfl) fun a34 hS34 => st_val hS34 rfl rfl rfl (r_bin hS34 rfl rfl rfl b_neq) fun a35 hS35 => st_val hS35 rfl rfl rfl (r_move hS35 rfl rfl) fun a36 hS36 => ?_
    refine g_join (N := 147) 3 [(1, .slice A1 p1.length cap1), (2, .int .u64 p2), (7, .slice A14 r12.length cap15), (8, .pointer p24), (38, .bool ((r22.2 != 0) || r22.1.isNone))] ?_ (fun hk => ?_)
    rotate_left
    · rcases Bool.eq_false_or_eq_true ((r22.2 != 0)) with hb37 | hb37
      · refine st_off hS36 (want_off hS36 rfl rfl rfl hb37) rfl rfl fun a40 hS40 => st_off hS40 (want_off hS40 rfl rfl rfl hb37) rfl rfl fun a41 hS41 => st_val hS41 rfl rfl rfl (r_pickT hS41 rfl rfl rfl hb37) fun a42 hS42 => hk _ (hS42.re ⟨rfl, rfl, rfl, rfl, (by rw [hb37]; rfl), trivial⟩)
      · refine st_valW hS36 (want_on hS36 rfl rfl rfl hb37) rfl rfl (r_move hS36 rfl rfl) fun a43 hS43 => st_valW hS43 (want_on hS43 rfl rfl rfl hb37) rfl rfl (r_optEq hS43 rfl rfl (by kernel_rfl) (rails_Rails_Opt.isNone h25)) fun a44 hS44 => st_val hS44 rfl rfl rfl (r_pickF hS44 rfl rfl rfl hb37) fun a45 hS45 => hk _ (hS45.re ⟨rfl, rfl, rfl, rfl, (by rw [hb37]; rfl), trivial⟩)
    intro a46 hS46
    refine wpList_nil (hK _ _ ?_)
    replace hS : Sl 147 _ [(1, .slice A1 p1.length cap1), (2, .int .u64 p2), (7, .slice A14 r12.length cap15), (8, .pointer p24), (38, .bool ((r22.2 != 0) || r22.1.isNone))] := hS46.re ⟨rfl, rfl, rfl, rfl, rfl, trivial⟩
    clear hK K
    try clear hS34 hS35 hS36 hS46
    obtain ⟨a, ha⟩ : ∃ a', a' = a46 := ⟨_, rfl⟩
    rw [← ha] at hS ⊢; clear ha
    refine c_cond hS rfl (fun hb47 => ?_) (fun hb47 => ?_)
    · replace H := ite_t hb47 H
      refine c_pure [(6, .bool false)] (fun R hR => st_val hS rfl rfl rfl (r_assign hS rfl rfl) fun a48 hS48 => wpList_nil (hR _ (hS48.re ⟨rfl, trivial⟩))) ?_
      clear hS
      clear a
      intro a hS
      refine wp_ret ?_
      have e := Option.some.inj H
      subst e
      repeat (with_reducible first | refine then_ret ?_ | refine inBlock_ret ?_)
      exact c_ret1 hS Try.results8 rfl ⟨_, rfl, g28, rfl, hF⟩
    · replace H := ite_f hb47 H
      refine wp_skip ?_
      change Code.wp _ _ _ _ _
      obtain ⟨y51, hy52, H⟩ := bind_el H
      refine c_region (fun K hK => ?_)
      refine st_val hS rfl rfl rfl (r_move hS rfl rfl) fun a49 hS49 => st_val hS49 rfl rfl rfl (r_len (e := 35) (sz := 3) (by_ := 24) hS49 rfl rfl (by kernel_rfl)) fun a50 hS50 => ?_
      refine st_eff hS50 rfl rfl rfl (e_make (e := 33) (sz := 1) (by_ := 8) (z := [.int .u64 0]) (kd := (kint .u64)) (N + 5) g28 hS50 rfl rfl (by kernel_rfl) (by kernel_rfl) rfl rfl rfl (fun _ _ _ => by exact rfl) hy52) ?_
      rintro _ a57 w58 g58 ⟨⟨A53, cap54, rfl, h55⟩, F58⟩ hS57
      replace h16 := OwS.fr h16 F58 (fun _ _ h => h)
      replace h25 := rails_Rails_Opt.fr h25 F58 (fun _ _ _ h => h)
      replace hp1 := RdS.fr hp1 F58 (by decide) (fun _ _ h => h)
      replace hF := hF.trans F58 (fun _ h => h.elim)
      refine st_val hS57 rfl rfl rfl (r_assign hS57 rfl rfl) fun a59 hS59 => wpList_nil (hK _ _ ?_)
      replace hS : Sl 147 _ [(1, .slice A1 p1.length cap1), (2, .int .u64 p2), (7, .slice A14 r12.length cap15), (8, .pointer p24), (10, .slice A53 y51.length cap54)] := hS59.re ⟨rfl, rfl, rfl, rfl, rfl, trivial⟩
      clear hK K
      try clear hS49 hS50 hS57 hS59
      obtain ⟨a, ha⟩ : ∃ a', a' = a59 := ⟨_, rfl⟩
      rw [← ha] at hS ⊢; clear ha
      refine c_pure [(1, .slice A1 p1.length cap1), (2, .int .u64 p2), (7, .slice A14 r12.length cap15), (8, .pointer p24), (10, .slice A53 y51.length cap54), (11, .int .u64 0)] (fun R hR => st_val hS rfl rfl rfl (r_assign hS rfl rfl) fun a60 hS60 => wpList_nil (hR _ (hS60.re ⟨rfl, rfl, rfl, rfl, rfl, rfl, trivial⟩))) ?_
      clear hS
      clear a
      intro a hS
      obtain ⟨o68, H, Hl69⟩ := bind_el H
      refine c_cut (fun a w61 => ∃ (v67 : (List rails_rail) × Int × (List Int)), ∃ (g61 : Nat → Nat), ∃ (b62 : Nat), ∃ (A64 : Option Addr), ∃ (cap65 : Nat), o68 = .nxt v67 ∧ Sl 147 a [(2, .int .u64 p2), (7, .slice A14 r12.length cap15), (8, .pointer (some ⟨b62, 0, none⟩)), (10, .slice A53 v67.2.2.length cap54)] ∧ OwS kd_api_Rail 35 w61 g61 (N + 0) A14 cap15 r12 ∧ OwS (kint .u64) 33 w61 g61 (N + 5) A53 cap54 v67.2.2 ∧ OwS kd_rails_rail 75 w61 g61 (N + 2 + 1) A64 cap65 v67.1 ∧ Bx w61 g61 (N + 2) b62 70 [.slice A64 v67.1.length cap65, .int .u64 v67.2.1] ∧ Fr (fun q => N ≤ q) w g w61 g61) ?_ ?_
      · refine c_pure [(1, .slice A1 p1.length cap1), (2, .int .u64 p2), (7, .slice A14 r12.length cap15), (8, .pointer p24), (10, .slice A53 y51.length cap54), (11, .int .u64 0), (12, .int .i64 0)] (fun R hR => st_val hS rfl rfl rfl (r_assign hS rfl rfl) fun a70 hS70 => wpList_nil (hR _ (hS70.re ⟨rfl, rfl, rfl, rfl, rfl, rfl, rfl, trivial⟩))) ?_
        clear hS
        clear a
        intro a hS
        refine wp_block ?_
        obtain ⟨st71, hst72, H⟩ := bind_el H
        rw [hst72] at h25
        obtain ⟨b73, A76, cap77, hp80, h74, h78⟩ := h25
        subst hp80
        refine wp_loop_ghost (fun kq => fun a w81 => ∃ (m0_0 : rails_Rails), ∃ (m0_1 : List Int), ∃ (m0_2 : Int), ∃ (m0_3 : Int), ∃ (g81 : Nat → Nat), law25_RailsReadyAtLastOperation.l0 p1 r12 kq m0_0 m0_1 m0_2 m0_3 = some o68 ∧ Sl 147 a [(1, .slice A1 p1.length cap1), (2, .int .u64 p2), (7, .slice A14 r12.length cap15), (8, .pointer (some ⟨b73, 0, none⟩)), (10, .slice A53 m0_1.length cap54), (11, .int .u64 m0_2), (12, .int .i64 m0_3)] ∧ OwS kd_api_Rail 35 w81 g81 (N + 0) A14 cap15 r12 ∧ OwS (kint .u64) 33 w81 g81 (N + 5) A53 cap54 m0_1 ∧ Bx w81 g81 (N + 2) b73 70 [.slice A76 m0_0.list.length cap77, .int .u64 m0_0.now] ∧ OwS kd_rails_rail 75 w81 g81 (N + 2 + 1) A76 cap77 m0_0.list ∧ RdS kd_law25_Call w81 g81 C1 A1 cap1 p1 ∧ Fr (fun q => N ≤ q) w g w81 g81) FUEL ?_ ?_
        · exact ⟨st71, y51, 0, 0, g58, H, hS.re ⟨rfl, rfl, rfl, rfl, rfl, rfl, rfl, trivial⟩, h16, h55, h74, h78, hp1, hF⟩
        · clear H
          clear hp1 h16 h55 h78 h74 hF
          clear hS
          rintro k82 a w81 ⟨m0_0, m0_1, m0_2, m0_3, g81, hpre0, hS, h16, h55, h74, h78, hp1, hF⟩
          have H := hpre0
          clear hpre0
          cases k82 with
          | zero => exact absurd H (by simp [law25_RailsReadyAtLastOperation.l0])
          | succ k82 =>
            rw [law25_RailsReadyAtLastOperation.l0] at H
            refine wp_seq ?_
            refine c_pure [(1, .slice A1 p1.length cap1), (2, .int .u64 p2), (7, .slice A14 r12.length cap15), (8, .pointer (some ⟨b73, 0, none⟩)), (10, .slice A53 m0_1.length cap54), (11, .int .u64 m0_2), (12, .int .i64 m0_3), (45, .bool (decide (m0_3 < (p1.length : Int))))] (fun R hR => st_val hS rfl rfl rfl (r_move hS rfl rfl) fun a83 hS83 => st_val hS83 rfl rfl rfl (r_move hS83 rfl rfl) fun a84 hS84 => st_val hS84 rfl rfl rfl (r_len (e := 46) (sz := 4) (by_ := 32) hS84 rfl rfl (by kernel_rfl)) fun a85 hS85 => st_val hS85 rfl rfl rfl (r_bin hS85 rfl rfl rfl b_lss) fun a86 hS86 => wpList_nil (hR _ (hS86.re ⟨rfl, rfl, rfl, rfl, rfl, rfl, rfl, rfl, trivial⟩))) ?_
            clear hS
            clear a
            intro a hS
            refine c_cond hS rfl (fun hb87 => ?_) (fun hb87 => ?_)
            · replace H := ite_t hb87 H
              refine wp_skip ?_
              change Code.wp _ _ _ _ _
              obtain ⟨o90, H, Hl91⟩ := bind_el H
              refine c_cut (fun a w88 => ∃ (v89 : rails_Rails × (List Int) × Int), ∃ (g88 : Nat → Nat), o90 = .nxt v89 ∧ Sl 147 a [(1, .slice A1 p1.length cap1), (2, .int .u64 p2), (7, .slice A14 r12.length cap15), (8, .pointer (some ⟨b73, 0, none⟩)), (10, .slice A53 v89.2.1.length cap54), (11, .int .u64 v89.2.2), (12, .int .i64 m0_3)] ∧ OwS kd_api_Rail 35 w88 g88 (N + 0) A14 cap15 r12 ∧ OwS (kint .u64) 33 w88 g88 (N + 5) A53 cap54 v89.2.1 ∧ Bx w88 g88 (N + 2) b73 70 [.slice A76 v89.1.list.length cap77, .int .u64 v89.1.now] ∧ OwS kd_rails_rail 75 w88 g88 (N + 2 + 1) A76 cap77 v89.1.list ∧ RdS kd_law25_Call w88 g88 C1 A1 cap1 p1 ∧ Fr (fun q => N ≤ q) w g w88 g88) ?_ ?_
              · refine wp_block ?_
                obtain ⟨x94, hx95, H⟩ := bind_el H
                refine c_region (fun K hK => ?_)
                refine st_val hS rfl rfl rfl (r_move hS rfl rfl) fun a92 hS92 => st_val hS92 rfl rfl rfl (r_move hS92 rfl rfl) fun a93 hS93 => st_val hS93 rfl rfl rfl (r_index (e := 46) (sz := 4) (by_ := 32) hS93 rfl rfl rfl (by kernel_rfl) (RdS.some_ hp1 hx95) (idx_lo hx95) (idx_hi hx95)) fun a96 hS96 => st_val hS96 rfl rfl rfl (r_loadN (n := 4) (cs := [.bool x94.Release, .int .i64 x94.Rail, .int .u64 x94.Wait, .bool x94.Raw]) hS96 rfl rfl (by kernel_rfl) rfl (RdS.cells_off hp1 hx95 0 4)) fun a97 hS97 => ?_
                refine st_eff hS97 rfl rfl rfl (e_alloc (cs := [.bool false, .int .i64 0, .int .u64 0, .bool false]) (N + 7) g81 hS97 rfl (by kernel_rfl)) ?_
                rintro _ a101 w102 g102 ⟨⟨b98, rfl, h99⟩, F102⟩ hS101
                replace h16 := OwS.fr h16 F102 (fun _ _ h => h)
                replace h55 := OwS.fr h55 F102 (fun _ _ h => h)
                replace h74 := h74.fr F102 (fun h => h)
                replace h78 := OwS.fr h78 F102 (fun _ _ h => h)
                replace hp1 := RdS.fr hp1 F102 (by decide) (fun _ _ h => h)
                replace hF := hF.trans F102 (fun _ h => h.elim)
                refine st_effS hS101 rfl rfl (e_storeB (n := 4) (bb := true) (cs' := [.bool x94.Release, .int .i64 x94.Rail, .int .u64 x94.Wait, .bool x94.Raw]) g102 hS101 rfl rfl rfl (by kernel_rfl) rfl rfl rfl h99 rfl rfl) ?_
                rintro a103 w104 g104 ⟨h99, F104⟩ hS103
                replace h16 := OwS.fr h16 F104 (fun c' hc (hm : c' = N + 7) => by omega)
                replace h55 := OwS.fr h55 F104 (fun c' hc (hm : c' = N + 7) => by omega)
                replace h74 := h74.fr F104 (fun (hm : N + 2 = N + 7) => by omega)
                replace h78 := OwS.fr h78 F104 (fun c' hc (hm : c' = N + 7) => by omega)
                replace hp1 := RdS.fr hp1 F104 (by decide) (fun q (hq : C1 q) (hm : q = N + 7) => by have := hC1 q hq; omega)
                replace hF := hF.trans F104 (fun c' (hm : c' = N + 7) => by show N ≤ c'; omega)
                refine wpList_nil (hK _ _ ?_)
                replace hS : Sl 147 _ [(1, .slice A1 p1.length cap1), (2, .int .u64 p2), (7, .slice A14 r12.length cap15), (8, .pointer (some ⟨b73, 0, none⟩)), (10, .slice A53 m0_1.length cap54), (11, .int .u64 m0_2), (12, .int .i64 m0_3), (13, .pointer (some ⟨b98, 0, none⟩))] := hS103.re ⟨rfl, rfl, rfl, rfl, rfl, rfl, rfl, rfl, trivial⟩
                clear hK K
                try clear hS92 hS93 hS96 hS97 hS101 hS103
                obtain ⟨a, ha⟩ : ∃ a', a' = a103 := ⟨_, rfl⟩
                rw [← ha] at hS ⊢; clear ha
                refine c_region (fun K hK => ?_)
                refine st_val hS rfl rfl rfl (r_fieldB (off := 3) hS rfl rfl (by kernel_rfl)) fun a105 hS105 => ?_
                refine st_effS hS105 rfl rfl (e_storeB (n := 1) (bb := false) (cs' := [.bool x94.Release, .int .i64 x94.Rail, .int .u64 x94.Wait, .bool false]) g104 hS105 rfl rfl rfl (by kernel_rfl) rfl rfl rfl h99 rfl rfl) ?_
                rintro a106 w107 g107 ⟨h99, F107⟩ hS106
                replace h16 := OwS.fr h16 F107 (fun c' hc (hm : c' = N + 7) => by omega)
                replace h55 := OwS.fr h55 F107 (fun c' hc (hm : c' = N + 7) => by omega)
                replace h74 := h74.fr F107 (fun (hm : N + 2 = N + 7) => by omega)
                replace h78 := OwS.fr h78 F107 (fun c' hc (hm : c' = N + 7) => by omega)
                replace hp1 := RdS.fr hp1 F107 (by decide) (fun q (hq : C1 q) (hm : q = N + 7) => by have := hC1 q hq; omega)
                replace hF := hF.trans F107 (fun c' (hm : c' = N + 7) => by show N ≤ c'; omega)
                refine wpList_nil (hK _ _ ?_)
                replace hS : Sl 147 _ [(1, .slice A1 p1.length cap1), (2, .int .u64 p2), (7, .slice A14 r12.length cap15), (8, .pointer (some ⟨b73, 0, none⟩)), (10, .slice A53 m0_1.length cap54), (11, .int .u64 m0_2), (12, .int .i64 m0_3), (13, .pointer (some ⟨b98, 0, none⟩))] := hS106.re ⟨rfl, rfl, rfl, rfl, rfl, rfl, rfl, rfl, trivial⟩
                clear hK K
                try clear hS105 hS106
                obtain ⟨a, ha⟩ : ∃ a', a' = a106 := ⟨_, rfl⟩
                rw [← ha] at hS ⊢; clear ha
                obtain ⟨r112, hr113, H⟩ := bind_el H
                refine c_region (fun K hK => ?_)
                refine st_val hS rfl rfl rfl (r_loadN (n := 4) (cs := [.bool x94.Release, .int .i64 x94.Rail, .int .u64 x94.Wait, .bool false]) hS rfl rfl (by kernel_rfl) rfl (Bx.cells_off h99 0 4)) fun a108 hS108 => st_val hS108 rfl rfl rfl (r_move hS108 rfl rfl) fun a109 hS109 => st_val hS109 rfl rfl rfl (r_len (e := 35) (sz := 3) (by_ := 24) hS109 rfl rfl (by kernel_rfl)) fun a110 hS110 => st_val hS110 rfl rfl rfl (r_move hS110 rfl rfl) fun a111 hS111 => ?_
                refine st_enter hS111 rfl rfl rfl (r_call hS111 rfl rfl (by kernel_rfl)) (law25_Call_at.calls (p0 := (law25_Call.mk x94.Release x94.Rail x94.Wait false)) (p1 := (r12.length : Int)) (p2 := m0_2) (g := g107) (N + 11)   hr113) ?_
                rintro _ a114 w115 ⟨g115, rfl, F115⟩ hS114
                replace h99 := h99.fr F115 (fun (hm : N + 11 ≤ N + 7) => by omega)
                replace h16 := OwS.fr h16 F115 (fun c' hc (hm : N + 11 ≤ c') => by omega)
                replace h55 := OwS.fr h55 F115 (fun c' hc (hm : N + 11 ≤ c') => by omega)
                replace h74 := h74.fr F115 (fun (hm : N + 11 ≤ N + 2) => by omega)
                replace h78 := OwS.fr h78 F115 (fun c' hc (hm : N + 11 ≤ c') => by omega)
                replace hp1 := RdS.fr hp1 F115 (by decide) (fun q (hq : C1 q) (hm : N + 11 ≤ q) => by have := hC1 q hq; omega)
                replace hF := hF.trans F115 (fun c' (hm : N + 11 ≤ c') => by show N ≤ c'; omega)
                refine st_val hS114 rfl rfl rfl (r_move hS114 rfl rfl) fun a116 hS116 => st_val hS116 rfl rfl rfl (r_extract hS116 rfl rfl rfl) fun a117 hS117 => st_val hS117 rfl rfl rfl (r_extract hS117 rfl rfl rfl) fun a118 hS118 => st_val hS118 rfl rfl rfl (r_assign hS118 rfl rfl) fun a119 hS119 => st_val hS119 rfl rfl rfl (r_assign hS119 rfl rfl) fun a120 hS120 => wpList_nil (hK _ _ ?_)
                replace hS : Sl 147 _ [(1, .slice A1 p1.length cap1), (2, .int .u64 p2), (7, .slice A14 r12.length cap15), (8, .pointer (some ⟨b73, 0, none⟩)), (10, .slice A53 m0_1.length cap54), (11, .int .u64 m0_2), (12, .int .i64 m0_3), (13, .pointer (some ⟨b98, 0, none⟩)), (15, .int .u64 r112.2)] := hS120.re ⟨rfl, rfl, rfl, rfl, rfl, rfl, rfl, rfl, rfl, trivial⟩
                clear hK K
                try clear hS108 hS109 hS110 hS111 hS114 hS116 hS117 hS118 hS119 hS120
                obtain ⟨a, ha⟩ : ∃ a', a' = a120 := ⟨_, rfl⟩
                rw [← ha] at hS ⊢; clear ha
                obtain ⟨r126, hr127, H⟩ := bind_el H
                refine c_region (fun K hK => ?_)
                refine st_val hS rfl rfl rfl (r_move hS rfl rfl) fun a121 hS121 => st_val hS121 rfl rfl rfl (r_loadN (n := 4) (cs := [.bool x94.Release, .int .i64 x94.Rail, .int .u64 x94.Wait, .bool false]) hS121 rfl rfl (by kernel_rfl) rfl (Bx.cells_off h99 0 4)) fun a122 hS122 => st_val hS122 rfl rfl rfl (r_move hS122 rfl rfl) fun a123 hS123 => st_val hS123 rfl rfl rfl (r_len (e := 35) (sz := 3) (by_ := 24) hS123 rfl rfl (by kernel_rfl)) fun a124 hS124 => st_val hS124 rfl rfl rfl (r_move hS124 rfl rfl) fun a125 hS125 => ?_
                refine st_enter hS125 rfl rfl rfl (r_call hS125 rfl rfl (by kernel_rfl)) (law25_do.calls (c0 := N + 2) (b_p0 := b73) (A_list_p0 := A76) (cap_list_p0 := cap77) (p0 := m0_0) (p1 := (law25_Call.mk x94.Release x94.Rail x94.Wait false)) (p2 := (r12.length : Int)) (p3 := m0_2) (g := g115) (N + 11) (N + 9) ⟨h74, h78⟩ (by omega) (by omega) (by omega) hr127) ?_
                rintro _ a132 w133 ⟨g133, A128, cap129, rfl, ⟨h74, h78⟩, h130, F133⟩ hS132
                replace h99 := h99.fr F133 (fun (hm : (N + 2 ≤ N + 7 ∧ N + 7 < N + 2 + 3) ∨ (N + 9 ≤ N + 7 ∧ N + 7 < N + 9 + 2) ∨ N + 11 ≤ N + 7) => by omega)
                replace h16 := OwS.fr h16 F133 (fun c' hc (hm : (N + 2 ≤ c' ∧ c' < N + 2 + 3) ∨ (N + 9 ≤ c' ∧ c' < N + 9 + 2) ∨ N + 11 ≤ c') => by omega)
                replace h55 := OwS.fr h55 F133 (fun c' hc (hm : (N + 2 ≤ c' ∧ c' < N + 2 + 3) ∨ (N + 9 ≤ c' ∧ c' < N + 9 + 2) ∨ N + 11 ≤ c') => by omega)
                replace hp1 := RdS.fr hp1 F133 (by decide) (fun q (hq : C1 q) (hm : (N + 2 ≤ q ∧ q < N + 2 + 3) ∨ (N + 9 ≤ q ∧ q < N + 9 + 2) ∨ N + 11 ≤ q) => by have := hC1 q hq; omega)
                replace hF := hF.trans F133 (fun c' (hm : (N + 2 ≤ c' ∧ c' < N + 2 + 3) ∨ (N + 9 ≤ c' ∧ c' < N + 9 + 2) ∨ N + 11 ≤ c') => by show N ≤ c'; omega)
                refine st_val hS132 rfl rfl rfl (r_move hS132 rfl rfl) fun a134 hS134 => st_val hS134 rfl rfl rfl (r_extract hS134 rfl rfl rfl) fun a135 hS135 => st_val hS135 rfl rfl rfl (r_extract hS135 rfl rfl rfl) fun a136 hS136 => st_val hS136 rfl rfl rfl (r_assign hS136 rfl rfl) fun a137 hS137 => st_val hS137 rfl rfl rfl (r_assign hS137 rfl rfl) fun a138 hS138 => wpList_nil (hK _ _ ?_)
                replace hS : Sl 147 _ [(1, .slice A1 p1.length cap1), (2, .int .u64 p2), (7, .slice A14 r12.length cap15), (8, .pointer (some ⟨b73, 0, none⟩)), (10, .slice A53 m0_1.length cap54), (11, .int .u64 m0_2), (12, .int .i64 m0_3), (15, .int .u64 r112.2), (16, .slice A128 r126.2.1.length cap129), (17, .int .i64 r126.2.2)] := hS138.re ⟨rfl, rfl, rfl, rfl, rfl, rfl, rfl, rfl, rfl, rfl, trivial⟩
                clear hK K
                try clear hS121 hS122 hS123 hS124 hS125 hS132 hS134 hS135 hS136 hS137 hS138
                obtain ⟨a, ha⟩ : ∃ a', a' = a138 := ⟨_, rfl⟩
                rw [← ha] at hS ⊢; clear ha
                obtain ⟨v139, H, Hl141⟩ := bind_el H
                refine c_cut (fun a w' => w133 = w' ∧ Sl 147 a [(1, .slice A1 p1.length cap1), (2, .int .u64 p2), (7, .slice A14 r12.length cap15), (8, .pointer (some ⟨b73, 0, none⟩)), (10, .slice A53 m0_1.length cap54), (11, .int .u64 v139), (12, .int .i64 m0_3), (16, .slice A128 r126.2.1.length cap129)]) ?_ ?_
                · refine c_pure [(1, .slice A1 p1.length cap1), (2, .int .u64 p2), (7, .slice A14 r12.length cap15), (8, .pointer (some ⟨b73, 0, none⟩)), (10, .slice A53 m0_1.length cap54), (11, .int .u64 m0_2), (12, .int .i64 m0_3), (15, .int .u64 r112.2), (16, .slice A128 r126.2.1.length cap129), (71, .bool (r126.2.2 == 0))] (fun R hR => st_val hS rfl rfl rfl (r_move hS rfl rfl) fun a142 hS142 => st_val hS142 rfl rfl rfl (r_bin hS142 rfl rfl rfl b_eql) fun a143 hS143 => wpList_nil (hR _ (hS143.re ⟨rfl, rfl, rfl, rfl, rfl, rfl, rfl, rfl, rfl, rfl, trivial⟩))) ?_
                  clear hS
                  clear a
                  intro a hS
                  refine c_cond hS rfl (fun hb144 => ?_) (fun hb144 => ?_)
                  · replace H := ite_t hb144 H
                    refine c_pure1 [(1, .slice A1 p1.length cap1), (2, .int .u64 p2), (7, .slice A14 r12.length cap15), (8, .pointer (some ⟨b73, 0, none⟩)), (10, .slice A53 m0_1.length cap54), (11, .int .u64 r112.2), (12, .int .i64 m0_3), (16, .slice A128 r126.2.1.length cap129)] (fun R hR => st_val hS rfl rfl rfl (r_move hS rfl rfl) fun a145 hS145 => st_val hS145 rfl rfl rfl (r_assign hS145 rfl rfl) fun a146 hS146 => wpList_nil (hR _ (hS146.re ⟨rfl, rfl, rfl, rfl, rfl, rfl, rfl, rfl, trivial⟩))) ?_
                    clear hS
                    clear a
                    intro a hS
                    have e := Option.some.inj H
                    subst e
                    exact ⟨rfl, hS.re ⟨rfl, rfl, rfl, rfl, rfl, rfl, rfl, rfl, trivial⟩⟩
                  · replace H := ite_f hb144 H
                    refine wp_skip ?_
                    have e := Option.some.inj H
                    subst e
                    exact ⟨rfl, hS.re ⟨rfl, rfl, rfl, rfl, rfl, rfl, rfl, rfl, trivial⟩⟩
                · clear H
                  clear hS
                  rintro a w' ⟨hw, hS⟩
                  subst hw
                  have H := Hl141
                  clear Hl141
                  refine wp_seq ?_
                  obtain ⟨r150, hr151, H⟩ := bind_el H
                  refine c_region (fun K hK => ?_)
                  refine st_val hS rfl rfl rfl (r_move hS rfl rfl) fun a147 hS147 => st_val hS147 rfl rfl rfl (r_move hS147 rfl rfl) fun a148 hS148 => st_val hS148 rfl rfl rfl (r_len (e := 35) (sz := 3) (by_ := 24) hS148 rfl rfl (by kernel_rfl)) fun a149 hS149 => ?_
                  refine st_enter hS149 rfl rfl rfl (r_call hS149 rfl rfl (by kernel_rfl)) (law25_named.calls (C0 := (fun q => q = N + 9)) (p0 := r126.2.1) (p1 := (r12.length : Int)) (g := g133) (N + 11)  (OwD.rdf (fun _ _ _ _ _ _ h => h) h130) (fun q (hq : q = N + 9) => by omega) hr151) ?_
                  rintro _ a152 w153 ⟨g153, rfl, F153⟩ hS152
                  replace h130 := OwS.fr h130 F153 (fun c' hc (hm : N + 11 ≤ c') => by omega)
                  replace h16 := OwS.fr h16 F153 (fun c' hc (hm : N + 11 ≤ c') => by omega)
                  replace h55 := OwS.fr h55 F153 (fun c' hc (hm : N + 11 ≤ c') => by omega)
                  replace h74 := h74.fr F153 (fun (hm : N + 11 ≤ N + 2) => by omega)
                  replace h78 := OwS.fr h78 F153 (fun c' hc (hm : N + 11 ≤ c') => by omega)
                  replace hp1 := RdS.fr hp1 F153 (by decide) (fun q (hq : C1 q) (hm : N + 11 ≤ q) => by have := hC1 q hq; omega)
                  replace hF := hF.trans F153 (fun c' (hm : N + 11 ≤ c') => by show N ≤ c'; omega)
                  refine st_val hS152 rfl rfl rfl (r_not hS152 rfl rfl) fun a154 hS154 => wpList_nil (hK _ _ ?_)
                  replace hS : Sl 147 _ [(1, .slice A1 p1.length cap1), (2, .int .u64 p2), (7, .slice A14 r12.length cap15), (8, .pointer (some ⟨b73, 0, none⟩)), (10, .slice A53 m0_1.length cap54), (11, .int .u64 v139), (12, .int .i64 m0_3), (16, .slice A128 r126.2.1.length cap129), (77, .bool (!r150))] := hS154.re ⟨rfl, rfl, rfl, rfl, rfl, rfl, rfl, rfl, rfl, trivial⟩
                  clear hK K
                  try clear hS147 hS148 hS149 hS152 hS154
                  obtain ⟨a, ha⟩ : ∃ a', a' = a154 := ⟨_, rfl⟩
                  rw [← ha] at hS ⊢; clear ha
                  refine c_cond hS rfl (fun hb155 => ?_) (fun hb155 => ?_)
                  · replace H := ite_t hb155 H
                    refine c_pure [(6, .bool false)] (fun R hR => st_val hS rfl rfl rfl (r_assign hS rfl rfl) fun a156 hS156 => wpList_nil (hR _ (hS156.re ⟨rfl, trivial⟩))) ?_
                    clear hS
                    clear a
                    intro a hS
                    refine wp_ret ?_
                    have e := Option.some.inj H
                    subst e
                    replace H := Fl.go_out Hl91
                    have e := Option.some.inj H
                    subst e
                    replace H := Fl.go_out Hl69
                    have e := Option.some.inj H
                    subst e
                    repeat (with_reducible first | refine then_ret ?_ | refine inBlock_ret ?_)
                    exact c_ret1 hS Try.results8 rfl ⟨_, rfl, g153, rfl, hF⟩
                  · replace H := ite_f hb155 H
                    refine wp_skip ?_
                    change Code.wp _ _ _ _ _
                    refine c_pure [(1, .slice A1 p1.length cap1), (2, .int .u64 p2), (7, .slice A14 r12.length cap15), (8, .pointer (some ⟨b73, 0, none⟩)), (10, .slice A53 m0_1.length cap54), (11, .int .u64 v139), (12, .int .i64 m0_3), (16, .slice A128 r126.2.1.length cap129), (18, .int .i64 0)] (fun R hR => st_val hS rfl rfl rfl (r_assign hS rfl rfl) fun a157 hS157 => wpList_nil (hR _ (hS157.re ⟨rfl, rfl, rfl, rfl, rfl, rfl, rfl, rfl, rfl, trivial⟩))) ?_
                    clear hS
                    clear a
                    intro a hS
                    refine wp_block ?_
                    refine wp_loop_ghost (fun kq => fun a w158 => ∃ (m1_0 : List Int), ∃ (m1_1 : Int), ∃ (g158 : Nat → Nat), law25_RailsReadyAtLastOperation.l1 r126 v139 kq m1_0 m1_1 = some o90 ∧ Sl 147 a [(1, .slice A1 p1.length cap1), (2, .int .u64 p2), (7, .slice A14 r12.length cap15), (8, .pointer (some ⟨b73, 0, none⟩)), (10, .slice A53 m1_0.length cap54), (11, .int .u64 v139), (12, .int .i64 m0_3), (16, .slice A128 r126.2.1.length cap129), (18, .int .i64 m1_1)] ∧ OwS kd_api_RailOp 50 w158 g158 (N + 9) A128 cap129 r126.2.1 ∧ OwS kd_api_Rail 35 w158 g158 (N + 0) A14 cap15 r12 ∧ OwS (kint .u64) 33 w158 g158 (N + 5) A53 cap54 m1_0 ∧ Bx w158 g158 (N + 2) b73 70 [.slice A76 r126.1.list.length cap77, .int .u64 r126.1.now] ∧ OwS kd_rails_rail 75 w158 g158 (N + 2 + 1) A76 cap77 r126.1.list ∧ RdS kd_law25_Call w158 g158 C1 A1 cap1 p1 ∧ Fr (fun q => N ≤ q) w g w158 g158) FUEL ?_ ?_
                    · exact ⟨m0_1, 0, g153, H, hS.re ⟨rfl, rfl, rfl, rfl, rfl, rfl, rfl, rfl, rfl, trivial⟩, h130, h16, h55, h74, h78, hp1, hF⟩
                    · clear H
                      clear hp1 h16 h55 h78 h74 h130 hF
                      clear hS
                      rintro k159 a w158 ⟨m1_0, m1_1, g158, hpre0, hS, h130, h16, h55, h74, h78, hp1, hF⟩
                      have H := hpre0
                      clear hpre0
                      cases k159 with
                      | zero => exact absurd H (by simp [law25_RailsReadyAtLastOperation.l1])
                      | succ k159 =>
                        rw [law25_RailsReadyAtLastOperation.l1] at H
                        refine wp_seq ?_
                        refine c_pure [(1, .slice A1 p1.length cap1), (2, .int .u64 p2), (7, .slice A14 r12.length cap15), (8, .pointer (some ⟨b73, 0, none⟩)), (10, .slice A53 m1_0.length cap54), (11, .int .u64 v139), (12, .int .i64 m0_3), (16, .slice A128 r126.2.1.length cap129), (18, .int .i64 m1_1), (81, .bool (decide (m1_1 < (r126.2.1.length : Int))))] (fun R hR => st_val hS rfl rfl rfl (r_move hS rfl rfl) fun a160 hS160 => st_val hS160 rfl rfl rfl (r_move hS160 rfl rfl) fun a161 hS161 => st_val hS161 rfl rfl rfl (r_len (e := 50) (sz := 4) (by_ := 32) hS161 rfl rfl (by kernel_rfl)) fun a162 hS162 => st_val hS162 rfl rfl rfl (r_bin hS162 rfl rfl rfl b_lss) fun a163 hS163 => wpList_nil (hR _ (hS163.re ⟨rfl, rfl, rfl, rfl, rfl, rfl, rfl, rfl, rfl, rfl, trivial⟩))) ?_
                        clear hS
                        clear a
                        intro a hS
                        refine c_cond hS rfl (fun hb164 => ?_) (fun hb164 => ?_)
                        · replace H := ite_t hb164 H
                          refine wp_skip ?_
                          change Code.wp _ _ _ _ _
                          refine wp_seq ?_
                          refine wp_block ?_
                          obtain ⟨x165, hx166, H⟩ := bind_el H
                          obtain ⟨x167, hx168, H⟩ := bind_el H
                          refine c_draw1 (fun K hK => d_start (fun q => False) g158 [12] 13 #[false, false, false, false, false, false, false, false, false, false, false, false, false] (by kernel_rfl) rfl rfl (fun w169 hw169 => ?_))
                          have F169 : Fr (fun _ => False) w158 g158 w169 g158 := by rw [hw169]; exact Fr.drew _ _ _
                          replace h130 := OwS.fr h130 F169 (fun _ _ h => h)
                          replace h16 := OwS.fr h16 F169 (fun _ _ h => h)
                          replace h55 := OwS.fr h55 F169 (fun _ _ h => h)
                          replace h74 := h74.fr F169 (fun h => h)
                          replace h78 := OwS.fr h78 F169 (fun _ _ h => h)
                          replace hp1 := RdS.fr hp1 F169 (by decide) (fun _ _ h => h)
                          replace hF := hF.trans F169 (fun _ h => h.elim)
                          have hC : Fr (fun q => False) w169 g158 w169 g158 := Fr.refl _ _ _
                          refine d_pure hS 0 #[true, false, false, false, false, false, false, false, false, false, false, false, false] rfl rfl rfl rfl (by kernel_rfl) (fun _ _ _ h => h) (fun _ => (r_move hS rfl rfl)) fun a170 hS170 => d_pure hS170 1 #[true, true, false, false, false, false, false, false, false, false, false, false, false] rfl rfl rfl rfl (by kernel_rfl) (fun _ _ _ h => h) (fun _ => (r_move hS170 rfl rfl)) fun a171 hS171 => d_pure hS171 2 #[true, true, true, false, false, false, false, false, false, false, false, false, false] rfl rfl rfl rfl (by kernel_rfl) (fun _ _ _ h => h) (fun _ => (r_move hS171 rfl rfl)) fun a172 hS172 => d_pure hS172 3 #[true, true, true, true, false, false, false, false, false, false, false, false, false] rfl rfl rfl rfl (by kernel_rfl) (fun _ _ _ h => h) (fun _ => (r_index (e := 50) (sz := 4) (by_ := 32) hS172 rfl rfl rfl (by kernel_rfl) (RdS.some_ (OwS.rd h130) hx166) (idx_lo hx166) (idx_hi hx166))) fun a173 hS173 => d_pure hS173 4 #[true, true, true, true, true, false, false, false, false, false, false, false, false] rfl rfl rfl rfl (by kernel_rfl) (fun _ _ _ h => h) (fun _ => (r_fieldE (off := 0) hS173 rfl rfl (by kernel_rfl))) fun a174 hS174 => d_take hS174 5 #[true, true, true, true, true, true, false, false, false, false, false, false, false] rfl rfl rfl rfl (by kernel_rfl) (fun _ _ _ h => h) ⟨_, hC⟩ (fun w' g' Fz => (r_load1 (n := 1) hS174 rfl rfl (by kernel_rfl) (RdS.cell (i := m1_1) (sz := 4) (j := 0) (OwS.rd (OwS.fr h130 Fz (fun _ _ h => h))) hx166 rfl))) fun a175 hS175 => d_pure hS175 6 #[true, true, true, true, true, true, true, false, false, false, false, false, false] rfl rfl rfl rfl (by kernel_rfl) (fun _ _ _ h => h) (fun _ => (r_move hS175 rfl rfl)) fun a176 hS176 => d_pure hS176 7 #[true, true, true, true, true, true, true, true, false, false, false, false, false] rfl rfl rfl rfl (by kernel_rfl) (fun _ _ _ h => h) (fun _ => (r_move hS176 rfl rfl)) fun a177 hS177 => d_pure hS177 8 #[true, true, true, true, true, true, true, true, true, false, false, false, false] rfl rfl rfl rfl (by kernel_rfl) (fun _ _ _ h => h) (fun _ => (r_index (e := 50) (sz := 4) (by_ := 32) hS177 rfl rfl rfl (by kernel_rfl) (RdS.some_ (OwS.rd h130) hx166) (idx_lo hx166) (idx_hi hx166))) fun a178 hS178 => d_pure hS178 9 #[true, true, true, true, true, true, true, true, true, true, false, false, false] rfl rfl rfl rfl (by kernel_rfl) (fun _ _ _ h => h) (fun _ => (r_fieldE (off := 3) hS178 rfl rfl (by kernel_rfl))) fun a179 hS179 => d_take hS179 10 #[true, true, true, true, true, true, true, true, true, true, true, false, false] rfl rfl rfl rfl (by kernel_rfl) (fun _ _ _ h => h) ⟨_, hC⟩ (fun w' g' Fz => (r_load1 (n := 1) hS179 rfl rfl (by kernel_rfl) (RdS.cell (i := m1_1) (sz := 4) (j := 3) (OwS.rd (OwS.fr h130 Fz (fun _ _ h => h))) hx166 rfl))) fun a180 hS180 => d_pure hS180 11 #[true, true, true, true, true, true, true, true, true, true, true, true, false] rfl rfl rfl rfl (by kernel_rfl) (fun _ _ _ h => h) (fun _ => (r_index (e := 33) (sz := 1) (by_ := 8) hS180 rfl rfl rfl (by kernel_rfl) (RdS.some_ (OwS.rd h55) hx168) (idx_lo hx168) (idx_hi hx168))) fun a181 hS181 => ?_
                          refine d_one 12 #[true, true, true, true, true, true, true, true, true, true, true, true, true] rfl (by kernel_rfl) (arm_effS hS181 rfl rfl (e_storeE (n := 1) (bb := false) (kd := (kint .u64)) (j := 0) (x' := x165.Done) (us := [.int .u64 x165.Done]) g158 hS181 rfl rfl rfl rfl (by kernel_rfl) rfl rfl (by intro v hv; simp only [List.mem_cons, List.not_mem_nil, or_false] at hv; rcases hv with rfl <;> rfl) h55 hx168 rfl (fun _ _ cs hR => by rw [show cs = _ from hR]; rfl)) (.inl (by decide)) ?_)
                          rintro a182 w183 g183 ⟨h55, F183⟩ hS182
                          replace h130 := OwS.fr h130 F183 (fun c' hc (hm : c' = N + 5) => by omega)
                          replace h16 := OwS.fr h16 F183 (fun c' hc (hm : c' = N + 5) => by omega)
                          replace h74 := h74.fr F183 (fun (hm : N + 2 = N + 5) => by omega)
                          replace h78 := OwS.fr h78 F183 (fun c' hc (hm : c' = N + 5) => by omega)
                          replace hp1 := RdS.fr hp1 F183 (by decide) (fun q (hq : C1 q) (hm : q = N + 5) => by have := hC1 q hq; omega)
                          replace hF := hF.trans F183 (fun c' (hm : c' = N + 5) => by show N ≤ c'; omega)
                          have hT : Sl 147 a182 [(1, .slice A1 p1.length cap1), (2, .int .u64 p2), (7, .slice A14 r12.length cap15), (8, .pointer (some ⟨b73, 0, none⟩)), (10, .slice A53 m1_0.length cap54), (11, .int .u64 v139), (12, .int .i64 m0_3), (16, .slice A128 r126.2.1.length cap129), (18, .int .i64 m1_1)] := hS182.re ⟨rfl, rfl, rfl, rfl, rfl, rfl, rfl, rfl, rfl, trivial⟩
                          replace hS182 : Sl 147 a182 [(1, .slice A1 p1.length cap1), (2, .int .u64 p2), (7, .slice A14 r12.length cap15), (8, .pointer (some ⟨b73, 0, none⟩)), (10, .slice A53 (upd m1_0 x165.Rail x165.Done).length cap54), (11, .int .u64 v139), (12, .int .i64 m0_3), (16, .slice A128 r126.2.1.length cap129), (18, .int .i64 m1_1)] := by simpa only [upd_length] using hT
                          clear hT
                          refine d_done (by kernel_rfl) (hK _ _ ?_)
                          replace hS : Sl 147 _ [(1, .slice A1 p1.length cap1), (2, .int .u64 p2), (7, .slice A14 r12.length cap15), (8, .pointer (some ⟨b73, 0, none⟩)), (10, .slice A53 (upd m1_0 x165.Rail x165.Done).length cap54), (11, .int .u64 v139), (12, .int .i64 m0_3), (16, .slice A128 r126.2.1.length cap129), (18, .int .i64 m1_1)] := hS182.re ⟨rfl, rfl, rfl, rfl, rfl, rfl, rfl, rfl, rfl, trivial⟩
                          clear hK K hC
                          try clear hS170 hS171 hS172 hS173 hS174 hS175 hS176 hS177 hS178 hS179 hS180 hS181 hS182
                          obtain ⟨a, ha⟩ : ∃ a', a' = a182 := ⟨_, rfl⟩
                          rw [← ha] at hS ⊢; clear ha
                          change Code.wp _ _ _ _ _
                          refine c_pure1 [(1, .slice A1 p1.length cap1), (2, .int .u64 p2), (7, .slice A14 r12.length cap15), (8, .pointer (some ⟨b73, 0, none⟩)), (10, .slice A53 (upd m1_0 x165.Rail x165.Done).length cap54), (11, .int .u64 v139), (12, .int .i64 m0_3), (16, .slice A128 r126.2.1.length cap129), (18, .int .i64 (wi (m1_1 + 1)))] (fun R hR => st_val hS rfl rfl rfl (r_move hS rfl rfl) fun a184 hS184 => st_val hS184 rfl rfl rfl (r_bin hS184 rfl rfl rfl b_add) fun a185 hS185 => st_val hS185 rfl rfl rfl (r_assign hS185 rfl rfl) fun a186 hS186 => wpList_nil (hR _ (hS186.re ⟨rfl, rfl, rfl, rfl, rfl, rfl, rfl, rfl, rfl, trivial⟩))) ?_
                          clear hS
                          clear a
                          intro a hS
                          refine ⟨k159, Nat.lt_succ_self _, ?_⟩
                          exact ⟨(upd m1_0 x165.Rail x165.Done), wi (m1_1 + 1), g183, H, hS.re ⟨rfl, rfl, rfl, rfl, rfl, rfl, rfl, rfl, rfl, trivial⟩, h130, h16, h55, h74, h78, hp1, hF⟩
                        · replace H := ite_f hb164 H
                          refine wp_exit ?_
                          have e := Option.some.inj H
                          exact ⟨(r126.1, m1_0, v139), g158, e.symm, hS.re ⟨rfl, rfl, rfl, rfl, rfl, rfl, rfl, trivial⟩, h16, h55, h74, h78, hp1, hF⟩
              · clear H
                clear hp1 h16 h55 h78 h74 hF
                clear hS
                rintro a w88 ⟨v89, g88, hpre0, hS, h16, h55, h74, h78, hp1, hF⟩
                subst hpre0
                have H := Fl.go_nxt Hl91
                clear Hl91
                refine c_pure1 [(1, .slice A1 p1.length cap1), (2, .int .u64 p2), (7, .slice A14 r12.length cap15), (8, .pointer (some ⟨b73, 0, none⟩)), (10, .slice A53 v89.2.1.length cap54), (11, .int .u64 v89.2.2), (12, .int .i64 (wi (m0_3 + 1)))] (fun R hR => st_val hS rfl rfl rfl (r_move hS rfl rfl) fun a187 hS187 => st_val hS187 rfl rfl rfl (r_bin hS187 rfl rfl rfl b_add) fun a188 hS188 => st_val hS188 rfl rfl rfl (r_assign hS188 rfl rfl) fun a189 hS189 => wpList_nil (hR _ (hS189.re ⟨rfl, rfl, rfl, rfl, rfl, rfl, rfl, trivial⟩))) ?_
                clear hS
                clear a
                intro a hS
                refine ⟨k82, Nat.lt_succ_self _, ?_⟩
                exact ⟨v89.1, v89.2.1, v89.2.2, wi (m0_3 + 1), g88, H, hS.re ⟨rfl, rfl, rfl, rfl, rfl, rfl, rfl, trivial⟩, h16, h55, h74, h78, hp1, hF⟩
            · replace H := ite_f hb87 H
              refine wp_exit ?_
              have e := Option.some.inj H
              exact ⟨(m0_0.list, m0_0.now, m0_1), g81, b73, A76, cap77, e.symm, hS.re ⟨rfl, rfl, rfl, rfl, trivial⟩, h16, h55, h78, h74, hF⟩
      · clear H
        clear hp1 h16 h25 h55 hF
        clear hS
        rintro a w61 ⟨v67, g61, b62, A64, cap65, hpre0, hS, h16, h55, h66, h63, hF⟩
        subst hpre0
        have H := Fl.go_nxt Hl69
        clear Hl69
        obtain ⟨o192, H, Hl193⟩ := bind_el H
        refine c_cut (fun a w190 => ∃ (g190 : Nat → Nat), o192 = .nxt () ∧ Sl 147 a [] ∧ Fr (fun q => N ≤ q) w g w190 g190) ?_ ?_
        · refine c_pure [(2, .int .u64 p2), (7, .slice A14 r12.length cap15), (8, .pointer (some ⟨b62, 0, none⟩)), (10, .slice A53 v67.2.2.length cap54), (19, .int .i64 0)] (fun R hR => st_val hS rfl rfl rfl (r_assign hS rfl rfl) fun a194 hS194 => wpList_nil (hR _ (hS194.re ⟨rfl, rfl, rfl, rfl, rfl, trivial⟩))) ?_
          clear hS
          clear a
          intro a hS
          refine wp_block ?_
          refine wp_loop_ghost (fun kq => fun a w195 => ∃ (m2_0 : Int), ∃ (g195 : Nat → Nat), law25_RailsReadyAtLastOperation.l2 p2 r12 v67 kq m2_0 = some o192 ∧ Sl 147 a [(2, .int .u64 p2), (7, .slice A14 r12.length cap15), (8, .pointer (some ⟨b62, 0, none⟩)), (10, .slice A53 v67.2.2.length cap54), (19, .int .i64 m2_0)] ∧ OwS kd_api_Rail 35 w195 g195 (N + 0) A14 cap15 r12 ∧ OwS (kint .u64) 33 w195 g195 (N + 5) A53 cap54 v67.2.2 ∧ OwS kd_rails_rail 75 w195 g195 (N + 2 + 1) A64 cap65 v67.1 ∧ Bx w195 g195 (N + 2) b62 70 [.slice A64 v67.1.length cap65, .int .u64 v67.2.1] ∧ Fr (fun q => N ≤ q) w g w195 g195) FUEL ?_ ?_
          · exact ⟨0, g61, H, hS.re ⟨rfl, rfl, rfl, rfl, rfl, trivial⟩, h16, h55, h66, h63, hF⟩
          · clear H
            clear h16 h55 h66 h63 hF
            clear hS
            rintro k196 a w195 ⟨m2_0, g195, hpre0, hS, h16, h55, h66, h63, hF⟩
            have H := hpre0
            clear hpre0
            cases k196 with
            | zero => exact absurd H (by simp [law25_RailsReadyAtLastOperation.l2])
            | succ k196 =>
              rw [law25_RailsReadyAtLastOperation.l2] at H
              refine wp_seq ?_
              refine c_pure [(2, .int .u64 p2), (7, .slice A14 r12.length cap15), (8, .pointer (some ⟨b62, 0, none⟩)), (10, .slice A53 v67.2.2.length cap54), (19, .int .i64 m2_0), (99, .bool (decide (m2_0 < (r12.length : Int))))] (fun R hR => st_val hS rfl rfl rfl (r_move hS rfl rfl) fun a197 hS197 => st_val hS197 rfl rfl rfl (r_move hS197 rfl rfl) fun a198 hS198 => st_val hS198 rfl rfl rfl (r_len (e := 35) (sz := 3) (by_ := 24) hS198 rfl rfl (by kernel_rfl)) fun a199 hS199 => st_val hS199 rfl rfl rfl (r_bin hS199 rfl rfl rfl b_lss) fun a200 hS200 => wpList_nil (hR _ (hS200.re ⟨rfl, rfl, rfl, rfl, rfl, rfl, trivial⟩))) ?_
              clear hS
              clear a
              intro a hS
              refine c_cond hS rfl (fun hb201 => ?_) (fun hb201 => ?_)
              · replace H := ite_t hb201 H
                refine wp_skip ?_
                change Code.wp _ _ _ _ _
                refine wp_seq ?_
                refine wp_block ?_
                obtain ⟨r204, hr205, H⟩ := bind_el H
                refine c_region (fun K hK => ?_)
                refine st_val hS rfl rfl rfl (r_move hS rfl rfl) fun a202 hS202 => st_val hS202 rfl rfl rfl (r_move hS202 rfl rfl) fun a203 hS203 => ?_
                refine st_enter hS203 rfl rfl rfl (r_call hS203 rfl rfl (by kernel_rfl)) (rails_Rails_ReadyAt.calls (c0 := N + 2) (b_p0 := b62) (A_list_p0 := A64) (cap_list_p0 := cap65) (p0 := (rails_Rails.mk v67.1 v67.2.1)) (p1 := m2_0) (g := g195) (N + 11)  ⟨h63, h66⟩ (by omega) hr205) ?_
                rintro _ a206 w207 ⟨g207, rfl, F207⟩ hS206
                replace h16 := OwS.fr h16 F207 (fun c' hc (hm : N + 11 ≤ c') => by omega)
                replace h55 := OwS.fr h55 F207 (fun c' hc (hm : N + 11 ≤ c') => by omega)
                replace h66 := OwS.fr h66 F207 (fun c' hc (hm : N + 11 ≤ c') => by omega)
                replace h63 := h63.fr F207 (fun (hm : N + 11 ≤ N + 2) => by omega)
                replace hF := hF.trans F207 (fun c' (hm : N + 11 ≤ c') => by show N ≤ c'; omega)
                refine st_val hS206 rfl rfl rfl (r_move hS206 rfl rfl) fun a208 hS208 => st_val hS208 rfl rfl rfl (r_extract hS208 rfl rfl rfl) fun a209 hS209 => st_val hS209 rfl rfl rfl (r_extract hS209 rfl rfl rfl) fun a210 hS210 => st_val hS210 rfl rfl rfl (r_assign hS210 rfl rfl) fun a211 hS211 => st_val hS211 rfl rfl rfl (r_assign hS211 rfl rfl) fun a212 hS212 => wpList_nil (hK _ _ ?_)
                replace hS : Sl 147 _ [(2, .int .u64 p2), (7, .slice A14 r12.length cap15), (8, .pointer (some ⟨b62, 0, none⟩)), (10, .slice A53 v67.2.2.length cap54), (19, .int .i64 m2_0), (20, .int .u64 r204.1), (21, .bool r204.2)] := hS212.re ⟨rfl, rfl, rfl, rfl, rfl, rfl, rfl, trivial⟩
                clear hK K
                try clear hS202 hS203 hS206 hS208 hS209 hS210 hS211 hS212
                obtain ⟨a, ha⟩ : ∃ a', a' = a212 := ⟨_, rfl⟩
                rw [← ha] at hS ⊢; clear ha
                obtain ⟨r216, hr217, H⟩ := bind_el H
                obtain ⟨t256, ht257, H⟩ := bind_el H
                obtain ⟨t366, ht367, H⟩ := bind_el H
                refine c_region (fun K hK => ?_)
                refine st_val hS rfl rfl rfl (r_move hS rfl rfl) fun a213 hS213 => st_val hS213 rfl rfl rfl (r_move hS213 rfl rfl) fun a214 hS214 => st_val hS214 rfl rfl rfl (r_move hS214 rfl rfl) fun a215 hS215 => ?_
                refine st_enter hS215 rfl rfl rfl (r_call hS215 rfl rfl (by kernel_rfl)) (rails_Rails_Count.calls (c0 := N + 2) (b_p0 := b62) (A_list_p0 := A64) (cap_list_p0 := cap65) (p0 := (rails_Rails.mk v67.1 v67.2.1)) (p1 := m2_0) (g := g207) (N + 11)  ⟨h63, h66⟩ (by omega) hr217) ?_
                rintro _ a218 w219 ⟨g219, rfl, F219⟩ hS218
                replace h16 := OwS.fr h16 F219 (fun c' hc (hm : N + 11 ≤ c') => by omega)
                replace h55 := OwS.fr h55 F219 (fun c' hc (hm : N + 11 ≤ c') => by omega)
                replace h66 := OwS.fr h66 F219 (fun c' hc (hm : N + 11 ≤ c') => by omega)
                replace h63 := h63.fr F219 (fun (hm : N + 11 ≤ N + 2) => by omega)
                replace hF := hF.trans F219 (fun c' (hm : N + 11 ≤ c') => by show N ≤ c'; omega)
                refine st_val hS218 rfl rfl rfl (r_bin hS218 rfl rfl rfl b_gtr) fun a220 hS220 => st_val hS220 rfl rfl rfl (r_binB hS220 rfl rfl rfl (b_neqB (by kernel_rfl))) fun a221 hS221 => st_val hS221 rfl rfl rfl (r_move hS221 rfl rfl) fun a222 hS222 => ?_
                refine g_join (N := 147) 10 [(2, .int .u64 p2), (7, .slice A14 r12.length cap15), (8, .pointer (some ⟨b62, 0, none⟩)), (10, .slice A53 v67.2.2.length cap54), (19, .int .i64 m2_0), (20, .int .u64 r204.1), (21, .bool r204.2), (124, .bool t256)] ?_ (fun hk => ?_)
                rotate_left
                · rcases Bool.eq_false_or_eq_true ((!(r204.2 == (decide (0 < r216))))) with hb223 | hb223
                  · have H := ite_t hb223 ht257
                    have e258 := Option.some.inj H
                    refine st_off hS222 (want_off hS222 rfl rfl rfl hb223) rfl rfl fun a259 hS259 => st_off hS259 (want_off hS259 rfl rfl rfl hb223) rfl rfl fun a260 hS260 => st_off hS260 (want_un hS260 rfl rfl rfl) rfl rfl fun a261 hS261 => st_off hS261 (want_un hS261 rfl rfl rfl) rfl rfl fun a262 hS262 => st_off hS262 (want_un hS262 rfl rfl rfl) rfl rfl fun a263 hS263 => st_off hS263 (want_un hS263 rfl rfl rfl) rfl rfl fun a264 hS264 => st_off hS264 (want_un hS264 rfl rfl rfl) rfl rfl fun a265 hS265 => st_off hS265 (want_un hS265 rfl rfl rfl) rfl rfl fun a266 hS266 => st_off hS266 (want_off hS266 rfl rfl rfl hb223) rfl rfl fun a267 hS267 => st_val hS267 rfl rfl rfl (r_pickT hS267 rfl rfl rfl hb223) fun a268 hS268 => hk _ (hS268.re ⟨rfl, rfl, rfl, rfl, rfl, rfl, rfl, (by rw [← e258]; rfl), trivial⟩)
                  · have H := ite_f hb223 ht257
                    obtain ⟨t280, ht281, H⟩ := bind_el H
                    have e301 := Option.some.inj H
                    refine st_valW hS222 (want_on hS222 rfl rfl rfl hb223) rfl rfl (r_move hS222 rfl rfl) fun a269 hS269 => st_valW hS269 (want_on hS269 rfl rfl rfl hb223) rfl rfl (r_move hS269 rfl rfl) fun a270 hS270 => ?_
                    refine g_join (N := 147) 7 [(2, .int .u64 p2), (7, .slice A14 r12.length cap15), (8, .pointer (some ⟨b62, 0, none⟩)), (10, .slice A53 v67.2.2.length cap54), (19, .int .i64 m2_0), (20, .int .u64 r204.1), (21, .bool r204.2), (114, .bool (!(r204.2 == (decide (0 < r216))))), (115, .bool r204.2), (116, .bool r204.2), (123, .bool t280)] ?_ (fun hk => ?_)
                    rotate_left
                    · rcases Bool.eq_false_or_eq_true (r204.2) with hb271 | hb271
                      · have H := ite_t hb271 ht281
                        obtain ⟨x285, hx286, H⟩ := bind_el H
                        have e290 := Option.some.inj H
                        refine st_valW hS270 (want_on hS270 rfl rfl rfl hb271) rfl rfl (r_move hS270 rfl rfl) fun a282 hS282 => st_valW hS282 (want_on hS282 rfl rfl rfl hb271) rfl rfl (r_move hS282 rfl rfl) fun a283 hS283 => st_valW hS283 (want_on hS283 rfl rfl rfl hb271) rfl rfl (r_move hS283 rfl rfl) fun a284 hS284 => st_valW hS284 (want_on hS284 rfl rfl rfl hb271) rfl rfl (r_index (e := 33) (sz := 1) (by_ := 8) hS284 rfl rfl rfl (by kernel_rfl) (RdS.some_ (OwS.rd h55) hx286) (idx_lo hx286) (idx_hi hx286)) fun a287 hS287 => st_valW hS287 (want_on hS287 rfl rfl rfl hb271) rfl rfl (r_load1 (n := 1) hS287 rfl rfl (by kernel_rfl) (RdS.cell (i := m2_0) (sz := 1) (j := 0) (OwS.rd h55) hx286 rfl)) fun a288 hS288 => st_valW hS288 (want_on hS288 rfl rfl rfl hb271) rfl rfl (r_bin hS288 rfl rfl rfl b_neq) fun a289 hS289 => st_valW hS289 (want_on hS289 rfl rfl rfl hb223) rfl rfl (r_pickT hS289 rfl rfl rfl hb271) fun a291 hS291 => hk _ (hS291.re ⟨rfl, rfl, rfl, rfl, rfl, rfl, rfl, rfl, rfl, rfl, (by rw [← e290]; rfl), trivial⟩)
                      · have H := ite_f hb271 ht281
                        have e292 := Option.some.inj H
                        refine st_off hS270 (want_off hS270 rfl rfl rfl hb271) rfl rfl fun a293 hS293 => st_off hS293 (want_off hS293 rfl rfl rfl hb271) rfl rfl fun a294 hS294 => st_off hS294 (want_off hS294 rfl rfl rfl hb271) rfl rfl fun a295 hS295 => st_off hS295 (want_off hS295 rfl rfl rfl hb271) rfl rfl fun a296 hS296 => st_off hS296 (want_off hS296 rfl rfl rfl hb271) rfl rfl fun a297 hS297 => st_off hS297 (want_off hS297 rfl rfl rfl hb271) rfl rfl fun a298 hS298 => st_valW hS298 (want_on hS298 rfl rfl rfl hb223) rfl rfl (r_pickF hS298 rfl rfl rfl hb271) fun a299 hS299 => hk _ (hS299.re ⟨rfl, rfl, rfl, rfl, rfl, rfl, rfl, rfl, rfl, rfl, (by rw [← e292]; rfl), trivial⟩)
                    intro a300 hS300
                    refine st_val hS300 rfl rfl rfl (r_pickF hS300 rfl rfl rfl hb223) fun a302 hS302 => hk _ (hS302.re ⟨rfl, rfl, rfl, rfl, rfl, rfl, rfl, (by rw [← e301]; rfl), trivial⟩)
                intro a303 hS303
                refine st_val hS303 rfl rfl rfl (r_move hS303 rfl rfl) fun a304 hS304 => ?_
                refine g_join (N := 147) 7 [(2, .int .u64 p2), (7, .slice A14 r12.length cap15), (8, .pointer (some ⟨b62, 0, none⟩)), (10, .slice A53 v67.2.2.length cap54), (19, .int .i64 m2_0), (20, .int .u64 r204.1), (21, .bool r204.2), (132, .bool (t256 || ((!r204.2) && (r204.1 != 0))))] ?_ (fun hk => ?_)
                rotate_left
                · rcases Bool.eq_false_or_eq_true (t256) with hb305 | hb305
                  · refine st_off hS304 (want_off hS304 rfl rfl rfl hb305) rfl rfl fun a319 hS319 => st_off hS319 (want_off hS319 rfl rfl rfl hb305) rfl rfl fun a320 hS320 => st_off hS320 (want_off hS320 rfl rfl rfl hb305) rfl rfl fun a321 hS321 => st_off hS321 (want_un hS321 rfl rfl rfl) rfl rfl fun a322 hS322 => st_off hS322 (want_un hS322 rfl rfl rfl) rfl rfl fun a323 hS323 => st_off hS323 (want_off hS323 rfl rfl rfl hb305) rfl rfl fun a324 hS324 => st_val hS324 rfl rfl rfl (r_pickT hS324 rfl rfl rfl hb305) fun a325 hS325 => hk _ (hS325.re ⟨rfl, rfl, rfl, rfl, rfl, rfl, rfl, (by rw [hb305]; rfl), trivial⟩)
                  · refine st_valW hS304 (want_on hS304 rfl rfl rfl hb305) rfl rfl (r_move hS304 rfl rfl) fun a326 hS326 => st_valW hS326 (want_on hS326 rfl rfl rfl hb305) rfl rfl (r_not hS326 rfl rfl) fun a327 hS327 => st_valW hS327 (want_on hS327 rfl rfl rfl hb305) rfl rfl (r_move hS327 rfl rfl) fun a328 hS328 => ?_
                    refine g_join (N := 147) 3 [(2, .int .u64 p2), (7, .slice A14 r12.length cap15), (8, .pointer (some ⟨b62, 0, none⟩)), (10, .slice A53 v67.2.2.length cap54), (19, .int .i64 m2_0), (20, .int .u64 r204.1), (21, .bool r204.2), (125, .bool t256), (126, .bool r204.2), (127, .bool (!r204.2)), (128, .bool (!r204.2)), (131, .bool ((!r204.2) && (r204.1 != 0)))] ?_ (fun hk => ?_)
                    rotate_left
                    · rcases Bool.eq_false_or_eq_true ((!r204.2)) with hb329 | hb329
                      · refine st_valW hS328 (want_on hS328 rfl rfl rfl hb329) rfl rfl (r_move hS328 rfl rfl) fun a332 hS332 => st_valW hS332 (want_on hS332 rfl rfl rfl hb329) rfl rfl (r_bin hS332 rfl rfl rfl b_neq) fun a333 hS333 => st_valW hS333 (want_on hS333 rfl rfl rfl hb305) rfl rfl (r_pickT hS333 rfl rfl rfl hb329) fun a334 hS334 => hk _ (hS334.re ⟨rfl, rfl, rfl, rfl, rfl, rfl, rfl, rfl, rfl, rfl, rfl, (by rw [hb329]; rfl), trivial⟩)
                      · refine st_off hS328 (want_off hS328 rfl rfl rfl hb329) rfl rfl fun a335 hS335 => st_off hS335 (want_off hS335 rfl rfl rfl hb329) rfl rfl fun a336 hS336 => st_valW hS336 (want_on hS336 rfl rfl rfl hb305) rfl rfl (r_pickF hS336 rfl rfl rfl hb329) fun a337 hS337 => hk _ (hS337.re ⟨rfl, rfl, rfl, rfl, rfl, rfl, rfl, rfl, rfl, rfl, rfl, (by rw [hb329]; rfl), trivial⟩)
                    intro a338 hS338
                    refine st_val hS338 rfl rfl rfl (r_pickF hS338 rfl rfl rfl hb305) fun a339 hS339 => hk _ (hS339.re ⟨rfl, rfl, rfl, rfl, rfl, rfl, rfl, (by rw [hb305]; rfl), trivial⟩)
                intro a340 hS340
                refine st_val hS340 rfl rfl rfl (r_move hS340 rfl rfl) fun a341 hS341 => ?_
                refine g_joinR 12 (fun a w368 => ∃ (g368 : Nat → Nat), Sl 147 a [(2, .int .u64 p2), (7, .slice A14 r12.length cap15), (8, .pointer (some ⟨b62, 0, none⟩)), (10, .slice A53 v67.2.2.length cap54), (19, .int .i64 m2_0), (145, .bool t366)] ∧ OwS kd_api_Rail 35 w368 g368 (N + 0) A14 cap15 r12 ∧ OwS (kint .u64) 33 w368 g368 (N + 5) A53 cap54 v67.2.2 ∧ OwS kd_rails_rail 75 w368 g368 (N + 2 + 1) A64 cap65 v67.1 ∧ Bx w368 g368 (N + 2) b62 70 [.slice A64 v67.1.length cap65, .int .u64 v67.2.1] ∧ Fr (fun q => N ≤ q) w g w368 g368) ?_ (fun hk => ?_)
                rotate_left
                · rcases Bool.eq_false_or_eq_true ((t256 || ((!r204.2) && (r204.1 != 0)))) with hb342 | hb342
                  · have H := ite_t hb342 ht367
                    have e369 := Option.some.inj H
                    refine st_off hS341 (want_off hS341 rfl rfl rfl hb342) rfl rfl fun a370 hS370 => st_off hS370 (want_off hS370 rfl rfl rfl hb342) rfl rfl fun a371 hS371 => st_off hS371 (want_off hS371 rfl rfl rfl hb342) rfl rfl fun a372 hS372 => st_off hS372 (want_off hS372 rfl rfl rfl hb342) rfl rfl fun a373 hS373 => st_off hS373 (want_off hS373 rfl rfl rfl hb342) rfl rfl fun a374 hS374 => st_off hS374 (want_off hS374 rfl rfl rfl hb342) rfl rfl fun a375 hS375 => st_off hS375 (want_un hS375 rfl rfl rfl) rfl rfl fun a376 hS376 => st_off hS376 (want_un hS376 rfl rfl rfl) rfl rfl fun a377 hS377 => st_off hS377 (want_un hS377 rfl rfl rfl) rfl rfl fun a378 hS378 => st_off hS378 (want_off hS378 rfl rfl rfl hb342) rfl rfl fun a379 hS379 => st_off hS379 (want_off hS379 rfl rfl rfl hb342) rfl rfl fun a380 hS380 => st_val hS380 rfl rfl rfl (r_pickT hS380 rfl rfl rfl hb342) fun a381 hS381 => hk _ _ ?_
                    exact ⟨g219, hS381.re ⟨rfl, rfl, rfl, rfl, rfl, (by rw [← e369]; rfl), trivial⟩, h16, h55, h66, h63, hF⟩
                  · have H := ite_f hb342 ht367
                    obtain ⟨r385, hr386, H⟩ := bind_el H
                    have e405 := Option.some.inj H
                    refine st_valW hS341 (want_on hS341 rfl rfl rfl hb342) rfl rfl (r_move hS341 rfl rfl) fun a382 hS382 => st_valW hS382 (want_on hS382 rfl rfl rfl hb342) rfl rfl (r_move hS382 rfl rfl) fun a383 hS383 => st_valW hS383 (want_on hS383 rfl rfl rfl hb342) rfl rfl (r_move hS383 rfl rfl) fun a384 hS384 => ?_
                    refine st_enterW hS384 (want_on hS384 rfl rfl rfl hb342) rfl rfl (r_call hS384 rfl rfl (by kernel_rfl)) (rails_Rails_Powered.calls (c0 := N + 2) (b_p0 := b62) (A_list_p0 := A64) (cap_list_p0 := cap65) (p0 := (rails_Rails.mk v67.1 v67.2.1)) (p1 := m2_0) (p2 := p2) (g := g219) (N + 11)  ⟨h63, h66⟩ (by omega) hr386) ?_
                    rintro _ a387 w388 ⟨g388, rfl, F388⟩ hS387
                    replace h16 := OwS.fr h16 F388 (fun c' hc (hm : N + 11 ≤ c') => by omega)
                    replace h55 := OwS.fr h55 F388 (fun c' hc (hm : N + 11 ≤ c') => by omega)
                    replace h66 := OwS.fr h66 F388 (fun c' hc (hm : N + 11 ≤ c') => by omega)
                    replace h63 := h63.fr F388 (fun (hm : N + 11 ≤ N + 2) => by omega)
                    replace hF := hF.trans F388 (fun c' (hm : N + 11 ≤ c') => by show N ≤ c'; omega)
                    refine st_valW hS387 (want_on hS387 rfl rfl rfl hb342) rfl rfl (r_move hS387 rfl rfl) fun a389 hS389 => st_valW hS389 (want_on hS389 rfl rfl rfl hb342) rfl rfl (r_move hS389 rfl rfl) fun a390 hS390 => ?_
                    refine g_join (N := 147) 4 [(2, .int .u64 p2), (7, .slice A14 r12.length cap15), (8, .pointer (some ⟨b62, 0, none⟩)), (10, .slice A53 v67.2.2.length cap54), (19, .int .i64 m2_0), (133, .bool (t256 || ((!r204.2) && (r204.1 != 0)))), (134, .pointer (some ⟨b62, 0, none⟩)), (135, .int .i64 m2_0), (136, .int .u64 p2), (137, .bool r385), (138, .bool r204.2), (139, .bool r204.2), (143, .bool (r204.2 && (decide (r204.1 ≤ p2))))] ?_ (fun hk => ?_)
                    rotate_left
                    · rcases Bool.eq_false_or_eq_true (r204.2) with hb391 | hb391
                      · refine st_valW hS390 (want_on hS390 rfl rfl rfl hb391) rfl rfl (r_move hS390 rfl rfl) fun a395 hS395 => st_valW hS395 (want_on hS395 rfl rfl rfl hb391) rfl rfl (r_move hS395 rfl rfl) fun a396 hS396 => st_valW hS396 (want_on hS396 rfl rfl rfl hb391) rfl rfl (r_bin hS396 rfl rfl rfl b_leq) fun a397 hS397 => st_valW hS397 (want_on hS397 rfl rfl rfl hb342) rfl rfl (r_pickT hS397 rfl rfl rfl hb391) fun a398 hS398 => hk _ (hS398.re ⟨rfl, rfl, rfl, rfl, rfl, rfl, rfl, rfl, rfl, rfl, rfl, rfl, (by rw [hb391]; rfl), trivial⟩)
                      · refine st_off hS390 (want_off hS390 rfl rfl rfl hb391) rfl rfl fun a399 hS399 => st_off hS399 (want_off hS399 rfl rfl rfl hb391) rfl rfl fun a400 hS400 => st_off hS400 (want_off hS400 rfl rfl rfl hb391) rfl rfl fun a401 hS401 => st_valW hS401 (want_on hS401 rfl rfl rfl hb342) rfl rfl (r_pickF hS401 rfl rfl rfl hb391) fun a402 hS402 => hk _ (hS402.re ⟨rfl, rfl, rfl, rfl, rfl, rfl, rfl, rfl, rfl, rfl, rfl, rfl, (by rw [hb391]; rfl), trivial⟩)
                    intro a403 hS403
                    refine st_valW hS403 (want_on hS403 rfl rfl rfl hb342) rfl rfl (r_binB hS403 rfl rfl rfl (b_neqB (by kernel_rfl))) fun a404 hS404 => ?_
                    refine st_val hS404 rfl rfl rfl (r_pickF hS404 rfl rfl rfl hb342) fun a406 hS406 => hk _ _ ?_
                    exact ⟨g388, hS406.re ⟨rfl, rfl, rfl, rfl, rfl, (by rw [← e405]; rfl), trivial⟩, h16, h55, h66, h63, hF⟩
                rintro a407 w368 ⟨g368, hS407, h16, h55, h66, h63, hF⟩
                refine wpList_nil (hK _ _ ?_)
                replace hS : Sl 147 _ [(2, .int .u64 p2), (7, .slice A14 r12.length cap15), (8, .pointer (some ⟨b62, 0, none⟩)), (10, .slice A53 v67.2.2.length cap54), (19, .int .i64 m2_0), (145, .bool t366)] := hS407.re ⟨rfl, rfl, rfl, rfl, rfl, rfl, trivial⟩
                clear hK K
                try clear hS213 hS214 hS215 hS218 hS220 hS221 hS222 hS303 hS304 hS340 hS341 hS407
                obtain ⟨a, ha⟩ : ∃ a', a' = a407 := ⟨_, rfl⟩
                rw [← ha] at hS ⊢; clear ha
                refine c_cond hS rfl (fun hb408 => ?_) (fun hb408 => ?_)
                · replace H := ite_t hb408 H
                  refine c_pure [(6, .bool false)] (fun R hR => st_val hS rfl rfl rfl (r_assign hS rfl rfl) fun a409 hS409 => wpList_nil (hR _ (hS409.re ⟨rfl, trivial⟩))) ?_
                  clear hS
                  clear a
                  intro a hS
                  refine wp_ret ?_
                  have e := Option.some.inj H
                  subst e
                  replace H := Fl.go_out Hl193
                  have e := Option.some.inj H
                  subst e
                  repeat (with_reducible first | refine then_ret ?_ | refine inBlock_ret ?_)
                  exact c_ret1 hS Try.results8 rfl ⟨_, rfl, g368, rfl, hF⟩
                · replace H := ite_f hb408 H
                  refine wp_skip ?_
                  change Code.wp _ _ _ _ _
                  refine c_pure1 [(2, .int .u64 p2), (7, .slice A14 r12.length cap15), (8, .pointer (some ⟨b62, 0, none⟩)), (10, .slice A53 v67.2.2.length cap54), (19, .int .i64 (wi (m2_0 + 1)))] (fun R hR => st_val hS rfl rfl rfl (r_move hS rfl rfl) fun a410 hS410 => st_val hS410 rfl rfl rfl (r_bin hS410 rfl rfl rfl b_add) fun a411 hS411 => st_val hS411 rfl rfl rfl (r_assign hS411 rfl rfl) fun a412 hS412 => wpList_nil (hR _ (hS412.re ⟨rfl, rfl, rfl, rfl, rfl, trivial⟩))) ?_
                  clear hS
                  clear a
                  intro a hS
                  refine ⟨k196, Nat.lt_succ_self _, ?_⟩
                  exact ⟨wi (m2_0 + 1), g368, H, hS.re ⟨rfl, rfl, rfl, rfl, rfl, trivial⟩, h16, h55, h66, h63, hF⟩
              · replace H := ite_f hb201 H
                refine wp_exit ?_
                have e := Option.some.inj H
                exact ⟨g195, e.symm, hS.re trivial, hF⟩
        · clear H
          clear h16 h55 h66 h63 hF
          clear hS
          rintro a w190 ⟨g190, hpre0, hS, hF⟩
          subst hpre0
          have H := Fl.go_nxt Hl193
          clear Hl193
          obtain ⟨r413, hr414, H⟩ := bind_el H
          refine c_region (fun K hK => ?_)
          refine st_enter hS rfl rfl rfl (r_call hS rfl rfl (by kernel_rfl)) (law25_awake.calls (g := g190) (N + 11)   hr414) ?_
          rintro _ a415 w416 ⟨g416, rfl, F416⟩ hS415
          replace hF := hF.trans F416 (fun c' (hm : N + 11 ≤ c') => by show N ≤ c'; omega)
          refine st_val hS415 rfl rfl rfl (r_assign hS415 rfl rfl) fun a417 hS417 => wpList_nil (hK _ _ ?_)
          replace hS : Sl 147 _ [(6, .bool r413)] := hS417.re ⟨rfl, trivial⟩
          clear hK K
          try clear hS415 hS417
          obtain ⟨a, ha⟩ : ∃ a', a' = a417 := ⟨_, rfl⟩
          rw [← ha] at hS ⊢; clear ha
          refine wp_ret ?_
          have e := Option.some.inj H
          subst e
          repeat (with_reducible first | refine then_ret ?_ | refine inBlock_ret ?_)
          exact c_ret1 hS Try.results8 rfl ⟨_, rfl, g416, rfl, hF⟩

/-- What is left of law25_RailsReadyAtLastOperation: about plain values alone. -/
def law25_RailsReadyAtLastOperation.Pure : Prop := ∀ (p0 : List api_Rail) (p1 : List law25_Call) (p2 : Int), (p0.length ≤ maxLen ∧ ∀ p0' ∈ p0, Wf_api_Rail p0') → (p1.length ≤ maxLen ∧ ∀ p1' ∈ p1, Wf_law25_Call p1') → (Lit.int .u64 p2).wf = true → law25_RailsReadyAtLastOperation.f p0 p1 p2 = some true

end Go.Proofs.Ytfiodhdldleocaa.Sim
