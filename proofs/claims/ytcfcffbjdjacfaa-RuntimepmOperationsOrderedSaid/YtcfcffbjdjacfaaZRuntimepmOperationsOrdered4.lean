/-
  Texts of this session, part 4 of 7: the words of the walk, plain functions with the same answers as the Go functions and the proofs of it, plain lemmas. No condition.
  They are, one behind the other: QLaw28Awake QHelpMod QLaw28CallAt QLaw28Do QLaw28Large QLaw28Needs QLaw28Some QRuntimepmManagerActive Op.
-/
import Derived.Test.YtcfcffbjdjacfaaProg
import Derived.Test.YtcfcffbjdjacfaaZRuntimepmOperationsOrdered3

namespace Go.Proofs.Ytcfcffbjdjacfaa.Sim
open Go
set_option linter.unusedVariables false
set_option linter.unusedSimpArgs false

/-! ### law28_awake: function 16 -/
def law28_awake.f  : Option (Bool) := (runtimepm_New.f [(api_IdleDevice.mk (-1) ([] : List Int) 0), (api_IdleDevice.mk 0 ([] : List Int) 5)]).bind fun r9 => if ((r9.2 != 0) || r9.1.isNone) = true then (some false) else ((r9.1).bind fun st36 => (runtimepm_Manager_Get.f st36 1 10).bind fun r55 => (runtimepm_Manager_Put.f r55.1 1 20).bind fun r69 => (runtimepm_Manager_NextExpiry.f r69.1).bind fun r83 => (runtimepm_Manager_Advance.f r69.1 30).bind fun r93 => (if ((((((r55.2.2 == 0) && (r69.2.2 == 0)) && (r93.2.2 == 0)) && r83.2) && (r83.1 == 25)) && ((r69.2.1.length : Int) == 0)) = true then (help_Equal_api_PowerOp.f r55.2.1 [(api_PowerOp.mk 0 true 10), (api_PowerOp.mk 1 true 10)]).bind fun r173 => some r173 else some false).bind fun t177 => (if t177 = true then (help_Equal_api_PowerOp.f r93.2.1 [(api_PowerOp.mk 1 false 25), (api_PowerOp.mk 0 false 25)]).bind fun r212 => some r212 else some false).bind fun t216 => some t216)
set_option maxRecDepth 100000 in
set_option maxHeartbeats 4000000 in
theorem law28_awake.calls  {w : World} {g : Nat → Nat} {out : Bool} (N : Nat)  (H : law28_awake.f  = some out) :
    Calls Try.prog 16 #[] w (fun e w' => ∃ v, e = .returned v ∧ ∃ (g' : Nat → Nat), v = .bool out ∧ Fr (fun q => N ≤ q) w g w' g') := by
  unfold law28_awake.f at H
  refine calls_enter Try.func16 rfl Try.ntmps16 rfl (fun a hS => ?_)
  replace hS : Sl 80 a [] := hS
  have hF : Fr (fun q => N ≤ q) w g w g := Fr.refl _ _ _
  refine c_pure [] (fun R hR => st_val hS rfl rfl rfl (r_assign hS rfl rfl) fun a1 hS1 => wpList_nil (hR _ (hS1.re trivial))) ?_
  clear hS
  clear a
  intro a hS
  obtain ⟨r9, hr10, H⟩ := bind_el H
  refine c_region (fun K hK => ?_)
  refine st_val hS rfl rfl rfl (r_build (parts := [(0, .int .i64 (-1))]) (u := .agg #[.int .i64 (-1), .slice none 0 0, .int .u64 0]) hS rfl rfl (fun _ => by kernel_rfl)) fun a2 hS2 => st_val hS2 rfl rfl rfl (r_build (parts := [(0, .int .i64 0), (2, .int .u64 5)]) (u := .agg #[.int .i64 0, .slice none 0 0, .int .u64 5]) hS2 rfl rfl (fun _ => by kernel_rfl)) fun a3 hS3 => ?_
  refine st_eff hS3 rfl rfl rfl (e_litD (D := (fun _ => False)) (e := 30) (parts := [(0, .agg #[.int .i64 (-1), .slice none 0 0, .int .u64 0]), (1, .agg #[.int .i64 0, .slice none 0 0, .int .u64 5])]) (cs := [.int .i64 (-1), .slice none 0 0, .int .u64 0, .int .i64 0, .slice none 0 0, .int .u64 5]) kd_api_IdleDevice [(api_IdleDevice.mk (-1) ([] : List Int) 0), (api_IdleDevice.mk 0 ([] : List Int) 5)] (N + 0) g hS3 rfl rfl (fun _ => by kernel_rfl) rfl (by decide) (Rows.cons (cs := [.int .i64 (-1), .slice none 0 0, .int .u64 0]) ⟨none, 0, rfl, RdS.nil (kint .i64) w g (fun _ => False)⟩ (Rows.cons (cs := [.int .i64 0, .slice none 0 0, .int .u64 5]) ⟨none, 0, rfl, RdS.nil (kint .i64) w g (fun _ => False)⟩ Rows.nil))) ?_
  rintro _ a7 w8 g8 ⟨⟨A4, rfl, h5⟩, F8⟩ hS7
  replace hF := hF.trans F8 (fun _ h => h.elim)
  refine st_enter hS7 rfl rfl rfl (r_call hS7 rfl rfl (by kernel_rfl)) (runtimepm_New.calls (C0 := (fun q => q = N + 0)) (p0 := [(api_IdleDevice.mk (-1) ([] : List Int) 0), (api_IdleDevice.mk 0 ([] : List Int) 5)]) (g := g8) (N + 19) (N + 2) (RdS.weak (OwD.rd h5) (fun _ h => Or.elim h id False.elim)) (fun q (hq : q = N + 0) => by omega) (by omega) hr10) ?_
  rintro _ a14 w15 ⟨g15, p11, rfl, h12, F15⟩ hS14
  replace h5 := OwD.fr h5 F15 (fun (hm : (N + 2 ≤ N + 0 ∧ N + 0 < N + 2 + 7) ∨ N + 19 ≤ N + 0) => by omega) (fun _ h => False.elim h)
  replace hF := hF.trans F15 (fun c' (hm : (N + 2 ≤ c' ∧ c' < N + 2 + 7) ∨ N + 19 ≤ c') => by show N ≤ c'; omega)
  refine st_val hS14 rfl rfl rfl (r_move hS14 rfl rfl) fun a16 hS16 => st_val hS16 rfl rfl rfl (r_extract hS16 rfl rfl rfl) fun a17 hS17 => st_val hS17 rfl rfl rfl (r_extract hS17 rfl rfl rfl) fun a18 hS18 => st_val hS18 rfl rfl rfl (r_assign hS18 rfl rfl) fun a19 hS19 => st_val hS19 rfl rfl rfl (r_assign hS19 rfl rfl) fun a20 hS20 => wpList_nil (hK _ _ ?_)
  replace hS : Sl 80 _ [(1, .pointer p11), (2, .int .i64 r9.2)] := hS20.re ⟨rfl, rfl, trivial⟩
  clear hK K
  try clear hS2 hS3 hS7 hS14 hS16 hS17 hS18 hS19 hS20
  obtain ⟨a, ha⟩ : ∃ a', a' = a20 := ⟨_, rfl⟩
  rw [← ha] at hS ⊢; clear ha
  refine wp_seq ?_
  refine c_region (fun K hK => ?_)
  refine st_val hS rfl rfl rfl (r_move hS rfl rfl) fun a21 hS21 => st_val hS21 rfl rfl rfl (r_bin hS21 rfl rfl rfl b_neq) fun a22 hS22 => st_val hS22 rfl rfl rfl (r_move hS22 rfl rfl) fun a23 hS23 => ?_
  refine g_join (N := 80) 3 [(1, .pointer p11), (23, .bool ((r9.2 != 0) || r9.1.isNone))] ?_ (fun hk => ?_)
  rotate_left
  · rcases Bool.eq_false_or_eq_true ((r9.2 != 0)) with hb24 | hb24
    · refine st_off hS23 (want_off hS23 rfl rfl rfl hb24) rfl rfl fun a27 hS27 => st_off hS27 (want_off hS27 rfl rfl rfl hb24) rfl rfl fun a28 hS28 => st_val hS28 rfl rfl rfl (r_pickT hS28 rfl rfl rfl hb24) fun a29 hS29 => hk _ (hS29.re ⟨rfl, (by rw [hb24]; rfl), trivial⟩)
    · refine st_valW hS23 (want_on hS23 rfl rfl rfl hb24) rfl rfl (r_move hS23 rfl rfl) fun a30 hS30 => st_valW hS30 (want_on hS30 rfl rfl rfl hb24) rfl rfl (r_optEq hS30 rfl rfl (by kernel_rfl) (runtimepm_Manager_Opt.isNone h12)) fun a31 hS31 => st_val hS31 rfl rfl rfl (r_pickF hS31 rfl rfl rfl hb24) fun a32 hS32 => hk _ (hS32.re ⟨rfl, (by rw [hb24]; rfl), trivial⟩)
  intro a33 hS33
  refine wpList_nil (hK _ _ ?_)
  replace hS : Sl 80 _ [(1, .pointer p11), (23, .bool ((r9.2 != 0) || r9.1.isNone))] := hS33.re ⟨rfl, rfl, trivial⟩
  clear hK K
  try clear hS21 hS22 hS23 hS33
  obtain ⟨a, ha⟩ : ∃ a', a' = a33 := ⟨_, rfl⟩
  rw [← ha] at hS ⊢; clear ha
  refine c_cond hS rfl (fun hb34 => ?_) (fun hb34 => ?_)
  · replace H := ite_t hb34 H
    refine c_pure [(0, .bool false)] (fun R hR => st_val hS rfl rfl rfl (r_assign hS rfl rfl) fun a35 hS35 => wpList_nil (hR _ (hS35.re ⟨rfl, trivial⟩))) ?_
    clear hS
    clear a
    intro a hS
    refine wp_ret ?_
    have e := Option.some.inj H
    subst e
    repeat (with_reducible first | refine then_ret ?_ | refine inBlock_ret ?_)
    exact c_ret1 hS Try.results16 rfl ⟨_, rfl, g15, rfl, hF⟩
  · replace H := ite_f hb34 H
    refine wp_skip ?_
    change Code.wp _ _ _ _ _
    obtain ⟨st36, hst37, H⟩ := bind_el H
    rw [hst37] at h12
    obtain ⟨b38, A41, cap42, A45, cap46, A49, cap50, hp53, h39, h43, h47, h51⟩ := h12
    subst hp53
    obtain ⟨r55, hr56, H⟩ := bind_el H
    refine c_region (fun K hK => ?_)
    refine st_val hS rfl rfl rfl (r_move hS rfl rfl) fun a54 hS54 => ?_
    refine st_enter hS54 rfl rfl rfl (r_call hS54 rfl rfl (by kernel_rfl)) (runtimepm_Manager_Get.calls (c0 := N + 2) (b_p0 := b38) (A_devices_p0 := A41) (cap_devices_p0 := cap42) (A_links_p0 := A45) (cap_links_p0 := cap46) (A_order_p0 := A49) (cap_order_p0 := cap50) (p0 := st36) (p1 := 1) (p2 := 10) (g := g15) (N + 19) (N + 9) ⟨h39, h43, h47, h51⟩ (by omega) (by omega) (by omega) hr56) ?_
    rintro _ a61 w62 ⟨g62, A57, cap58, rfl, ⟨h39, h43, h47, h51⟩, h59, F62⟩ hS61
    replace hF := hF.trans F62 (fun c' (hm : (N + 2 ≤ c' ∧ c' < N + 2 + 7) ∨ (N + 9 ≤ c' ∧ c' < N + 9 + 2) ∨ N + 19 ≤ c') => by show N ≤ c'; omega)
    refine st_val hS61 rfl rfl rfl (r_move hS61 rfl rfl) fun a63 hS63 => st_val hS63 rfl rfl rfl (r_extract hS63 rfl rfl rfl) fun a64 hS64 => st_val hS64 rfl rfl rfl (r_extract hS64 rfl rfl rfl) fun a65 hS65 => st_val hS65 rfl rfl rfl (r_assign hS65 rfl rfl) fun a66 hS66 => st_val hS66 rfl rfl rfl (r_assign hS66 rfl rfl) fun a67 hS67 => wpList_nil (hK _ _ ?_)
    replace hS : Sl 80 _ [(1, .pointer (some ⟨b38, 0, none⟩)), (3, .slice A57 r55.2.1.length cap58), (4, .int .i64 r55.2.2)] := hS67.re ⟨rfl, rfl, rfl, trivial⟩
    clear hK K
    try clear hS54 hS61 hS63 hS64 hS65 hS66 hS67
    obtain ⟨a, ha⟩ : ∃ a', a' = a67 := ⟨_, rfl⟩
    rw [← ha] at hS ⊢; clear ha
    obtain ⟨r69, hr70, H⟩ := bind_el H
    refine c_region (fun K hK => ?_)
    refine st_val hS rfl rfl rfl (r_move hS rfl rfl) fun a68 hS68 => ?_
    refine st_enter hS68 rfl rfl rfl (r_call hS68 rfl rfl (by kernel_rfl)) (runtimepm_Manager_Put.calls (c0 := N + 2) (b_p0 := b38) (A_devices_p0 := A41) (cap_devices_p0 := cap42) (A_links_p0 := A45) (cap_links_p0 := cap46) (A_order_p0 := A49) (cap_order_p0 := cap50) (p0 := r55.1) (p1 := 1) (p2 := 20) (g := g62) (N + 19) (N + 11) ⟨h39, h43, h47, h51⟩ (by omega) (by omega) (by omega) hr70) ?_
    rintro _ a75 w76 ⟨g76, A71, cap72, rfl, ⟨h39, h43, h47, h51⟩, h73, F76⟩ hS75
    replace h59 := OwS.fr h59 F76 (fun c' hc (hm : (N + 2 ≤ c' ∧ c' < N + 2 + 7) ∨ (N + 11 ≤ c' ∧ c' < N + 11 + 2) ∨ N + 19 ≤ c') => by omega)
    replace hF := hF.trans F76 (fun c' (hm : (N + 2 ≤ c' ∧ c' < N + 2 + 7) ∨ (N + 11 ≤ c' ∧ c' < N + 11 + 2) ∨ N + 19 ≤ c') => by show N ≤ c'; omega)
    refine st_val hS75 rfl rfl rfl (r_move hS75 rfl rfl) fun a77 hS77 => st_val hS77 rfl rfl rfl (r_extract hS77 rfl rfl rfl) fun a78 hS78 => st_val hS78 rfl rfl rfl (r_extract hS78 rfl rfl rfl) fun a79 hS79 => st_val hS79 rfl rfl rfl (r_assign hS79 rfl rfl) fun a80 hS80 => st_val hS80 rfl rfl rfl (r_assign hS80 rfl rfl) fun a81 hS81 => wpList_nil (hK _ _ ?_)
    replace hS : Sl 80 _ [(1, .pointer (some ⟨b38, 0, none⟩)), (3, .slice A57 r55.2.1.length cap58), (4, .int .i64 r55.2.2), (5, .slice A71 r69.2.1.length cap72), (6, .int .i64 r69.2.2)] := hS81.re ⟨rfl, rfl, rfl, rfl, rfl, trivial⟩
    clear hK K
    try clear hS68 hS75 hS77 hS78 hS79 hS80 hS81
    obtain ⟨a, ha⟩ : ∃ a', a' = a81 := ⟨_, rfl⟩
    rw [← ha] at hS ⊢; clear ha
    obtain ⟨r83, hr84, H⟩ := bind_el H
    refine c_region (fun K hK => ?_)
    refine st_val hS rfl rfl rfl (r_move hS rfl rfl) fun a82 hS82 => ?_
    refine st_enter hS82 rfl rfl rfl (r_call hS82 rfl rfl (by kernel_rfl)) (runtimepm_Manager_NextExpiry.calls (c0 := N + 2) (b_p0 := b38) (A_devices_p0 := A41) (cap_devices_p0 := cap42) (A_links_p0 := A45) (cap_links_p0 := cap46) (A_order_p0 := A49) (cap_order_p0 := cap50) (p0 := r69.1) (g := g76) (N + 19)  ⟨h39, h43, h47, h51⟩ (by omega) hr84) ?_
    rintro _ a85 w86 ⟨g86, rfl, F86⟩ hS85
    replace h39 := h39.fr F86 (fun (hm : N + 19 ≤ N + 2) => by omega)
    replace h43 := OwS.fr h43 F86 (fun c' hc (hm : N + 19 ≤ c') => by omega)
    replace h47 := OwS.fr h47 F86 (fun c' hc (hm : N + 19 ≤ c') => by omega)
    replace h51 := OwS.fr h51 F86 (fun c' hc (hm : N + 19 ≤ c') => by omega)
    replace h59 := OwS.fr h59 F86 (fun c' hc (hm : N + 19 ≤ c') => by omega)
    replace h73 := OwS.fr h73 F86 (fun c' hc (hm : N + 19 ≤ c') => by omega)
    replace hF := hF.trans F86 (fun c' (hm : N + 19 ≤ c') => by show N ≤ c'; omega)
    refine st_val hS85 rfl rfl rfl (r_move hS85 rfl rfl) fun a87 hS87 => st_val hS87 rfl rfl rfl (r_extract hS87 rfl rfl rfl) fun a88 hS88 => st_val hS88 rfl rfl rfl (r_extract hS88 rfl rfl rfl) fun a89 hS89 => st_val hS89 rfl rfl rfl (r_assign hS89 rfl rfl) fun a90 hS90 => st_val hS90 rfl rfl rfl (r_assign hS90 rfl rfl) fun a91 hS91 => wpList_nil (hK _ _ ?_)
    replace hS : Sl 80 _ [(1, .pointer (some ⟨b38, 0, none⟩)), (3, .slice A57 r55.2.1.length cap58), (4, .int .i64 r55.2.2), (5, .slice A71 r69.2.1.length cap72), (6, .int .i64 r69.2.2), (7, .int .u64 r83.1), (8, .bool r83.2)] := hS91.re ⟨rfl, rfl, rfl, rfl, rfl, rfl, rfl, trivial⟩
    clear hK K
    try clear hS82 hS85 hS87 hS88 hS89 hS90 hS91
    obtain ⟨a, ha⟩ : ∃ a', a' = a91 := ⟨_, rfl⟩
    rw [← ha] at hS ⊢; clear ha
    obtain ⟨r93, hr94, H⟩ := bind_el H
    refine c_region (fun K hK => ?_)
    refine st_val hS rfl rfl rfl (r_move hS rfl rfl) fun a92 hS92 => ?_
    refine st_enter hS92 rfl rfl rfl (r_call hS92 rfl rfl (by kernel_rfl)) (runtimepm_Manager_Advance.calls (c0 := N + 2) (b_p0 := b38) (A_devices_p0 := A41) (cap_devices_p0 := cap42) (A_links_p0 := A45) (cap_links_p0 := cap46) (A_order_p0 := A49) (cap_order_p0 := cap50) (p0 := r69.1) (p1 := 30) (g := g86) (N + 19) (N + 13) ⟨h39, h43, h47, h51⟩ (by omega) (by omega) (by omega) hr94) ?_
    rintro _ a99 w100 ⟨g100, A95, cap96, rfl, ⟨h39, h43, h47, h51⟩, h97, F100⟩ hS99
    replace h59 := OwS.fr h59 F100 (fun c' hc (hm : (N + 2 ≤ c' ∧ c' < N + 2 + 7) ∨ (N + 13 ≤ c' ∧ c' < N + 13 + 2) ∨ N + 19 ≤ c') => by omega)
    replace h73 := OwS.fr h73 F100 (fun c' hc (hm : (N + 2 ≤ c' ∧ c' < N + 2 + 7) ∨ (N + 13 ≤ c' ∧ c' < N + 13 + 2) ∨ N + 19 ≤ c') => by omega)
    replace hF := hF.trans F100 (fun c' (hm : (N + 2 ≤ c' ∧ c' < N + 2 + 7) ∨ (N + 13 ≤ c' ∧ c' < N + 13 + 2) ∨ N + 19 ≤ c') => by show N ≤ c'; omega)
    refine st_val hS99 rfl rfl rfl (r_move hS99 rfl rfl) fun a101 hS101 => st_val hS101 rfl rfl rfl (r_extract hS101 rfl rfl rfl) fun a102 hS102 => st_val hS102 rfl rfl rfl (r_extract hS102 rfl rfl rfl) fun a103 hS103 => st_val hS103 rfl rfl rfl (r_assign hS103 rfl rfl) fun a104 hS104 => st_val hS104 rfl rfl rfl (r_assign hS104 rfl rfl) fun a105 hS105 => wpList_nil (hK _ _ ?_)
    replace hS : Sl 80 _ [(3, .slice A57 r55.2.1.length cap58), (4, .int .i64 r55.2.2), (5, .slice A71 r69.2.1.length cap72), (6, .int .i64 r69.2.2), (7, .int .u64 r83.1), (8, .bool r83.2), (9, .slice A95 r93.2.1.length cap96), (10, .int .i64 r93.2.2)] := hS105.re ⟨rfl, rfl, rfl, rfl, rfl, rfl, rfl, rfl, trivial⟩
    clear hK K
    try clear hS92 hS99 hS101 hS102 hS103 hS104 hS105
    obtain ⟨a, ha⟩ : ∃ a', a' = a105 := ⟨_, rfl⟩
    rw [← ha] at hS ⊢; clear ha
    obtain ⟨t177, ht178, H⟩ := bind_el H
    obtain ⟨t216, ht217, H⟩ := bind_el H
    refine c_region (fun K hK => ?_)
    refine st_val hS rfl rfl rfl (r_move hS rfl rfl) fun a106 hS106 => st_val hS106 rfl rfl rfl (r_bin hS106 rfl rfl rfl b_eql) fun a107 hS107 => st_val hS107 rfl rfl rfl (r_move hS107 rfl rfl) fun a108 hS108 => ?_
    refine g_join (N := 80) 3 [(3, .slice A57 r55.2.1.length cap58), (5, .slice A71 r69.2.1.length cap72), (7, .int .u64 r83.1), (8, .bool r83.2), (9, .slice A95 r93.2.1.length cap96), (10, .int .i64 r93.2.2), (49, .bool ((r55.2.2 == 0) && (r69.2.2 == 0)))] ?_ (fun hk => ?_)
    rotate_left
    · rcases Bool.eq_false_or_eq_true ((r55.2.2 == 0)) with hb109 | hb109
      · refine st_valW hS108 (want_on hS108 rfl rfl rfl hb109) rfl rfl (r_move hS108 rfl rfl) fun a112 hS112 => st_valW hS112 (want_on hS112 rfl rfl rfl hb109) rfl rfl (r_bin hS112 rfl rfl rfl b_eql) fun a113 hS113 => st_val hS113 rfl rfl rfl (r_pickT hS113 rfl rfl rfl hb109) fun a114 hS114 => hk _ (hS114.re ⟨rfl, rfl, rfl, rfl, rfl, rfl, (by rw [hb109]; rfl), trivial⟩)
      · refine st_off hS108 (want_off hS108 rfl rfl rfl hb109) rfl rfl fun a115 hS115 => st_off hS115 (want_off hS115 rfl rfl rfl hb109) rfl rfl fun a116 hS116 => st_val hS116 rfl rfl rfl (r_pickF hS116 rfl rfl rfl hb109) fun a117 hS117 => hk _ (hS117.re ⟨rfl, rfl, rfl, rfl, rfl, rfl, (by rw [hb109]; rfl), trivial⟩)
    intro a118 hS118
    refine st_val hS118 rfl rfl rfl (r_move hS118 rfl rfl) fun a119 hS119 => ?_
    refine g_join (N := 80) 3 [(3, .slice A57 r55.2.1.length cap58), (5, .slice A71 r69.2.1.length cap72), (7, .int .u64 r83.1), (8, .bool r83.2), (9, .slice A95 r93.2.1.length cap96), (53, .bool (((r55.2.2 == 0) && (r69.2.2 == 0)) && (r93.2.2 == 0)))] ?_ (fun hk => ?_)
    rotate_left
    · rcases Bool.eq_false_or_eq_true (((r55.2.2 == 0) && (r69.2.2 == 0))) with hb120 | hb120
      · refine st_valW hS119 (want_on hS119 rfl rfl rfl hb120) rfl rfl (r_move hS119 rfl rfl) fun a123 hS123 => st_valW hS123 (want_on hS123 rfl rfl rfl hb120) rfl rfl (r_bin hS123 rfl rfl rfl b_eql) fun a124 hS124 => st_val hS124 rfl rfl rfl (r_pickT hS124 rfl rfl rfl hb120) fun a125 hS125 => hk _ (hS125.re ⟨rfl, rfl, rfl, rfl, rfl, (by rw [hb120]; rfl), trivial⟩)
      · refine st_off hS119 (want_off hS119 rfl rfl rfl hb120) rfl rfl fun a126 hS126 => st_off hS126 (want_off hS126 rfl rfl rfl hb120) rfl rfl fun a127 hS127 => st_val hS127 rfl rfl rfl (r_pickF hS127 rfl rfl rfl hb120) fun a128 hS128 => hk _ (hS128.re ⟨rfl, rfl, rfl, rfl, rfl, (by rw [hb120]; rfl), trivial⟩)
    intro a129 hS129
    refine st_val hS129 rfl rfl rfl (r_move hS129 rfl rfl) fun a130 hS130 => ?_
    refine g_join (N := 80) 2 [(3, .slice A57 r55.2.1.length cap58), (5, .slice A71 r69.2.1.length cap72), (7, .int .u64 r83.1), (9, .slice A95 r93.2.1.length cap96), (56, .bool ((((r55.2.2 == 0) && (r69.2.2 == 0)) && (r93.2.2 == 0)) && r83.2))] ?_ (fun hk => ?_)
    rotate_left
    · rcases Bool.eq_false_or_eq_true ((((r55.2.2 == 0) && (r69.2.2 == 0)) && (r93.2.2 == 0))) with hb131 | hb131
      · refine st_valW hS130 (want_on hS130 rfl rfl rfl hb131) rfl rfl (r_move hS130 rfl rfl) fun a133 hS133 => st_val hS133 rfl rfl rfl (r_pickT hS133 rfl rfl rfl hb131) fun a134 hS134 => hk _ (hS134.re ⟨rfl, rfl, rfl, rfl, (by rw [hb131]; rfl), trivial⟩)
      · refine st_off hS130 (want_off hS130 rfl rfl rfl hb131) rfl rfl fun a135 hS135 => st_val hS135 rfl rfl rfl (r_pickF hS135 rfl rfl rfl hb131) fun a136 hS136 => hk _ (hS136.re ⟨rfl, rfl, rfl, rfl, (by rw [hb131]; rfl), trivial⟩)
    intro a137 hS137
    refine st_val hS137 rfl rfl rfl (r_move hS137 rfl rfl) fun a138 hS138 => ?_
    refine g_join (N := 80) 3 [(3, .slice A57 r55.2.1.length cap58), (5, .slice A71 r69.2.1.length cap72), (9, .slice A95 r93.2.1.length cap96), (60, .bool (((((r55.2.2 == 0) && (r69.2.2 == 0)) && (r93.2.2 == 0)) && r83.2) && (r83.1 == 25)))] ?_ (fun hk => ?_)
    rotate_left
    · rcases Bool.eq_false_or_eq_true (((((r55.2.2 == 0) && (r69.2.2 == 0)) && (r93.2.2 == 0)) && r83.2)) with hb139 | hb139
      · refine st_valW hS138 (want_on hS138 rfl rfl rfl hb139) rfl rfl (r_move hS138 rfl rfl) fun a142 hS142 => st_valW hS142 (want_on hS142 rfl rfl rfl hb139) rfl rfl (r_bin hS142 rfl rfl rfl b_eql) fun a143 hS143 => st_val hS143 rfl rfl rfl (r_pickT hS143 rfl rfl rfl hb139) fun a144 hS144 => hk _ (hS144.re ⟨rfl, rfl, rfl, (by rw [hb139]; rfl), trivial⟩)
      · refine st_off hS138 (want_off hS138 rfl rfl rfl hb139) rfl rfl fun a145 hS145 => st_off hS145 (want_off hS145 rfl rfl rfl hb139) rfl rfl fun a146 hS146 => st_val hS146 rfl rfl rfl (r_pickF hS146 rfl rfl rfl hb139) fun a147 hS147 => hk _ (hS147.re ⟨rfl, rfl, rfl, (by rw [hb139]; rfl), trivial⟩)
    intro a148 hS148
    refine st_val hS148 rfl rfl rfl (r_move hS148 rfl rfl) fun a149 hS149 => ?_
    refine g_join (N := 80) 4 [(3, .slice A57 r55.2.1.length cap58), (9, .slice A95 r93.2.1.length cap96), (65, .bool ((((((r55.2.2 == 0) && (r69.2.2 == 0)) && (r93.2.2 == 0)) && r83.2) && (r83.1 == 25)) && ((r69.2.1.length : Int) == 0)))] ?_ (fun hk => ?_)
    rotate_left
    · rcases Bool.eq_false_or_eq_true ((((((r55.2.2 == 0) && (r69.2.2 == 0)) && (r93.2.2 == 0)) && r83.2) && (r83.1 == 25))) with hb150 | hb150
      · refine st_valW hS149 (want_on hS149 rfl rfl rfl hb150) rfl rfl (r_move hS149 rfl rfl) fun a154 hS154 => st_valW hS154 (want_on hS154 rfl rfl rfl hb150) rfl rfl (r_len (e := 47) (sz := 3) (by_ := 24) hS154 rfl rfl (by kernel_rfl)) fun a155 hS155 => st_valW hS155 (want_on hS155 rfl rfl rfl hb150) rfl rfl (r_bin hS155 rfl rfl rfl b_eql) fun a156 hS156 => st_val hS156 rfl rfl rfl (r_pickT hS156 rfl rfl rfl hb150) fun a157 hS157 => hk _ (hS157.re ⟨rfl, rfl, (by rw [hb150]; rfl), trivial⟩)
      · refine st_off hS149 (want_off hS149 rfl rfl rfl hb150) rfl rfl fun a158 hS158 => st_off hS158 (want_off hS158 rfl rfl rfl hb150) rfl rfl fun a159 hS159 => st_off hS159 (want_off hS159 rfl rfl rfl hb150) rfl rfl fun a160 hS160 => st_val hS160 rfl rfl rfl (r_pickF hS160 rfl rfl rfl hb150) fun a161 hS161 => hk _ (hS161.re ⟨rfl, rfl, (by rw [hb150]; rfl), trivial⟩)
    intro a162 hS162
    refine st_val hS162 rfl rfl rfl (r_move hS162 rfl rfl) fun a163 hS163 => ?_
    refine g_joinR 6 (fun a w179 => ∃ (g179 : Nat → Nat), Sl 80 a [(9, .slice A95 r93.2.1.length cap96), (72, .bool t177)] ∧ OwS kd_api_PowerOp 47 w179 g179 (N + 13) A95 cap96 r93.2.1 ∧ Fr (fun q => N ≤ q) w g w179 g179) ?_ (fun hk => ?_)
    rotate_left
    · rcases Bool.eq_false_or_eq_true (((((((r55.2.2 == 0) && (r69.2.2 == 0)) && (r93.2.2 == 0)) && r83.2) && (r83.1 == 25)) && ((r69.2.1.length : Int) == 0))) with hb164 | hb164
      · have H := ite_t hb164 ht178
        obtain ⟨r188, hr189, H⟩ := bind_el H
        have e192 := Option.some.inj H
        refine st_valW hS163 (want_on hS163 rfl rfl rfl hb164) rfl rfl (r_move hS163 rfl rfl) fun a180 hS180 => st_valW hS180 (want_on hS180 rfl rfl rfl hb164) rfl rfl (r_build (parts := [(0, .int .i64 0), (1, .bool true), (2, .int .u64 10)]) (u := .agg #[.int .i64 0, .bool true, .int .u64 10]) hS180 rfl rfl (fun _ => by kernel_rfl)) fun a181 hS181 => st_valW hS181 (want_on hS181 rfl rfl rfl hb164) rfl rfl (r_build (parts := [(0, .int .i64 1), (1, .bool true), (2, .int .u64 10)]) (u := .agg #[.int .i64 1, .bool true, .int .u64 10]) hS181 rfl rfl (fun _ => by kernel_rfl)) fun a182 hS182 => ?_
        refine st_effW hS182 (want_on hS182 rfl rfl rfl hb164) rfl rfl (e_lit (e := 47) (parts := [(0, .agg #[.int .i64 0, .bool true, .int .u64 10]), (1, .agg #[.int .i64 1, .bool true, .int .u64 10])]) (cs := [.int .i64 0, .bool true, .int .u64 10, .int .i64 1, .bool true, .int .u64 10]) kd_api_PowerOp [(api_PowerOp.mk 0 true 10), (api_PowerOp.mk 1 true 10)] (N + 15) g100 hS182 rfl rfl (fun _ => by kernel_rfl) rfl (by decide) (Rows.cons (cs := [.int .i64 0, .bool true, .int .u64 10]) rfl (Rows.cons (cs := [.int .i64 1, .bool true, .int .u64 10]) rfl Rows.nil))) ?_
        rintro _ a186 w187 g187 ⟨⟨A183, rfl, h184⟩, F187⟩ hS186
        replace h59 := OwS.fr h59 F187 (fun _ _ h => h)
        replace h73 := OwS.fr h73 F187 (fun _ _ h => h)
        replace h97 := OwS.fr h97 F187 (fun _ _ h => h)
        replace hF := hF.trans F187 (fun _ h => h.elim)
        refine st_enterW hS186 (want_on hS186 rfl rfl rfl hb164) rfl rfl (r_call hS186 rfl rfl (by kernel_rfl)) (help_Equal_api_PowerOp.calls (C0 := (fun q => q = N + 9)) (C1 := (fun q => q = N + 15)) (p0 := r55.2.1) (p1 := [(api_PowerOp.mk 0 true 10), (api_PowerOp.mk 1 true 10)]) (g := g187) (N + 19)  (OwD.rdf (fun _ _ _ _ _ _ h => h) h59) (fun q (hq : q = N + 9) => by omega) (OwD.rdf (fun _ _ _ _ _ _ h => h) h184) (fun q (hq : q = N + 15) => by omega) hr189) ?_
        rintro _ a190 w191 ⟨g191, rfl, F191⟩ hS190
        replace h184 := OwS.fr h184 F191 (fun c' hc (hm : N + 19 ≤ c') => by omega)
        replace h59 := OwS.fr h59 F191 (fun c' hc (hm : N + 19 ≤ c') => by omega)
        replace h73 := OwS.fr h73 F191 (fun c' hc (hm : N + 19 ≤ c') => by omega)
        replace h97 := OwS.fr h97 F191 (fun c' hc (hm : N + 19 ≤ c') => by omega)
        replace hF := hF.trans F191 (fun c' (hm : N + 19 ≤ c') => by show N ≤ c'; omega)
        refine st_val hS190 rfl rfl rfl (r_pickT hS190 rfl rfl rfl hb164) fun a193 hS193 => hk _ _ ?_
        exact ⟨g191, hS193.re ⟨rfl, (by rw [← e192]; rfl), trivial⟩, h97, hF⟩
      · have H := ite_f hb164 ht178
        have e194 := Option.some.inj H
        refine st_off hS163 (want_off hS163 rfl rfl rfl hb164) rfl rfl fun a195 hS195 => st_off hS195 (want_off hS195 rfl rfl rfl hb164) rfl rfl fun a196 hS196 => st_off hS196 (want_off hS196 rfl rfl rfl hb164) rfl rfl fun a197 hS197 => st_off hS197 (want_off hS197 rfl rfl rfl hb164) rfl rfl fun a198 hS198 => st_off hS198 (want_off hS198 rfl rfl rfl hb164) rfl rfl fun a199 hS199 => st_val hS199 rfl rfl rfl (r_pickF hS199 rfl rfl rfl hb164) fun a200 hS200 => hk _ _ ?_
        exact ⟨g100, hS200.re ⟨rfl, (by rw [← e194]; rfl), trivial⟩, h97, hF⟩
    rintro a201 w179 ⟨g179, hS201, h97, hF⟩
    refine st_val hS201 rfl rfl rfl (r_move hS201 rfl rfl) fun a202 hS202 => ?_
    refine g_joinR 6 (fun a w218 => ∃ (g218 : Nat → Nat), Sl 80 a [(79, .bool t216)] ∧ Fr (fun q => N ≤ q) w g w218 g218) ?_ (fun hk => ?_)
    rotate_left
    · rcases Bool.eq_false_or_eq_true (t177) with hb203 | hb203
      · have H := ite_t hb203 ht217
        obtain ⟨r227, hr228, H⟩ := bind_el H
        have e231 := Option.some.inj H
        refine st_valW hS202 (want_on hS202 rfl rfl rfl hb203) rfl rfl (r_move hS202 rfl rfl) fun a219 hS219 => st_valW hS219 (want_on hS219 rfl rfl rfl hb203) rfl rfl (r_build (parts := [(0, .int .i64 1), (2, .int .u64 25)]) (u := .agg #[.int .i64 1, .bool false, .int .u64 25]) hS219 rfl rfl (fun _ => by kernel_rfl)) fun a220 hS220 => st_valW hS220 (want_on hS220 rfl rfl rfl hb203) rfl rfl (r_build (parts := [(0, .int .i64 0), (2, .int .u64 25)]) (u := .agg #[.int .i64 0, .bool false, .int .u64 25]) hS220 rfl rfl (fun _ => by kernel_rfl)) fun a221 hS221 => ?_
        refine st_effW hS221 (want_on hS221 rfl rfl rfl hb203) rfl rfl (e_lit (e := 47) (parts := [(0, .agg #[.int .i64 1, .bool false, .int .u64 25]), (1, .agg #[.int .i64 0, .bool false, .int .u64 25])]) (cs := [.int .i64 1, .bool false, .int .u64 25, .int .i64 0, .bool false, .int .u64 25]) kd_api_PowerOp [(api_PowerOp.mk 1 false 25), (api_PowerOp.mk 0 false 25)] (N + 17) g179 hS221 rfl rfl (fun _ => by kernel_rfl) rfl (by decide) (Rows.cons (cs := [.int .i64 1, .bool false, .int .u64 25]) rfl (Rows.cons (cs := [.int .i64 0, .bool false, .int .u64 25]) rfl Rows.nil))) ?_
        rintro _ a225 w226 g226 ⟨⟨A222, rfl, h223⟩, F226⟩ hS225
        replace h97 := OwS.fr h97 F226 (fun _ _ h => h)
        replace hF := hF.trans F226 (fun _ h => h.elim)
        refine st_enterW hS225 (want_on hS225 rfl rfl rfl hb203) rfl rfl (r_call hS225 rfl rfl (by kernel_rfl)) (help_Equal_api_PowerOp.calls (C0 := (fun q => q = N + 13)) (C1 := (fun q => q = N + 17)) (p0 := r93.2.1) (p1 := [(api_PowerOp.mk 1 false 25), (api_PowerOp.mk 0 false 25)]) (g := g226) (N + 19)  (OwD.rdf (fun _ _ _ _ _ _ h => h) h97) (fun q (hq : q = N + 13) => by omega) (OwD.rdf (fun _ _ _ _ _ _ h => h) h223) (fun q (hq : q = N + 17) => by omega) hr228) ?_
        rintro _ a229 w230 ⟨g230, rfl, F230⟩ hS229
        replace h223 := OwS.fr h223 F230 (fun c' hc (hm : N + 19 ≤ c') => by omega)
        replace h97 := OwS.fr h97 F230 (fun c' hc (hm : N + 19 ≤ c') => by omega)
        replace hF := hF.trans F230 (fun c' (hm : N + 19 ≤ c') => by show N ≤ c'; omega)
        refine st_val hS229 rfl rfl rfl (r_pickT hS229 rfl rfl rfl hb203) fun a232 hS232 => hk _ _ ?_
        exact ⟨g230, hS232.re ⟨(by rw [← e231]; rfl), trivial⟩, hF⟩
      · have H := ite_f hb203 ht217
        have e233 := Option.some.inj H
        refine st_off hS202 (want_off hS202 rfl rfl rfl hb203) rfl rfl fun a234 hS234 => st_off hS234 (want_off hS234 rfl rfl rfl hb203) rfl rfl fun a235 hS235 => st_off hS235 (want_off hS235 rfl rfl rfl hb203) rfl rfl fun a236 hS236 => st_off hS236 (want_off hS236 rfl rfl rfl hb203) rfl rfl fun a237 hS237 => st_off hS237 (want_off hS237 rfl rfl rfl hb203) rfl rfl fun a238 hS238 => st_val hS238 rfl rfl rfl (r_pickF hS238 rfl rfl rfl hb203) fun a239 hS239 => hk _ _ ?_
        exact ⟨g179, hS239.re ⟨(by rw [← e233]; rfl), trivial⟩, hF⟩
    rintro a240 w218 ⟨g218, hS240, hF⟩
    refine st_val hS240 rfl rfl rfl (r_assign hS240 rfl rfl) fun a241 hS241 => wpList_nil (hK _ _ ?_)
    replace hS : Sl 80 _ [(0, .bool t216)] := hS241.re ⟨rfl, trivial⟩
    clear hK K
    try clear hS106 hS107 hS108 hS118 hS119 hS129 hS130 hS137 hS138 hS148 hS149 hS162 hS163 hS201 hS202 hS240 hS241
    obtain ⟨a, ha⟩ : ∃ a', a' = a241 := ⟨_, rfl⟩
    rw [← ha] at hS ⊢; clear ha
    refine wp_ret ?_
    have e := Option.some.inj H
    subst e
    repeat (with_reducible first | refine then_ret ?_ | refine inBlock_ret ?_)
    exact c_ret1 hS Try.results16 rfl ⟨_, rfl, g218, rfl, hF⟩


end Go.Proofs.Ytcfcffbjdjacfaa.Sim

namespace Go.Proofs.Ytcfcffbjdjacfaa.Sim
open Go
set_option linter.unusedVariables false
set_option linter.unusedSimpArgs false

/-! ### help_Mod: function 18 -/
def help_Mod.f (p0 : Int) (p1 : Int) : Option (Int) := if (wu (p1)) = 0 then none else some (wi ((Int.tmod (wu (p0)) (wu (p1)))))
set_option maxRecDepth 100000 in
set_option maxHeartbeats 4000000 in
theorem help_Mod.calls {p0 : Int} {p1 : Int} {w : World} {g : Nat → Nat} {out : Int} (N : Nat)  (H : help_Mod.f p0 p1 = some out) :
    Calls Try.prog 18 #[.int .i64 p0, .int .i64 p1] w (fun e w' => ∃ v, e = .returned v ∧ ∃ (g' : Nat → Nat), v = .int .i64 out ∧ Fr (fun q => N ≤ q) w g w' g') := by
  unfold help_Mod.f at H
  refine calls_enter Try.func18 rfl Try.ntmps18 rfl (fun a hS => ?_)
  replace hS : Sl 11 a [(0, .int .i64 p0), (1, .int .i64 p1)] := hS
  have hF : Fr (fun q => N ≤ q) w g w g := Fr.refl _ _ _
  refine c_pure [(0, .int .i64 p0), (1, .int .i64 p1)] (fun R hR => st_val hS rfl rfl rfl (r_assign hS rfl rfl) fun a1 hS1 => wpList_nil (hR _ (hS1.re ⟨rfl, rfl, trivial⟩))) ?_
  clear hS
  clear a
  intro a hS
  obtain ⟨hq6, H⟩ := nz_el H
  refine c_pure [(4, .int .i64 (wi ((Int.tmod (wu (p0)) (wu (p1))))))] (fun R hR => st_val hS rfl rfl rfl (r_move hS rfl rfl) fun a2 hS2 => st_val hS2 rfl rfl rfl (r_convert (k' := .u64) hS2 rfl rfl (by kernel_rfl)) fun a3 hS3 => st_val hS3 rfl rfl rfl (r_move hS3 rfl rfl) fun a4 hS4 => st_val hS4 rfl rfl rfl (r_convert (k' := .u64) hS4 rfl rfl (by kernel_rfl)) fun a5 hS5 => st_val hS5 rfl rfl rfl (r_bin hS5 rfl rfl rfl (b_rem hq6)) fun a7 hS7 => st_val hS7 rfl rfl rfl (r_convert (k' := .i64) hS7 rfl rfl (by kernel_rfl)) fun a8 hS8 => st_val hS8 rfl rfl rfl (r_assign hS8 rfl rfl) fun a9 hS9 => wpList_nil (hR _ (hS9.re ⟨rfl, trivial⟩))) ?_
  clear hS
  clear a
  intro a hS
  refine wp_ret ?_
  have e := Option.some.inj H
  subst e
  repeat (with_reducible first | refine then_ret ?_ | refine inBlock_ret ?_)
  exact c_ret1 hS Try.results18 rfl ⟨_, rfl, g, rfl, hF⟩


end Go.Proofs.Ytcfcffbjdjacfaa.Sim

namespace Go.Proofs.Ytcfcffbjdjacfaa.Sim
open Go
set_option linter.unusedVariables false
set_option linter.unusedSimpArgs false

/-! ### law28_Call_at: function 25 -/
def law28_Call_at.f (p0 : law28_Call) (p1 : Int) (p2 : Int) : Option (Int × Int) := if (p0.Raw || (p1 == 0)) = true then (some (p0.Device, p0.Wait)) else ((help_Mod.f p0.Device p1).bind fun r29 => some (r29, wu (p2 + (Int.tmod p0.Wait 15))))
set_option maxRecDepth 100000 in
set_option maxHeartbeats 4000000 in
theorem law28_Call_at.calls {p0 : law28_Call} {p1 : Int} {p2 : Int} {w : World} {g : Nat → Nat} {out : Int × Int} (N : Nat)  (H : law28_Call_at.f p0 p1 p2 = some out) :
    Calls Try.prog 25 #[.agg #[.int .i64 p0.Kind, .int .i64 p0.Device, .int .u64 p0.Wait, .bool p0.Raw], .int .i64 p1, .int .u64 p2] w (fun e w' => ∃ v, e = .returned v ∧ ∃ (g' : Nat → Nat), v = .tuple #[.int .i64 out.1, .int .u64 out.2] ∧ Fr (fun q => N ≤ q) w g w' g') := by
  unfold law28_Call_at.f at H
  refine calls_enter Try.func25 rfl Try.ntmps25 rfl (fun a hS => ?_)
  replace hS : Sl 27 a [(0, .agg #[.int .i64 p0.Kind, .int .i64 p0.Device, .int .u64 p0.Wait, .bool p0.Raw]), (1, .int .i64 p1), (2, .int .u64 p2)] := hS
  have hF : Fr (fun q => N ≤ q) w g w g := Fr.refl _ _ _
  refine c_region (fun K hK => ?_)
  refine st_eff hS rfl rfl rfl (e_box (cs := [.int .i64 p0.Kind, .int .i64 p0.Device, .int .u64 p0.Wait, .bool p0.Raw]) (N + 0) g hS rfl rfl rfl) ?_
  rintro _ a4 w5 g5 ⟨⟨b1, rfl, h2⟩, F5⟩ hS4
  replace hF := hF.trans F5 (fun _ h => h.elim)
  refine st_val hS4 rfl rfl rfl (r_assign hS4 rfl rfl) fun a6 hS6 => st_val hS6 rfl rfl rfl (r_assign hS6 rfl rfl) fun a7 hS7 => wpList_nil (hK _ _ ?_)
  replace hS : Sl 27 _ [(1, .int .i64 p1), (2, .int .u64 p2), (3, .pointer (some ⟨b1, 0, none⟩))] := hS7.re ⟨rfl, rfl, rfl, trivial⟩
  clear hK K
  try clear hS4 hS6 hS7
  obtain ⟨a, ha⟩ : ∃ a', a' = a7 := ⟨_, rfl⟩
  rw [← ha] at hS ⊢; clear ha
  refine wp_seq ?_
  refine c_region (fun K hK => ?_)
  refine st_val hS rfl rfl rfl (r_fieldB (off := 3) hS rfl rfl (by kernel_rfl)) fun a8 hS8 => st_val hS8 rfl rfl rfl (r_load1 (n := 1) hS8 rfl rfl (by kernel_rfl) (Bx.cell h2 rfl)) fun a9 hS9 => st_val hS9 rfl rfl rfl (r_move hS9 rfl rfl) fun a10 hS10 => ?_
  refine g_join (N := 27) 3 [(1, .int .i64 p1), (2, .int .u64 p2), (3, .pointer (some ⟨b1, 0, none⟩)), (13, .bool (p0.Raw || (p1 == 0)))] ?_ (fun hk => ?_)
  rotate_left
  · rcases Bool.eq_false_or_eq_true (p0.Raw) with hb11 | hb11
    · refine st_off hS10 (want_off hS10 rfl rfl rfl hb11) rfl rfl fun a14 hS14 => st_off hS14 (want_off hS14 rfl rfl rfl hb11) rfl rfl fun a15 hS15 => st_val hS15 rfl rfl rfl (r_pickT hS15 rfl rfl rfl hb11) fun a16 hS16 => hk _ (hS16.re ⟨rfl, rfl, rfl, (by rw [hb11]; rfl), trivial⟩)
    · refine st_valW hS10 (want_on hS10 rfl rfl rfl hb11) rfl rfl (r_move hS10 rfl rfl) fun a17 hS17 => st_valW hS17 (want_on hS17 rfl rfl rfl hb11) rfl rfl (r_bin hS17 rfl rfl rfl b_eql) fun a18 hS18 => st_val hS18 rfl rfl rfl (r_pickF hS18 rfl rfl rfl hb11) fun a19 hS19 => hk _ (hS19.re ⟨rfl, rfl, rfl, (by rw [hb11]; rfl), trivial⟩)
  intro a20 hS20
  refine wpList_nil (hK _ _ ?_)
  replace hS : Sl 27 _ [(1, .int .i64 p1), (2, .int .u64 p2), (3, .pointer (some ⟨b1, 0, none⟩)), (13, .bool (p0.Raw || (p1 == 0)))] := hS20.re ⟨rfl, rfl, rfl, rfl, trivial⟩
  clear hK K
  try clear hS8 hS9 hS10 hS20
  obtain ⟨a, ha⟩ : ∃ a', a' = a20 := ⟨_, rfl⟩
  rw [← ha] at hS ⊢; clear ha
  refine c_cond hS rfl (fun hb21 => ?_) (fun hb21 => ?_)
  · replace H := ite_t hb21 H
    refine c_draw (fun K hK => d_start (fun q => False) g5 [] 6 #[false, false, false, false, false, false] (by kernel_rfl) rfl rfl (fun w22 hw22 => ?_))
    have F22 : Fr (fun _ => False) w5 g5 w22 g5 := by rw [hw22]; exact Fr.drew _ _ _
    replace h2 := h2.fr F22 (fun h => h)
    replace hF := hF.trans F22 (fun _ h => h.elim)
    have hC : Fr (fun q => False) w22 g5 w22 g5 := Fr.refl _ _ _
    refine d_pure hS 0 #[true, false, false, false, false, false] rfl rfl rfl rfl (by kernel_rfl) (fun _ _ _ h => h) (fun _ => (r_fieldB (off := 1) hS rfl rfl (by kernel_rfl))) fun a23 hS23 => d_take hS23 1 #[true, true, false, false, false, false] rfl rfl rfl rfl (by kernel_rfl) (fun _ _ _ h => h) ⟨_, hC⟩ (fun w' g' Fz => (r_load1 (n := 1) hS23 rfl rfl (by kernel_rfl) (Bx.cell (h2.fr Fz (fun h => h)) rfl))) fun a24 hS24 => d_pure hS24 2 #[true, true, true, false, false, false] rfl rfl rfl rfl (by kernel_rfl) (fun _ _ _ h => h) (fun _ => (r_fieldB (off := 2) hS24 rfl rfl (by kernel_rfl))) fun a25 hS25 => d_take hS25 3 #[true, true, true, true, false, false] rfl rfl rfl rfl (by kernel_rfl) (fun _ _ _ h => h) ⟨_, hC⟩ (fun w' g' Fz => (r_load1 (n := 1) hS25 rfl rfl (by kernel_rfl) (Bx.cell (h2.fr Fz (fun h => h)) rfl))) fun a26 hS26 => d_pure hS26 4 #[true, true, true, true, true, false] rfl rfl rfl rfl (by kernel_rfl) (fun _ _ _ h => h) (fun _ => (r_assign hS26 rfl rfl)) fun a27 hS27 => d_pure hS27 5 #[true, true, true, true, true, true] rfl rfl rfl rfl (by kernel_rfl) (fun _ _ _ h => h) (fun _ => (r_assign hS27 rfl rfl)) fun a28 hS28 => d_done (by kernel_rfl) (hK _ _ ?_)
    replace hS : Sl 27 _ [(6, .int .i64 p0.Device), (7, .int .u64 p0.Wait)] := hS28.re ⟨rfl, rfl, trivial⟩
    clear hK K hC
    try clear hS23 hS24 hS25 hS26 hS27 hS28
    obtain ⟨a, ha⟩ : ∃ a', a' = a28 := ⟨_, rfl⟩
    rw [← ha] at hS ⊢; clear ha
    refine wp_ret ?_
    have e := Option.some.inj H
    subst e
    repeat (with_reducible first | refine then_ret ?_ | refine inBlock_ret ?_)
    exact c_ret2 hS Try.results25 rfl rfl ⟨_, rfl, g5, rfl, hF⟩
  · replace H := ite_f hb21 H
    refine wp_skip ?_
    change Code.wp _ _ _ _ _
    obtain ⟨r29, hr30, H⟩ := bind_el H
    refine c_draw (fun K hK => d_start (fun q => N + 2 ≤ q) g5 [] 11 #[false, false, false, false, false, false, false, false, false, false, false] (by kernel_rfl) rfl rfl (fun w31 hw31 => ?_))
    have F31 : Fr (fun _ => False) w5 g5 w31 g5 := by rw [hw31]; exact Fr.drew _ _ _
    replace h2 := h2.fr F31 (fun h => h)
    replace hF := hF.trans F31 (fun _ h => h.elim)
    have hC : Fr (fun q => N + 2 ≤ q) w31 g5 w31 g5 := Fr.refl _ _ _
    refine d_pure hS 0 #[true, false, false, false, false, false, false, false, false, false, false] rfl rfl rfl rfl (by kernel_rfl) (fun _ _ _ h => h) (fun _ => (r_fieldB (off := 1) hS rfl rfl (by kernel_rfl))) fun a32 hS32 => d_take hS32 1 #[true, true, false, false, false, false, false, false, false, false, false] rfl rfl rfl rfl (by kernel_rfl) (fun _ _ _ h => h) ⟨_, hC⟩ (fun w' g' Fz => (r_load1 (n := 1) hS32 rfl rfl (by kernel_rfl) (Bx.cell (h2.fr Fz (fun (hm : N + 2 ≤ N + 0) => by omega)) rfl))) fun a33 hS33 => d_pure hS33 2 #[true, true, true, false, false, false, false, false, false, false, false] rfl rfl rfl rfl (by kernel_rfl) (fun _ _ _ h => h) (fun _ => (r_move hS33 rfl rfl)) fun a34 hS34 => d_pure hS34 4 #[true, true, true, false, true, false, false, false, false, false, false] rfl rfl rfl rfl (by kernel_rfl) (fun _ _ _ h => h) (fun _ => (r_move hS34 rfl rfl)) fun a35 hS35 => d_pure hS35 5 #[true, true, true, false, true, true, false, false, false, false, false] rfl rfl rfl rfl (by kernel_rfl) (fun _ _ _ h => h) (fun _ => (r_fieldB (off := 2) hS35 rfl rfl (by kernel_rfl))) fun a36 hS36 => d_take hS36 6 #[true, true, true, false, true, true, true, false, false, false, false] rfl rfl rfl rfl (by kernel_rfl) (fun _ _ _ h => h) ⟨_, hC⟩ (fun w' g' Fz => (r_load1 (n := 1) hS36 rfl rfl (by kernel_rfl) (Bx.cell (h2.fr Fz (fun (hm : N + 2 ≤ N + 0) => by omega)) rfl))) fun a37 hS37 => d_pure hS37 7 #[true, true, true, false, true, true, true, true, false, false, false] rfl rfl rfl rfl (by kernel_rfl) (fun _ _ _ h => h) (fun _ => (r_bin hS37 rfl rfl rfl (b_rem (by decide)))) fun a38 hS38 => d_pure hS38 8 #[true, true, true, false, true, true, true, true, true, false, false] rfl rfl rfl rfl (by kernel_rfl) (fun _ _ _ h => h) (fun _ => (r_bin hS38 rfl rfl rfl b_add)) fun a39 hS39 => ?_
    refine d_one 3 #[true, true, true, true, true, true, true, true, true, false, false] rfl (by kernel_rfl) (arm_call hS39 rfl rfl rfl (r_call hS39 rfl rfl (by kernel_rfl)) (help_Mod.calls (p0 := p0.Device) (p1 := p1) (g := g5) (N + 2)   hr30) (fun _ _ ⟨g', _, Fz⟩ _ => ⟨g', hC.trans Fz (fun c' (hm : N + 2 ≤ c') => by show N + 2 ≤ c'; omega)⟩) ?_)
    rintro _ a40 w41 ⟨g41, rfl, F41⟩ hS40
    have hC41 := hC.trans F41 (fun c' (hm : N + 2 ≤ c') => by show N + 2 ≤ c'; omega)
    replace h2 := h2.fr F41 (fun (hm : N + 2 ≤ N + 0) => by omega)
    replace hF := hF.trans F41 (fun c' (hm : N + 2 ≤ c') => by show N ≤ c'; omega)
    refine d_pure hS40 9 #[true, true, true, true, true, true, true, true, true, true, false] rfl rfl rfl rfl (by kernel_rfl) (fun _ _ _ h => h) (fun _ => (r_assign hS40 rfl rfl)) fun a42 hS42 => d_pure hS42 10 #[true, true, true, true, true, true, true, true, true, true, true] rfl rfl rfl rfl (by kernel_rfl) (fun _ _ _ h => h) (fun _ => (r_assign hS42 rfl rfl)) fun a43 hS43 => d_done (by kernel_rfl) (hK _ _ ?_)
    replace hS : Sl 27 _ [(6, .int .i64 r29), (7, .int .u64 (wu (p2 + (Int.tmod p0.Wait 15))))] := hS43.re ⟨rfl, rfl, trivial⟩
    clear hK K hC
    try clear hS32 hS33 hS34 hS35 hS36 hS37 hS38 hS39 hS40 hS42 hS43
    obtain ⟨a, ha⟩ : ∃ a', a' = a43 := ⟨_, rfl⟩
    rw [← ha] at hS ⊢; clear ha
    refine wp_ret ?_
    have e := Option.some.inj H
    subst e
    repeat (with_reducible first | refine then_ret ?_ | refine inBlock_ret ?_)
    exact c_ret2 hS Try.results25 rfl rfl ⟨_, rfl, g41, rfl, hF⟩


end Go.Proofs.Ytcfcffbjdjacfaa.Sim

namespace Go.Proofs.Ytcfcffbjdjacfaa.Sim
open Go
set_option linter.unusedVariables false
set_option linter.unusedSimpArgs false

/-! ### law28_do: function 26 -/
def law28_do.f (p0 : runtimepm_Manager) (p1 : law28_Call) (p2 : Int) (p3 : Int) : Option (runtimepm_Manager × (List api_PowerOp) × Int) := (law28_Call_at.f p1 p2 p3).bind fun r11 => (help_Mod.f p1.Kind 4).bind fun r22 => if (r22 == 2) = true then ((runtimepm_Manager_Put.f p0 r11.1 r11.2).bind fun r32 => some (r32.1, r32.2.1, r32.2.2)) else (if (r22 == 3) = true then ((runtimepm_Manager_Advance.f p0 r11.2).bind fun r50 => some (r50.1, r50.2.1, r50.2.2)) else ((runtimepm_Manager_Get.f p0 r11.1 r11.2).bind fun r66 => some (r66.1, r66.2.1, r66.2.2)))
set_option maxRecDepth 100000 in
set_option maxHeartbeats 4000000 in
theorem law28_do.calls {p0 : runtimepm_Manager} {c0 : Nat}  {b_p0 : Nat} {A_devices_p0 : Option Addr} {cap_devices_p0 : Nat} {A_links_p0 : Option Addr} {cap_links_p0 : Nat} {A_order_p0 : Option Addr} {cap_order_p0 : Nat} {p1 : law28_Call} {p2 : Int} {p3 : Int} {w : World} {g : Nat → Nat} {out : runtimepm_Manager × (List api_PowerOp) × Int} (N : Nat) (r0 : Nat) (hp0 : runtimepm_Manager_At w g c0 b_p0 A_devices_p0 cap_devices_p0 A_links_p0 cap_links_p0 A_order_p0 cap_order_p0 p0) (hc0 : c0 + 7 ≤ N) (hr0 : r0 + 2 ≤ N) (hq0_0 : r0 + 2 ≤ c0 ∨ c0 + 7 ≤ r0) (H : law28_do.f p0 p1 p2 p3 = some out) :
    Calls Try.prog 26 #[.pointer (some ⟨b_p0, 0, none⟩), .agg #[.int .i64 p1.Kind, .int .i64 p1.Device, .int .u64 p1.Wait, .bool p1.Raw], .int .i64 p2, .int .u64 p3] w (fun e w' => ∃ v, e = .returned v ∧ ∃ (g' : Nat → Nat) (A_r0 : Option Addr) (cap_r0 : Nat), v = .tuple #[.slice A_r0 out.2.1.length cap_r0, .int .i64 out.2.2] ∧ runtimepm_Manager_At w' g' c0 b_p0 A_devices_p0 cap_devices_p0 A_links_p0 cap_links_p0 A_order_p0 cap_order_p0 out.1 ∧ OwS kd_api_PowerOp 47 w' g' r0 A_r0 cap_r0 out.2.1 ∧ Fr (fun q => (c0 ≤ q ∧ q < c0 + 7) ∨ (r0 ≤ q ∧ q < r0 + 2) ∨ N ≤ q) w g w' g') := by
  unfold law28_do.f at H
  refine calls_enter Try.func26 rfl Try.ntmps26 rfl (fun a hS => ?_)
  replace hS : Sl 43 a [(0, .pointer (some ⟨b_p0, 0, none⟩)), (1, .agg #[.int .i64 p1.Kind, .int .i64 p1.Device, .int .u64 p1.Wait, .bool p1.Raw]), (2, .int .i64 p2), (3, .int .u64 p3)] := hS
  have hF : Fr (fun q => (c0 ≤ q ∧ q < c0 + 7) ∨ (r0 ≤ q ∧ q < r0 + 2) ∨ N ≤ q) w g w g := Fr.refl _ _ _
  obtain ⟨hb0, hf0_devices, hf0_links, hf0_order⟩ := hp0
  refine c_region (fun K hK => ?_)
  refine st_eff hS rfl rfl rfl (e_box (cs := [.int .i64 p1.Kind, .int .i64 p1.Device, .int .u64 p1.Wait, .bool p1.Raw]) (N + 0) g hS rfl rfl rfl) ?_
  rintro _ a4 w5 g5 ⟨⟨b1, rfl, h2⟩, F5⟩ hS4
  replace hb0 := hb0.fr F5 (fun h => h)
  replace hf0_devices := OwS.fr hf0_devices F5 (fun _ _ h => h)
  replace hf0_links := OwS.fr hf0_links F5 (fun _ _ h => h)
  replace hf0_order := OwS.fr hf0_order F5 (fun _ _ h => h)
  replace hF := hF.trans F5 (fun _ h => h.elim)
  refine st_val hS4 rfl rfl rfl (r_assign hS4 rfl rfl) fun a6 hS6 => st_val hS6 rfl rfl rfl (r_assign hS6 rfl rfl) fun a7 hS7 => wpList_nil (hK _ _ ?_)
  replace hS : Sl 43 _ [(0, .pointer (some ⟨b_p0, 0, none⟩)), (2, .int .i64 p2), (3, .int .u64 p3), (5, .pointer (some ⟨b1, 0, none⟩))] := hS7.re ⟨rfl, rfl, rfl, rfl, trivial⟩
  clear hK K
  try clear hS4 hS6 hS7
  obtain ⟨a, ha⟩ : ∃ a', a' = a7 := ⟨_, rfl⟩
  rw [← ha] at hS ⊢; clear ha
  obtain ⟨r11, hr12, H⟩ := bind_el H
  refine c_region (fun K hK => ?_)
  refine st_val hS rfl rfl rfl (r_loadN (n := 4) (cs := [.int .i64 p1.Kind, .int .i64 p1.Device, .int .u64 p1.Wait, .bool p1.Raw]) hS rfl rfl (by kernel_rfl) rfl (Bx.cells_off h2 0 4)) fun a8 hS8 => st_val hS8 rfl rfl rfl (r_move hS8 rfl rfl) fun a9 hS9 => st_val hS9 rfl rfl rfl (r_move hS9 rfl rfl) fun a10 hS10 => ?_
  refine st_enter hS10 rfl rfl rfl (r_call hS10 rfl rfl (by kernel_rfl)) (law28_Call_at.calls (p0 := p1) (p1 := p2) (p2 := p3) (g := g5) (N + 8)   hr12) ?_
  rintro _ a13 w14 ⟨g14, rfl, F14⟩ hS13
  replace h2 := h2.fr F14 (fun (hm : N + 8 ≤ N + 0) => by omega)
  replace hb0 := hb0.fr F14 (fun (hm : N + 8 ≤ c0) => by omega)
  replace hf0_devices := OwS.fr hf0_devices F14 (fun c' hc (hm : N + 8 ≤ c') => by omega)
  replace hf0_links := OwS.fr hf0_links F14 (fun c' hc (hm : N + 8 ≤ c') => by omega)
  replace hf0_order := OwS.fr hf0_order F14 (fun c' hc (hm : N + 8 ≤ c') => by omega)
  replace hF := hF.trans F14 (fun c' (hm : N + 8 ≤ c') => by show (c0 ≤ c' ∧ c' < c0 + 7) ∨ (r0 ≤ c' ∧ c' < r0 + 2) ∨ N ≤ c'; omega)
  refine st_val hS13 rfl rfl rfl (r_move hS13 rfl rfl) fun a15 hS15 => st_val hS15 rfl rfl rfl (r_extract hS15 rfl rfl rfl) fun a16 hS16 => st_val hS16 rfl rfl rfl (r_extract hS16 rfl rfl rfl) fun a17 hS17 => st_val hS17 rfl rfl rfl (r_assign hS17 rfl rfl) fun a18 hS18 => st_val hS18 rfl rfl rfl (r_assign hS18 rfl rfl) fun a19 hS19 => wpList_nil (hK _ _ ?_)
  replace hS : Sl 43 _ [(0, .pointer (some ⟨b_p0, 0, none⟩)), (5, .pointer (some ⟨b1, 0, none⟩)), (10, .int .i64 r11.1), (11, .int .u64 r11.2)] := hS19.re ⟨rfl, rfl, rfl, rfl, trivial⟩
  clear hK K
  try clear hS8 hS9 hS10 hS13 hS15 hS16 hS17 hS18 hS19
  obtain ⟨a, ha⟩ : ∃ a', a' = a19 := ⟨_, rfl⟩
  rw [← ha] at hS ⊢; clear ha
  refine wp_seq ?_
  obtain ⟨r22, hr23, H⟩ := bind_el H
  refine c_region (fun K hK => ?_)
  refine st_val hS rfl rfl rfl (r_fieldB (off := 0) hS rfl rfl (by kernel_rfl)) fun a20 hS20 => st_val hS20 rfl rfl rfl (r_load1 (n := 1) hS20 rfl rfl (by kernel_rfl) (Bx.cell h2 rfl)) fun a21 hS21 => ?_
  refine st_enter hS21 rfl rfl rfl (r_call hS21 rfl rfl (by kernel_rfl)) (help_Mod.calls (p0 := p1.Kind) (p1 := 4) (g := g14) (N + 8)   hr23) ?_
  rintro _ a24 w25 ⟨g25, rfl, F25⟩ hS24
  replace h2 := h2.fr F25 (fun (hm : N + 8 ≤ N + 0) => by omega)
  replace hb0 := hb0.fr F25 (fun (hm : N + 8 ≤ c0) => by omega)
  replace hf0_devices := OwS.fr hf0_devices F25 (fun c' hc (hm : N + 8 ≤ c') => by omega)
  replace hf0_links := OwS.fr hf0_links F25 (fun c' hc (hm : N + 8 ≤ c') => by omega)
  replace hf0_order := OwS.fr hf0_order F25 (fun c' hc (hm : N + 8 ≤ c') => by omega)
  replace hF := hF.trans F25 (fun c' (hm : N + 8 ≤ c') => by show (c0 ≤ c' ∧ c' < c0 + 7) ∨ (r0 ≤ c' ∧ c' < r0 + 2) ∨ N ≤ c'; omega)
  refine wpList_nil (hK _ _ ?_)
  replace hS : Sl 43 _ [(0, .pointer (some ⟨b_p0, 0, none⟩)), (10, .int .i64 r11.1), (11, .int .u64 r11.2), (21, .int .i64 r22)] := hS24.re ⟨rfl, rfl, rfl, rfl, trivial⟩
  clear hK K
  try clear hS20 hS21 hS24
  obtain ⟨a, ha⟩ : ∃ a', a' = a24 := ⟨_, rfl⟩
  rw [← ha] at hS ⊢; clear ha
  refine wp_block ?_
  refine c_pure [(0, .pointer (some ⟨b_p0, 0, none⟩)), (10, .int .i64 r11.1), (11, .int .u64 r11.2), (21, .int .i64 r22), (22, .bool (r22 == 2))] (fun R hR => st_val hS rfl rfl rfl (r_bin hS rfl rfl rfl b_eql) fun a26 hS26 => st_val hS26 rfl rfl rfl (r_assign hS26 rfl rfl) fun a27 hS27 => wpList_nil (hR _ (hS27.re ⟨rfl, rfl, rfl, rfl, rfl, trivial⟩))) ?_
  clear hS
  clear a
  intro a hS
  refine c_cond hS rfl (fun hb28 => ?_) (fun hb28 => ?_)
  · replace H := ite_t hb28 H
    obtain ⟨r32, hr33, H⟩ := bind_el H
    refine c_region (fun K hK => ?_)
    refine st_val hS rfl rfl rfl (r_move hS rfl rfl) fun a29 hS29 => st_val hS29 rfl rfl rfl (r_move hS29 rfl rfl) fun a30 hS30 => st_val hS30 rfl rfl rfl (r_move hS30 rfl rfl) fun a31 hS31 => ?_
    refine st_enter hS31 rfl rfl rfl (r_call hS31 rfl rfl (by kernel_rfl)) (runtimepm_Manager_Put.calls (c0 := c0) (b_p0 := b_p0) (A_devices_p0 := A_devices_p0) (cap_devices_p0 := cap_devices_p0) (A_links_p0 := A_links_p0) (cap_links_p0 := cap_links_p0) (A_order_p0 := A_order_p0) (cap_order_p0 := cap_order_p0) (p0 := p0) (p1 := r11.1) (p2 := r11.2) (g := g25) (N + 8) (N + 2) ⟨hb0, hf0_devices, hf0_links, hf0_order⟩ (by omega) (by omega) (by omega) hr33) ?_
    rintro _ a38 w39 ⟨g39, A34, cap35, rfl, ⟨hb0, hf0_devices, hf0_links, hf0_order⟩, h36, F39⟩ hS38
    replace hF := hF.trans F39 (fun c' (hm : (c0 ≤ c' ∧ c' < c0 + 7) ∨ (N + 2 ≤ c' ∧ c' < N + 2 + 2) ∨ N + 8 ≤ c') => by show (c0 ≤ c' ∧ c' < c0 + 7) ∨ (r0 ≤ c' ∧ c' < r0 + 2) ∨ N ≤ c'; omega)
    refine st_val hS38 rfl rfl rfl (r_extract hS38 rfl rfl rfl) fun a40 hS40 => st_val hS40 rfl rfl rfl (r_extract hS40 rfl rfl rfl) fun a41 hS41 => st_val hS41 rfl rfl rfl (r_assign hS41 rfl rfl) fun a42 hS42 => st_val hS42 rfl rfl rfl (r_assign hS42 rfl rfl) fun a43 hS43 => wpList_nil (hK _ _ ?_)
    replace hS : Sl 43 _ [(8, .slice A34 r32.2.1.length cap35), (9, .int .i64 r32.2.2)] := hS43.re ⟨rfl, rfl, trivial⟩
    clear hK K
    try clear hS29 hS30 hS31 hS38 hS40 hS41 hS42 hS43
    obtain ⟨a, ha⟩ : ∃ a', a' = a43 := ⟨_, rfl⟩
    rw [← ha] at hS ⊢; clear ha
    refine wp_ret ?_
    have e := Option.some.inj H
    subst e
    have F44 := Fr.recol2 w39 g39 (N + 2) r0
    replace h36 := h36.recol2 r0
    replace hb0 := hb0.fr F44 (fun (hm : c0 = N + 2 ∨ c0 = N + 2 + 1) => by omega)
    replace hf0_devices := OwS.fr hf0_devices F44 (fun c' hc (hm : c' = N + 2 ∨ c' = N + 2 + 1) => by omega)
    replace hf0_links := OwS.fr hf0_links F44 (fun c' hc (hm : c' = N + 2 ∨ c' = N + 2 + 1) => by omega)
    replace hf0_order := OwS.fr hf0_order F44 (fun c' hc (hm : c' = N + 2 ∨ c' = N + 2 + 1) => by omega)
    replace hF := hF.trans F44 (fun c' (hm : c' = N + 2 ∨ c' = N + 2 + 1) => by show (c0 ≤ c' ∧ c' < c0 + 7) ∨ (r0 ≤ c' ∧ c' < r0 + 2) ∨ N ≤ c'; omega)
    repeat (with_reducible first | refine then_ret ?_ | refine inBlock_ret ?_)
    exact c_ret2 hS Try.results26 rfl rfl ⟨_, rfl, (recol2 g39 (N + 2) r0), A34, cap35, rfl, ⟨hb0, hf0_devices, hf0_links, hf0_order⟩, h36, hF⟩
  · replace H := ite_f hb28 H
    refine c_pure [(0, .pointer (some ⟨b_p0, 0, none⟩)), (10, .int .i64 r11.1), (11, .int .u64 r11.2), (30, .bool (r22 == 3))] (fun R hR => st_val hS rfl rfl rfl (r_bin hS rfl rfl rfl b_eql) fun a45 hS45 => st_val hS45 rfl rfl rfl (r_assign hS45 rfl rfl) fun a46 hS46 => wpList_nil (hR _ (hS46.re ⟨rfl, rfl, rfl, rfl, trivial⟩))) ?_
    clear hS
    clear a
    intro a hS
    refine c_cond hS rfl (fun hb47 => ?_) (fun hb47 => ?_)
    · replace H := ite_t hb47 H
      obtain ⟨r50, hr51, H⟩ := bind_el H
      refine c_region (fun K hK => ?_)
      refine st_val hS rfl rfl rfl (r_move hS rfl rfl) fun a48 hS48 => st_val hS48 rfl rfl rfl (r_move hS48 rfl rfl) fun a49 hS49 => ?_
      refine st_enter hS49 rfl rfl rfl (r_call hS49 rfl rfl (by kernel_rfl)) (runtimepm_Manager_Advance.calls (c0 := c0) (b_p0 := b_p0) (A_devices_p0 := A_devices_p0) (cap_devices_p0 := cap_devices_p0) (A_links_p0 := A_links_p0) (cap_links_p0 := cap_links_p0) (A_order_p0 := A_order_p0) (cap_order_p0 := cap_order_p0) (p0 := p0) (p1 := r11.2) (g := g25) (N + 8) (N + 4) ⟨hb0, hf0_devices, hf0_links, hf0_order⟩ (by omega) (by omega) (by omega) hr51) ?_
      rintro _ a56 w57 ⟨g57, A52, cap53, rfl, ⟨hb0, hf0_devices, hf0_links, hf0_order⟩, h54, F57⟩ hS56
      replace hF := hF.trans F57 (fun c' (hm : (c0 ≤ c' ∧ c' < c0 + 7) ∨ (N + 4 ≤ c' ∧ c' < N + 4 + 2) ∨ N + 8 ≤ c') => by show (c0 ≤ c' ∧ c' < c0 + 7) ∨ (r0 ≤ c' ∧ c' < r0 + 2) ∨ N ≤ c'; omega)
      refine st_val hS56 rfl rfl rfl (r_extract hS56 rfl rfl rfl) fun a58 hS58 => st_val hS58 rfl rfl rfl (r_extract hS58 rfl rfl rfl) fun a59 hS59 => st_val hS59 rfl rfl rfl (r_assign hS59 rfl rfl) fun a60 hS60 => st_val hS60 rfl rfl rfl (r_assign hS60 rfl rfl) fun a61 hS61 => wpList_nil (hK _ _ ?_)
      replace hS : Sl 43 _ [(8, .slice A52 r50.2.1.length cap53), (9, .int .i64 r50.2.2)] := hS61.re ⟨rfl, rfl, trivial⟩
      clear hK K
      try clear hS48 hS49 hS56 hS58 hS59 hS60 hS61
      obtain ⟨a, ha⟩ : ∃ a', a' = a61 := ⟨_, rfl⟩
      rw [← ha] at hS ⊢; clear ha
      refine wp_ret ?_
      have e := Option.some.inj H
      subst e
      have F62 := Fr.recol2 w57 g57 (N + 4) r0
      replace h54 := h54.recol2 r0
      replace hb0 := hb0.fr F62 (fun (hm : c0 = N + 4 ∨ c0 = N + 4 + 1) => by omega)
      replace hf0_devices := OwS.fr hf0_devices F62 (fun c' hc (hm : c' = N + 4 ∨ c' = N + 4 + 1) => by omega)
      replace hf0_links := OwS.fr hf0_links F62 (fun c' hc (hm : c' = N + 4 ∨ c' = N + 4 + 1) => by omega)
      replace hf0_order := OwS.fr hf0_order F62 (fun c' hc (hm : c' = N + 4 ∨ c' = N + 4 + 1) => by omega)
      replace hF := hF.trans F62 (fun c' (hm : c' = N + 4 ∨ c' = N + 4 + 1) => by show (c0 ≤ c' ∧ c' < c0 + 7) ∨ (r0 ≤ c' ∧ c' < r0 + 2) ∨ N ≤ c'; omega)
      repeat (with_reducible first | refine then_ret ?_ | refine inBlock_ret ?_)
      exact c_ret2 hS Try.results26 rfl rfl ⟨_, rfl, (recol2 g57 (N + 4) r0), A52, cap53, rfl, ⟨hb0, hf0_devices, hf0_links, hf0_order⟩, h54, hF⟩
    · replace H := ite_f hb47 H
      refine wp_skip ?_
      change Code.wp _ _ _ _ _
      obtain ⟨r66, hr67, H⟩ := bind_el H
      refine c_region (fun K hK => ?_)
      refine st_val hS rfl rfl rfl (r_move hS rfl rfl) fun a63 hS63 => st_val hS63 rfl rfl rfl (r_move hS63 rfl rfl) fun a64 hS64 => st_val hS64 rfl rfl rfl (r_move hS64 rfl rfl) fun a65 hS65 => ?_
      refine st_enter hS65 rfl rfl rfl (r_call hS65 rfl rfl (by kernel_rfl)) (runtimepm_Manager_Get.calls (c0 := c0) (b_p0 := b_p0) (A_devices_p0 := A_devices_p0) (cap_devices_p0 := cap_devices_p0) (A_links_p0 := A_links_p0) (cap_links_p0 := cap_links_p0) (A_order_p0 := A_order_p0) (cap_order_p0 := cap_order_p0) (p0 := p0) (p1 := r11.1) (p2 := r11.2) (g := g25) (N + 8) (N + 6) ⟨hb0, hf0_devices, hf0_links, hf0_order⟩ (by omega) (by omega) (by omega) hr67) ?_
      rintro _ a72 w73 ⟨g73, A68, cap69, rfl, ⟨hb0, hf0_devices, hf0_links, hf0_order⟩, h70, F73⟩ hS72
      replace hF := hF.trans F73 (fun c' (hm : (c0 ≤ c' ∧ c' < c0 + 7) ∨ (N + 6 ≤ c' ∧ c' < N + 6 + 2) ∨ N + 8 ≤ c') => by show (c0 ≤ c' ∧ c' < c0 + 7) ∨ (r0 ≤ c' ∧ c' < r0 + 2) ∨ N ≤ c'; omega)
      refine st_val hS72 rfl rfl rfl (r_extract hS72 rfl rfl rfl) fun a74 hS74 => st_val hS74 rfl rfl rfl (r_extract hS74 rfl rfl rfl) fun a75 hS75 => st_val hS75 rfl rfl rfl (r_assign hS75 rfl rfl) fun a76 hS76 => st_val hS76 rfl rfl rfl (r_assign hS76 rfl rfl) fun a77 hS77 => wpList_nil (hK _ _ ?_)
      replace hS : Sl 43 _ [(8, .slice A68 r66.2.1.length cap69), (9, .int .i64 r66.2.2)] := hS77.re ⟨rfl, rfl, trivial⟩
      clear hK K
      try clear hS63 hS64 hS65 hS72 hS74 hS75 hS76 hS77
      obtain ⟨a, ha⟩ : ∃ a', a' = a77 := ⟨_, rfl⟩
      rw [← ha] at hS ⊢; clear ha
      refine wp_ret ?_
      have e := Option.some.inj H
      subst e
      have F78 := Fr.recol2 w73 g73 (N + 6) r0
      replace h70 := h70.recol2 r0
      replace hb0 := hb0.fr F78 (fun (hm : c0 = N + 6 ∨ c0 = N + 6 + 1) => by omega)
      replace hf0_devices := OwS.fr hf0_devices F78 (fun c' hc (hm : c' = N + 6 ∨ c' = N + 6 + 1) => by omega)
      replace hf0_links := OwS.fr hf0_links F78 (fun c' hc (hm : c' = N + 6 ∨ c' = N + 6 + 1) => by omega)
      replace hf0_order := OwS.fr hf0_order F78 (fun c' hc (hm : c' = N + 6 ∨ c' = N + 6 + 1) => by omega)
      replace hF := hF.trans F78 (fun c' (hm : c' = N + 6 ∨ c' = N + 6 + 1) => by show (c0 ≤ c' ∧ c' < c0 + 7) ∨ (r0 ≤ c' ∧ c' < r0 + 2) ∨ N ≤ c'; omega)
      repeat (with_reducible first | refine then_ret ?_ | refine inBlock_ret ?_)
      exact c_ret2 hS Try.results26 rfl rfl ⟨_, rfl, (recol2 g73 (N + 6) r0), A68, cap69, rfl, ⟨hb0, hf0_devices, hf0_links, hf0_order⟩, h70, hF⟩


end Go.Proofs.Ytcfcffbjdjacfaa.Sim

namespace Go.Proofs.Ytcfcffbjdjacfaa.Sim
open Go
set_option linter.unusedVariables false
set_option linter.unusedSimpArgs false

/-! ### law28_large: function 15 -/
def law28_large.l0 (p0 : List api_IdleDevice) : Nat → Int → Option (Fl (Bool) (Unit))
  | 0, _ => none
  | k25 + 1, m0_0 => if decide (m0_0 < (p0.length : Int)) = true then ((idx p0 m0_0).bind fun x33 => if decide (20 < (x33.Suppliers.length : Int)) = true then (some (.out true)) else (law28_large.l0 p0 k25 (wi (m0_0 + 1)))) else (some (.nxt ()))
def law28_large.f (p0 : List api_IdleDevice) (p1 : List law28_Call) : Option (Bool) := if ((decide (20 < (p0.length : Int))) || (decide (40 < (p1.length : Int)))) = true then (some true) else ((law28_large.l0 p0 FUEL 0 : Option (Fl (Bool) (Unit))).bind fun o22 => o22.go fun _ => some false)
set_option maxRecDepth 100000 in
set_option maxHeartbeats 4000000 in
theorem law28_large.calls {p0 : List api_IdleDevice} {A0 : Option Addr} {cap0 : Nat} {C0 : Nat → Prop} {p1 : List law28_Call} {A1 : Option Addr} {cap1 : Nat} {C1 : Nat → Prop} {w : World} {g : Nat → Nat} {out : Bool} (N : Nat) (hp0 : RdS kd_api_IdleDevice w g C0 A0 cap0 p0) (hC0 : ∀ c, C0 c → c < N) (hp1 : RdS kd_law28_Call w g C1 A1 cap1 p1) (hC1 : ∀ c, C1 c → c < N) (H : law28_large.f p0 p1 = some out) :
    Calls Try.prog 15 #[.slice A0 p0.length cap0, .slice A1 p1.length cap1] w (fun e w' => ∃ v, e = .returned v ∧ ∃ (g' : Nat → Nat), v = .bool out ∧ Fr (fun q => N ≤ q) w g w' g') := by
  unfold law28_large.f at H
  refine calls_enter Try.func15 rfl Try.ntmps15 rfl (fun a hS => ?_)
  replace hS : Sl 27 a [(0, .slice A0 p0.length cap0), (1, .slice A1 p1.length cap1)] := hS
  have hF : Fr (fun q => N ≤ q) w g w g := Fr.refl _ _ _
  refine c_pure [(0, .slice A0 p0.length cap0), (1, .slice A1 p1.length cap1)] (fun R hR => st_val hS rfl rfl rfl (r_assign hS rfl rfl) fun a1 hS1 => wpList_nil (hR _ (hS1.re ⟨rfl, rfl, trivial⟩))) ?_
  clear hS
  clear a
  intro a hS
  refine wp_seq ?_
  refine c_region (fun K hK => ?_)
  refine st_val hS rfl rfl rfl (r_move hS rfl rfl) fun a2 hS2 => st_val hS2 rfl rfl rfl (r_len (e := 30) (sz := 3) (by_ := 40) hS2 rfl rfl (by kernel_rfl)) fun a3 hS3 => st_val hS3 rfl rfl rfl (r_bin hS3 rfl rfl rfl b_gtr) fun a4 hS4 => st_val hS4 rfl rfl rfl (r_move hS4 rfl rfl) fun a5 hS5 => ?_
  refine g_join (N := 27) 4 [(0, .slice A0 p0.length cap0), (13, .bool ((decide (20 < (p0.length : Int))) || (decide (40 < (p1.length : Int)))))] ?_ (fun hk => ?_)
  rotate_left
  · rcases Bool.eq_false_or_eq_true (decide (20 < (p0.length : Int))) with hb6 | hb6
    · refine st_off hS5 (want_off hS5 rfl rfl rfl hb6) rfl rfl fun a10 hS10 => st_off hS10 (want_off hS10 rfl rfl rfl hb6) rfl rfl fun a11 hS11 => st_off hS11 (want_off hS11 rfl rfl rfl hb6) rfl rfl fun a12 hS12 => st_val hS12 rfl rfl rfl (r_pickT hS12 rfl rfl rfl hb6) fun a13 hS13 => hk _ (hS13.re ⟨rfl, (by rw [hb6]; rfl), trivial⟩)
    · refine st_valW hS5 (want_on hS5 rfl rfl rfl hb6) rfl rfl (r_move hS5 rfl rfl) fun a14 hS14 => st_valW hS14 (want_on hS14 rfl rfl rfl hb6) rfl rfl (r_len (e := 54) (sz := 4) (by_ := 32) hS14 rfl rfl (by kernel_rfl)) fun a15 hS15 => st_valW hS15 (want_on hS15 rfl rfl rfl hb6) rfl rfl (r_bin hS15 rfl rfl rfl b_gtr) fun a16 hS16 => st_val hS16 rfl rfl rfl (r_pickF hS16 rfl rfl rfl hb6) fun a17 hS17 => hk _ (hS17.re ⟨rfl, (by rw [hb6]; rfl), trivial⟩)
  intro a18 hS18
  refine wpList_nil (hK _ _ ?_)
  replace hS : Sl 27 _ [(0, .slice A0 p0.length cap0), (13, .bool ((decide (20 < (p0.length : Int))) || (decide (40 < (p1.length : Int)))))] := hS18.re ⟨rfl, rfl, trivial⟩
  clear hK K
  try clear hS2 hS3 hS4 hS5 hS18
  obtain ⟨a, ha⟩ : ∃ a', a' = a18 := ⟨_, rfl⟩
  rw [← ha] at hS ⊢; clear ha
  refine c_cond hS rfl (fun hb19 => ?_) (fun hb19 => ?_)
  · replace H := ite_t hb19 H
    refine c_pure [(4, .bool true)] (fun R hR => st_val hS rfl rfl rfl (r_assign hS rfl rfl) fun a20 hS20 => wpList_nil (hR _ (hS20.re ⟨rfl, trivial⟩))) ?_
    clear hS
    clear a
    intro a hS
    refine wp_ret ?_
    have e := Option.some.inj H
    subst e
    repeat (with_reducible first | refine then_ret ?_ | refine inBlock_ret ?_)
    exact c_ret1 hS Try.results15 rfl ⟨_, rfl, g, rfl, hF⟩
  · replace H := ite_f hb19 H
    refine wp_skip ?_
    change Code.wp _ _ _ _ _
    obtain ⟨o22, H, Hl23⟩ := bind_el H
    refine c_cut (fun a w' => o22 = .nxt () ∧ w = w' ∧ Sl 27 a []) ?_ ?_
    · refine c_pure [(0, .slice A0 p0.length cap0), (5, .int .i64 0)] (fun R hR => st_val hS rfl rfl rfl (r_assign hS rfl rfl) fun a24 hS24 => wpList_nil (hR _ (hS24.re ⟨rfl, rfl, trivial⟩))) ?_
      clear hS
      clear a
      intro a hS
      refine wp_block ?_
      refine wp_loop_ghost (fun kq => fun a w' => ∃ (m0_0 : Int), law28_large.l0 p0 kq m0_0 = some o22 ∧ w = w' ∧ Sl 27 a [(0, .slice A0 p0.length cap0), (5, .int .i64 m0_0)]) FUEL ?_ ?_
      · exact ⟨0, H, rfl, hS.re ⟨rfl, rfl, trivial⟩⟩
      · clear H
        clear hS
        rintro k25 a w' ⟨m0_0, hpre0, hw, hS⟩
        subst hw
        have H := hpre0
        clear hpre0
        cases k25 with
        | zero => exact absurd H (by simp [law28_large.l0])
        | succ k25 =>
          rw [law28_large.l0] at H
          refine wp_seq ?_
          refine c_pure [(0, .slice A0 p0.length cap0), (5, .int .i64 m0_0), (17, .bool (decide (m0_0 < (p0.length : Int))))] (fun R hR => st_val hS rfl rfl rfl (r_move hS rfl rfl) fun a26 hS26 => st_val hS26 rfl rfl rfl (r_move hS26 rfl rfl) fun a27 hS27 => st_val hS27 rfl rfl rfl (r_len (e := 30) (sz := 3) (by_ := 40) hS27 rfl rfl (by kernel_rfl)) fun a28 hS28 => st_val hS28 rfl rfl rfl (r_bin hS28 rfl rfl rfl b_lss) fun a29 hS29 => wpList_nil (hR _ (hS29.re ⟨rfl, rfl, rfl, trivial⟩))) ?_
          clear hS
          clear a
          intro a hS
          refine c_cond hS rfl (fun hb30 => ?_) (fun hb30 => ?_)
          · replace H := ite_t hb30 H
            refine wp_skip ?_
            change Code.wp _ _ _ _ _
            refine wp_seq ?_
            refine wp_block ?_
            obtain ⟨x33, hx34, H⟩ := bind_el H
            refine c_region (fun K hK => ?_)
            refine st_val hS rfl rfl rfl (r_move hS rfl rfl) fun a31 hS31 => st_val hS31 rfl rfl rfl (r_move hS31 rfl rfl) fun a32 hS32 => ?_
            obtain ⟨_, ⟨A36, cap37, rfl, h38⟩, hel35⟩ := El.of hp0 hx34 (by decide)
            replace hel35 : El w g C0 A0 (m0_0.toNat * 3) [.int .i64 x33.Parent, .slice A36 x33.Suppliers.length cap37, .int .u64 x33.Delay] := hel35
            refine st_val hS32 rfl rfl rfl (r_index (e := 30) (sz := 3) (by_ := 40) hS32 rfl rfl rfl (by kernel_rfl) (RdS.some_ hp0 hx34) (idx_lo hx34) (idx_hi hx34)) fun a41 hS41 => st_val hS41 rfl rfl rfl (r_fieldE (off := 1) hS41 rfl rfl (by kernel_rfl)) fun a42 hS42 => st_val hS42 rfl rfl rfl (r_load1 (n := 1) hS42 rfl rfl (by kernel_rfl) (El.cell (j := 1) hel35 rfl)) fun a43 hS43 => st_val hS43 rfl rfl rfl (r_len (e := 3) (sz := 1) (by_ := 8) hS43 rfl rfl (by kernel_rfl)) fun a44 hS44 => st_val hS44 rfl rfl rfl (r_bin hS44 rfl rfl rfl b_gtr) fun a45 hS45 => wpList_nil (hK _ _ ?_)
            replace hS : Sl 27 _ [(0, .slice A0 p0.length cap0), (5, .int .i64 m0_0), (26, .bool (decide (20 < (x33.Suppliers.length : Int))))] := hS45.re ⟨rfl, rfl, rfl, trivial⟩
            clear hK K
            try clear hS31 hS32 hS41 hS42 hS43 hS44 hS45
            obtain ⟨a, ha⟩ : ∃ a', a' = a45 := ⟨_, rfl⟩
            rw [← ha] at hS ⊢; clear ha
            refine c_cond hS rfl (fun hb46 => ?_) (fun hb46 => ?_)
            · replace H := ite_t hb46 H
              refine c_pure [(4, .bool true)] (fun R hR => st_val hS rfl rfl rfl (r_assign hS rfl rfl) fun a47 hS47 => wpList_nil (hR _ (hS47.re ⟨rfl, trivial⟩))) ?_
              clear hS
              clear a
              intro a hS
              refine wp_ret ?_
              have e := Option.some.inj H
              subst e
              replace H := Fl.go_out Hl23
              have e := Option.some.inj H
              subst e
              repeat (with_reducible first | refine then_ret ?_ | refine inBlock_ret ?_)
              exact c_ret1 hS Try.results15 rfl ⟨_, rfl, g, rfl, hF⟩
            · replace H := ite_f hb46 H
              refine wp_skip ?_
              change Code.wp _ _ _ _ _
              refine c_pure1 [(0, .slice A0 p0.length cap0), (5, .int .i64 (wi (m0_0 + 1)))] (fun R hR => st_val hS rfl rfl rfl (r_move hS rfl rfl) fun a48 hS48 => st_val hS48 rfl rfl rfl (r_bin hS48 rfl rfl rfl b_add) fun a49 hS49 => st_val hS49 rfl rfl rfl (r_assign hS49 rfl rfl) fun a50 hS50 => wpList_nil (hR _ (hS50.re ⟨rfl, rfl, trivial⟩))) ?_
              clear hS
              clear a
              intro a hS
              refine ⟨k25, Nat.lt_succ_self _, ?_⟩
              exact ⟨wi (m0_0 + 1), H, rfl, hS.re ⟨rfl, rfl, trivial⟩⟩
          · replace H := ite_f hb30 H
            refine wp_exit ?_
            have e := Option.some.inj H
            exact ⟨e.symm, rfl, hS.re trivial⟩
    · clear H
      clear hS
      rintro a w' ⟨hpre0, hw, hS⟩
      subst hpre0
      subst hw
      have H := Fl.go_nxt Hl23
      clear Hl23
      refine c_pure [(4, .bool false)] (fun R hR => st_val hS rfl rfl rfl (r_assign hS rfl rfl) fun a51 hS51 => wpList_nil (hR _ (hS51.re ⟨rfl, trivial⟩))) ?_
      clear hS
      clear a
      intro a hS
      refine wp_ret ?_
      have e := Option.some.inj H
      subst e
      repeat (with_reducible first | refine then_ret ?_ | refine inBlock_ret ?_)
      exact c_ret1 hS Try.results15 rfl ⟨_, rfl, g, rfl, hF⟩


end Go.Proofs.Ytcfcffbjdjacfaa.Sim

namespace Go.Proofs.Ytcfcffbjdjacfaa.Sim
open Go
set_option linter.unusedVariables false
set_option linter.unusedSimpArgs false

/-! ### law28_needs: function 27 -/
def law28_needs.l0 (p2 : Int) (x4 : api_IdleDevice) : Nat → Int → Option (Fl (Bool) (Unit))
  | 0, _ => none
  | k23 + 1, m0_0 => if decide (m0_0 < (x4.Suppliers.length : Int)) = true then ((idx x4.Suppliers m0_0).bind fun x51 => if (x51 == p2) = true then (some (.out true)) else (law28_needs.l0 p2 x4 k23 (wi (m0_0 + 1)))) else (some (.nxt ()))
def law28_needs.f (p0 : List api_IdleDevice) (p1 : Int) (p2 : Int) : Option (Bool) := (idx p0 p1).bind fun x4 => if (x4.Parent == p2) = true then (some true) else ((law28_needs.l0 p2 x4 FUEL 0 : Option (Fl (Bool) (Unit))).bind fun o20 => o20.go fun _ => some false)
set_option maxRecDepth 100000 in
set_option maxHeartbeats 4000000 in
theorem law28_needs.calls {p0 : List api_IdleDevice} {A0 : Option Addr} {cap0 : Nat} {C0 : Nat → Prop} {p1 : Int} {p2 : Int} {w : World} {g : Nat → Nat} {out : Bool} (N : Nat) (hp0 : RdS kd_api_IdleDevice w g C0 A0 cap0 p0) (hC0 : ∀ c, C0 c → c < N) (H : law28_needs.f p0 p1 p2 = some out) :
    Calls Try.prog 27 #[.slice A0 p0.length cap0, .int .i64 p1, .int .i64 p2] w (fun e w' => ∃ v, e = .returned v ∧ ∃ (g' : Nat → Nat), v = .bool out ∧ Fr (fun q => N ≤ q) w g w' g') := by
  unfold law28_needs.f at H
  refine calls_enter Try.func27 rfl Try.ntmps27 rfl (fun a hS => ?_)
  replace hS : Sl 35 a [(0, .slice A0 p0.length cap0), (1, .int .i64 p1), (2, .int .i64 p2)] := hS
  have hF : Fr (fun q => N ≤ q) w g w g := Fr.refl _ _ _
  refine c_pure [(0, .slice A0 p0.length cap0), (1, .int .i64 p1), (2, .int .i64 p2)] (fun R hR => st_val hS rfl rfl rfl (r_assign hS rfl rfl) fun a1 hS1 => wpList_nil (hR _ (hS1.re ⟨rfl, rfl, rfl, trivial⟩))) ?_
  clear hS
  clear a
  intro a hS
  refine wp_seq ?_
  obtain ⟨x4, hx5, H⟩ := bind_el H
  refine c_region (fun K hK => ?_)
  refine st_val hS rfl rfl rfl (r_move hS rfl rfl) fun a2 hS2 => st_val hS2 rfl rfl rfl (r_move hS2 rfl rfl) fun a3 hS3 => ?_
  obtain ⟨_, ⟨A7, cap8, rfl, h9⟩, hel6⟩ := El.of hp0 hx5 (by decide)
  replace hel6 : El w g C0 A0 (p1.toNat * 3) [.int .i64 x4.Parent, .slice A7 x4.Suppliers.length cap8, .int .u64 x4.Delay] := hel6
  refine st_val hS3 rfl rfl rfl (r_index (e := 30) (sz := 3) (by_ := 40) hS3 rfl rfl rfl (by kernel_rfl) (RdS.some_ hp0 hx5) (idx_lo hx5) (idx_hi hx5)) fun a12 hS12 => st_val hS12 rfl rfl rfl (r_fieldE (off := 0) hS12 rfl rfl (by kernel_rfl)) fun a13 hS13 => st_val hS13 rfl rfl rfl (r_load1 (n := 1) hS13 rfl rfl (by kernel_rfl) (El.cell (j := 0) hel6 rfl)) fun a14 hS14 => st_val hS14 rfl rfl rfl (r_move hS14 rfl rfl) fun a15 hS15 => st_val hS15 rfl rfl rfl (r_bin hS15 rfl rfl rfl b_eql) fun a16 hS16 => wpList_nil (hK _ _ ?_)
  replace hS : Sl 35 _ [(0, .slice A0 p0.length cap0), (1, .int .i64 p1), (2, .int .i64 p2), (14, .bool (x4.Parent == p2))] := hS16.re ⟨rfl, rfl, rfl, rfl, trivial⟩
  clear hK K
  try clear hS2 hS3 hS12 hS13 hS14 hS15 hS16
  obtain ⟨a, ha⟩ : ∃ a', a' = a16 := ⟨_, rfl⟩
  rw [← ha] at hS ⊢; clear ha
  refine c_cond hS rfl (fun hb17 => ?_) (fun hb17 => ?_)
  · replace H := ite_t hb17 H
    refine c_pure [(6, .bool true)] (fun R hR => st_val hS rfl rfl rfl (r_assign hS rfl rfl) fun a18 hS18 => wpList_nil (hR _ (hS18.re ⟨rfl, trivial⟩))) ?_
    clear hS
    clear a
    intro a hS
    refine wp_ret ?_
    have e := Option.some.inj H
    subst e
    repeat (with_reducible first | refine then_ret ?_ | refine inBlock_ret ?_)
    exact c_ret1 hS Try.results27 rfl ⟨_, rfl, g, rfl, hF⟩
  · replace H := ite_f hb17 H
    refine wp_skip ?_
    change Code.wp _ _ _ _ _
    obtain ⟨o20, H, Hl21⟩ := bind_el H
    refine c_cut (fun a w' => o20 = .nxt () ∧ w = w' ∧ Sl 35 a []) ?_ ?_
    · refine c_pure [(0, .slice A0 p0.length cap0), (1, .int .i64 p1), (2, .int .i64 p2), (7, .int .i64 0)] (fun R hR => st_val hS rfl rfl rfl (r_assign hS rfl rfl) fun a22 hS22 => wpList_nil (hR _ (hS22.re ⟨rfl, rfl, rfl, rfl, trivial⟩))) ?_
      clear hS
      clear a
      intro a hS
      refine wp_block ?_
      refine wp_loop_ghost (fun kq => fun a w' => ∃ (m0_0 : Int), law28_needs.l0 p2 x4 kq m0_0 = some o20 ∧ w = w' ∧ Sl 35 a [(0, .slice A0 p0.length cap0), (1, .int .i64 p1), (2, .int .i64 p2), (7, .int .i64 m0_0)]) FUEL ?_ ?_
      · exact ⟨0, H, rfl, hS.re ⟨rfl, rfl, rfl, rfl, trivial⟩⟩
      · clear H
        clear hS
        rintro k23 a w' ⟨m0_0, hpre0, hw, hS⟩
        subst hw
        have H := hpre0
        clear hpre0
        cases k23 with
        | zero => exact absurd H (by simp [law28_needs.l0])
        | succ k23 =>
          rw [law28_needs.l0] at H
          refine wp_seq ?_
          refine c_region (fun K hK => ?_)
          refine st_val hS rfl rfl rfl (r_move hS rfl rfl) fun a24 hS24 => st_val hS24 rfl rfl rfl (r_move hS24 rfl rfl) fun a25 hS25 => st_val hS25 rfl rfl rfl (r_move hS25 rfl rfl) fun a26 hS26 => ?_
          obtain ⟨_, ⟨A28, cap29, rfl, h30⟩, hel27⟩ := El.of hp0 hx5 (by decide)
          replace hel27 : El w g C0 A0 (p1.toNat * 3) [.int .i64 x4.Parent, .slice A28 x4.Suppliers.length cap29, .int .u64 x4.Delay] := hel27
          refine st_val hS26 rfl rfl rfl (r_index (e := 30) (sz := 3) (by_ := 40) hS26 rfl rfl rfl (by kernel_rfl) (RdS.some_ hp0 hx5) (idx_lo hx5) (idx_hi hx5)) fun a33 hS33 => st_val hS33 rfl rfl rfl (r_fieldE (off := 1) hS33 rfl rfl (by kernel_rfl)) fun a34 hS34 => st_val hS34 rfl rfl rfl (r_load1 (n := 1) hS34 rfl rfl (by kernel_rfl) (El.cell (j := 1) hel27 rfl)) fun a35 hS35 => st_val hS35 rfl rfl rfl (r_len (e := 3) (sz := 1) (by_ := 8) hS35 rfl rfl (by kernel_rfl)) fun a36 hS36 => st_val hS36 rfl rfl rfl (r_bin hS36 rfl rfl rfl b_lss) fun a37 hS37 => wpList_nil (hK _ _ ?_)
          replace hS : Sl 35 _ [(0, .slice A0 p0.length cap0), (1, .int .i64 p1), (2, .int .i64 p2), (7, .int .i64 m0_0), (22, .bool (decide (m0_0 < (x4.Suppliers.length : Int))))] := hS37.re ⟨rfl, rfl, rfl, rfl, rfl, trivial⟩
          clear hK K
          try clear hS24 hS25 hS26 hS33 hS34 hS35 hS36 hS37
          obtain ⟨a, ha⟩ : ∃ a', a' = a37 := ⟨_, rfl⟩
          rw [← ha] at hS ⊢; clear ha
          refine c_cond hS rfl (fun hb38 => ?_) (fun hb38 => ?_)
          · replace H := ite_t hb38 H
            refine wp_skip ?_
            change Code.wp _ _ _ _ _
            refine wp_seq ?_
            refine wp_block ?_
            obtain ⟨x51, hx52, H⟩ := bind_el H
            refine c_region (fun K hK => ?_)
            refine st_val hS rfl rfl rfl (r_move hS rfl rfl) fun a39 hS39 => st_val hS39 rfl rfl rfl (r_move hS39 rfl rfl) fun a40 hS40 => ?_
            obtain ⟨_, ⟨A42, cap43, rfl, h44⟩, hel41⟩ := El.of hp0 hx5 (by decide)
            replace hel41 : El w g C0 A0 (p1.toNat * 3) [.int .i64 x4.Parent, .slice A42 x4.Suppliers.length cap43, .int .u64 x4.Delay] := hel41
            refine st_val hS40 rfl rfl rfl (r_index (e := 30) (sz := 3) (by_ := 40) hS40 rfl rfl rfl (by kernel_rfl) (RdS.some_ hp0 hx5) (idx_lo hx5) (idx_hi hx5)) fun a47 hS47 => st_val hS47 rfl rfl rfl (r_fieldE (off := 1) hS47 rfl rfl (by kernel_rfl)) fun a48 hS48 => st_val hS48 rfl rfl rfl (r_load1 (n := 1) hS48 rfl rfl (by kernel_rfl) (El.cell (j := 1) hel41 rfl)) fun a49 hS49 => st_val hS49 rfl rfl rfl (r_move hS49 rfl rfl) fun a50 hS50 => st_val hS50 rfl rfl rfl (r_index (e := 3) (sz := 1) (by_ := 8) hS50 rfl rfl rfl (by kernel_rfl) (RdS.some_ h44 hx52) (idx_lo hx52) (idx_hi hx52)) fun a53 hS53 => st_val hS53 rfl rfl rfl (r_load1 (n := 1) hS53 rfl rfl (by kernel_rfl) (RdS.cell (i := m0_0) (sz := 1) (j := 0) h44 hx52 rfl)) fun a54 hS54 => st_val hS54 rfl rfl rfl (r_move hS54 rfl rfl) fun a55 hS55 => st_val hS55 rfl rfl rfl (r_bin hS55 rfl rfl rfl b_eql) fun a56 hS56 => wpList_nil (hK _ _ ?_)
            replace hS : Sl 35 _ [(0, .slice A0 p0.length cap0), (1, .int .i64 p1), (2, .int .i64 p2), (7, .int .i64 m0_0), (34, .bool (x51 == p2))] := hS56.re ⟨rfl, rfl, rfl, rfl, rfl, trivial⟩
            clear hK K
            try clear hS39 hS40 hS47 hS48 hS49 hS50 hS53 hS54 hS55 hS56
            obtain ⟨a, ha⟩ : ∃ a', a' = a56 := ⟨_, rfl⟩
            rw [← ha] at hS ⊢; clear ha
            refine c_cond hS rfl (fun hb57 => ?_) (fun hb57 => ?_)
            · replace H := ite_t hb57 H
              refine c_pure [(6, .bool true)] (fun R hR => st_val hS rfl rfl rfl (r_assign hS rfl rfl) fun a58 hS58 => wpList_nil (hR _ (hS58.re ⟨rfl, trivial⟩))) ?_
              clear hS
              clear a
              intro a hS
              refine wp_ret ?_
              have e := Option.some.inj H
              subst e
              replace H := Fl.go_out Hl21
              have e := Option.some.inj H
              subst e
              repeat (with_reducible first | refine then_ret ?_ | refine inBlock_ret ?_)
              exact c_ret1 hS Try.results27 rfl ⟨_, rfl, g, rfl, hF⟩
            · replace H := ite_f hb57 H
              refine wp_skip ?_
              change Code.wp _ _ _ _ _
              refine c_pure1 [(0, .slice A0 p0.length cap0), (1, .int .i64 p1), (2, .int .i64 p2), (7, .int .i64 (wi (m0_0 + 1)))] (fun R hR => st_val hS rfl rfl rfl (r_move hS rfl rfl) fun a59 hS59 => st_val hS59 rfl rfl rfl (r_bin hS59 rfl rfl rfl b_add) fun a60 hS60 => st_val hS60 rfl rfl rfl (r_assign hS60 rfl rfl) fun a61 hS61 => wpList_nil (hR _ (hS61.re ⟨rfl, rfl, rfl, rfl, trivial⟩))) ?_
              clear hS
              clear a
              intro a hS
              refine ⟨k23, Nat.lt_succ_self _, ?_⟩
              exact ⟨wi (m0_0 + 1), H, rfl, hS.re ⟨rfl, rfl, rfl, rfl, trivial⟩⟩
          · replace H := ite_f hb38 H
            refine wp_exit ?_
            have e := Option.some.inj H
            exact ⟨e.symm, rfl, hS.re trivial⟩
    · clear H
      clear hS
      rintro a w' ⟨hpre0, hw, hS⟩
      subst hpre0
      subst hw
      have H := Fl.go_nxt Hl21
      clear Hl21
      refine c_pure [(6, .bool false)] (fun R hR => st_val hS rfl rfl rfl (r_assign hS rfl rfl) fun a62 hS62 => wpList_nil (hR _ (hS62.re ⟨rfl, trivial⟩))) ?_
      clear hS
      clear a
      intro a hS
      refine wp_ret ?_
      have e := Option.some.inj H
      subst e
      repeat (with_reducible first | refine then_ret ?_ | refine inBlock_ret ?_)
      exact c_ret1 hS Try.results27 rfl ⟨_, rfl, g, rfl, hF⟩


end Go.Proofs.Ytcfcffbjdjacfaa.Sim

namespace Go.Proofs.Ytcfcffbjdjacfaa.Sim
open Go
set_option linter.unusedVariables false
set_option linter.unusedSimpArgs false

/-! ### law28_Some: function 17 -/
def law28_Some.l2 (m1_0 : api_IdleDevice) (r194 : Int) : Nat → Bool → Int → Option (Bool)
  | 0, _, _ => none
  | k208 + 1, m2_0, m2_1 => if decide (m2_1 < (m1_0.Suppliers.length : Int)) = true then ((if m2_0 = true then (idx m1_0.Suppliers m2_1).bind fun x221 => some (x221 != r194) else some false).bind fun t227 => law28_Some.l2 m1_0 r194 k208 t227 (wi (m2_1 + 1))) else (some m2_0)
def law28_Some.l1 (m0_1 : Int) (x31 : api_IdleDevice) : Nat → api_IdleDevice → Int → Option (api_IdleDevice)
  | 0, _, _ => none
  | k143 + 1, m1_0, m1_1 => if ((decide (m1_1 < (x31.Suppliers.length : Int))) && (decide (0 < m0_1))) = true then (((idx x31.Suppliers m1_1).bind fun x189 => (help_Mod.f x189 m0_1).bind fun r194 => (law28_Some.l2 m1_0 r194 FUEL (r194 != m1_0.Parent) 0 : Option (Bool)).bind fun v204 => if v204 = true then ((app m1_0.Suppliers [r194]).bind fun y264 => some (api_IdleDevice.mk m1_0.Parent y264 m1_0.Delay)) else (some m1_0) : Option (api_IdleDevice)).bind fun v174 => law28_Some.l1 m0_1 x31 k143 v174 (wi (m1_1 + 1))) else (some m1_0)
def law28_Some.l0 (p0 : List api_IdleDevice) : Nat → (List api_IdleDevice) → Int → Option ((List api_IdleDevice))
  | 0, _, _ => none
  | k19 + 1, m0_0, m0_1 => if decide (m0_1 < (min (p0.length : Int) 8)) = true then (((idx p0 m0_1).bind fun x31 => (help_Mod.f x31.Parent (wi (m0_1 + 1))).bind fun r39 => (law28_Some.l1 m0_1 x31 FUEL (api_IdleDevice.mk (wi (r39 - 1)) ([] : List Int) (Int.tmod x31.Delay 12)) 0 : Option (api_IdleDevice)).bind fun v135 => (app m0_0 [v135]).bind fun y286 => some y286 : Option ((List api_IdleDevice))).bind fun v28 => law28_Some.l0 p0 k19 v28 (wi (m0_1 + 1))) else (some m0_0)
def law28_Some.l4 (p0 : List api_IdleDevice) (x332 : api_IdleDevice) : Nat → api_IdleDevice → Int → Option (api_IdleDevice)
  | 0, _, _ => none
  | k397 + 1, m4_0, m4_1 => if decide (m4_1 < (x332.Suppliers.length : Int)) = true then ((idx x332.Suppliers m4_1).bind fun x419 => (app m4_0.Suppliers [wi ((wi ((min (p0.length : Int) 8) - 1)) - x419)]).bind fun y424 => law28_Some.l4 p0 x332 k397 (api_IdleDevice.mk m4_0.Parent y424 m4_0.Delay) (wi (m4_1 + 1))) else (some m4_0)
def law28_Some.l3 (p0 : List api_IdleDevice) (v11 : (List api_IdleDevice)) : Nat → (List api_IdleDevice) → Int → Option ((List api_IdleDevice))
  | 0, _, _ => none
  | k321 + 1, m3_0, m3_1 => if decide (m3_1 < (min (p0.length : Int) 8)) = true then (((idx v11 m3_1).bind fun x332 => (if decide (0 ≤ x332.Parent) = true then (some (api_IdleDevice.mk (wi ((wi ((min (p0.length : Int) 8) - 1)) - x332.Parent)) ([] : List Int) x332.Delay)) else (some (api_IdleDevice.mk (-1) ([] : List Int) x332.Delay)) : Option (api_IdleDevice)).bind fun v352 => (law28_Some.l4 p0 x332 FUEL (api_IdleDevice.mk v352.Parent ([] : List Int) v352.Delay) 0 : Option (api_IdleDevice)).bind fun v389 => (idx m3_0 (wi ((wi ((min (p0.length : Int) 8) - 1)) - m3_1))).bind fun x473 => some (upd m3_0 (wi ((wi ((min (p0.length : Int) 8) - 1)) - m3_1)) v389) : Option ((List api_IdleDevice))).bind fun v327 => law28_Some.l3 p0 v11 k321 v327 (wi (m3_1 + 1))) else (some m3_0)
def law28_Some.f (p0 : List api_IdleDevice) : Option ((List api_IdleDevice)) := (law28_Some.l0 p0 FUEL [] 0 : Option ((List api_IdleDevice))).bind fun v11 => if ((Int.tmod (min (p0.length : Int) 8) 2) == 0) = true then (some v11) else ((mk (min (p0.length : Int) 8) (api_IdleDevice.mk 0 ([] : List Int) 0)).bind fun y306 => (law28_Some.l3 p0 v11 FUEL y306 0 : Option ((List api_IdleDevice))).bind fun v316 => some v316)
set_option maxRecDepth 100000 in
set_option maxHeartbeats 4000000 in
theorem law28_Some.calls {p0 : List api_IdleDevice} {A0 : Option Addr} {cap0 : Nat} {C0 : Nat → Prop} {w : World} {g : Nat → Nat} {out : (List api_IdleDevice)} (N : Nat) (r0 : Nat) (hp0 : RdS kd_api_IdleDevice w g C0 A0 cap0 p0) (hC0 : ∀ c, C0 c → c < N) (hr0 : r0 + 2 ≤ N) (H : law28_Some.f p0 = some out) :
    Calls Try.prog 17 #[.slice A0 p0.length cap0] w (fun e w' => ∃ v, e = .returned v ∧ ∃ (g' : Nat → Nat) (A_r0 : Option Addr) (cap_r0 : Nat), v = .slice A_r0 out.length cap_r0 ∧ OwS kd_api_IdleDevice 30 w' g' r0 A_r0 cap_r0 out ∧ Fr (fun q => (r0 ≤ q ∧ q < r0 + 2) ∨ N ≤ q) w g w' g') := by
  unfold law28_Some.f at H
  refine calls_enter Try.func17 rfl Try.ntmps17 rfl (fun a hS => ?_)
  replace hS : Sl 161 a [(0, .slice A0 p0.length cap0)] := hS
  have hF : Fr (fun q => (r0 ≤ q ∧ q < r0 + 2) ∨ N ≤ q) w g w g := Fr.refl _ _ _
  refine c_pure [(0, .slice A0 p0.length cap0)] (fun R hR => st_val hS rfl rfl rfl (r_assign hS rfl rfl) fun a1 hS1 => wpList_nil (hR _ (hS1.re ⟨rfl, trivial⟩))) ?_
  clear hS
  clear a
  intro a hS
  refine c_pure [(0, .slice A0 p0.length cap0), (3, .slice none 0 0)] (fun R hR => st_val hS rfl rfl rfl (r_assign hS rfl rfl) fun a2 hS2 => wpList_nil (hR _ (hS2.re ⟨rfl, rfl, trivial⟩))) ?_
  clear hS
  clear a
  intro a hS
  refine c_pure [(0, .slice A0 p0.length cap0), (3, .slice none 0 0), (4, .int .i64 (min (p0.length : Int) 8))] (fun R hR => st_val hS rfl rfl rfl (r_move hS rfl rfl) fun a3 hS3 => st_val hS3 rfl rfl rfl (r_len (e := 30) (sz := 3) (by_ := 40) hS3 rfl rfl (by kernel_rfl)) fun a4 hS4 => st_val hS4 rfl rfl rfl (r_min hS4 rfl rfl rfl) fun a5 hS5 => st_val hS5 rfl rfl rfl (r_assign hS5 rfl rfl) fun a6 hS6 => wpList_nil (hR _ (hS6.re ⟨rfl, rfl, rfl, trivial⟩))) ?_
  clear hS
  clear a
  intro a hS
  obtain ⟨v11, H, Hl13⟩ := bind_el H
  refine c_cut (fun a w7 => ∃ (g7 : Nat → Nat), ∃ (A8 : Option Addr), ∃ (cap9 : Nat), Sl 161 a [(3, .slice A8 v11.length cap9), (4, .int .i64 (min (p0.length : Int) 8))] ∧ OwS kd_api_IdleDevice 30 w7 g7 (N + 10) A8 cap9 v11 ∧ Fr (fun q => (r0 ≤ q ∧ q < r0 + 2) ∨ N ≤ q) w g w7 g7) ?_ ?_
  · refine c_pure [(0, .slice A0 p0.length cap0), (3, .slice none 0 0), (4, .int .i64 (min (p0.length : Int) 8)), (5, .int .i64 0)] (fun R hR => st_val hS rfl rfl rfl (r_assign hS rfl rfl) fun a14 hS14 => wpList_nil (hR _ (hS14.re ⟨rfl, rfl, rfl, rfl, trivial⟩))) ?_
    clear hS
    clear a
    intro a hS
    refine wp_block ?_
    refine wp_loop_ghost (fun kq => fun a w15 => ∃ (m0_0 : List api_IdleDevice), ∃ (m0_1 : Int), ∃ (g15 : Nat → Nat), ∃ (A16 : Option Addr), ∃ (cap17 : Nat), law28_Some.l0 p0 kq m0_0 m0_1 = some v11 ∧ Sl 161 a [(0, .slice A0 p0.length cap0), (3, .slice A16 m0_0.length cap17), (4, .int .i64 (min (p0.length : Int) 8)), (5, .int .i64 m0_1)] ∧ OwS kd_api_IdleDevice 30 w15 g15 (N + 10) A16 cap17 m0_0 ∧ RdS kd_api_IdleDevice w15 g15 C0 A0 cap0 p0 ∧ Fr (fun q => (r0 ≤ q ∧ q < r0 + 2) ∨ N ≤ q) w g w15 g15) FUEL ?_ ?_
    · exact ⟨[], 0, g, none, 0, H, hS.re ⟨rfl, rfl, rfl, rfl, trivial⟩, OwS.nil kd_api_IdleDevice 30 w g (N + 10), hp0, hF⟩
    · clear H
      clear hp0 hF
      clear hS
      rintro k19 a w15 ⟨m0_0, m0_1, g15, A16, cap17, hpre0, hS, h18, hp0, hF⟩
      have H := hpre0
      clear hpre0
      cases k19 with
      | zero => exact absurd H (by simp [law28_Some.l0])
      | succ k19 =>
        rw [law28_Some.l0] at H
        refine wp_seq ?_
        refine c_pure [(0, .slice A0 p0.length cap0), (3, .slice A16 m0_0.length cap17), (4, .int .i64 (min (p0.length : Int) 8)), (5, .int .i64 m0_1), (20, .bool (decide (m0_1 < (min (p0.length : Int) 8))))] (fun R hR => st_val hS rfl rfl rfl (r_move hS rfl rfl) fun a20 hS20 => st_val hS20 rfl rfl rfl (r_move hS20 rfl rfl) fun a21 hS21 => st_val hS21 rfl rfl rfl (r_bin hS21 rfl rfl rfl b_lss) fun a22 hS22 => wpList_nil (hR _ (hS22.re ⟨rfl, rfl, rfl, rfl, rfl, trivial⟩))) ?_
        clear hS
        clear a
        intro a hS
        refine c_cond hS rfl (fun hb23 => ?_) (fun hb23 => ?_)
        · replace H := ite_t hb23 H
          refine wp_skip ?_
          change Code.wp _ _ _ _ _
          obtain ⟨v28, H, Hl30⟩ := bind_el H
          refine c_cut (fun a w24 => ∃ (g24 : Nat → Nat), ∃ (A25 : Option Addr), ∃ (cap26 : Nat), Sl 161 a [(0, .slice A0 p0.length cap0), (3, .slice A25 v28.length cap26), (4, .int .i64 (min (p0.length : Int) 8)), (5, .int .i64 m0_1)] ∧ OwS kd_api_IdleDevice 30 w24 g24 (N + 10) A25 cap26 v28 ∧ RdS kd_api_IdleDevice w24 g24 C0 A0 cap0 p0 ∧ Fr (fun q => (r0 ≤ q ∧ q < r0 + 2) ∨ N ≤ q) w g w24 g24) ?_ ?_
          · refine wp_block ?_
            obtain ⟨x31, hx32, H⟩ := bind_el H
            obtain ⟨r39, hr40, H⟩ := bind_el H
            refine c_cut (fun a w86 => ∃ (g86 : Nat → Nat), ∃ (b87 : Nat), Sl 161 a [(0, .slice A0 p0.length cap0), (3, .slice A16 m0_0.length cap17), (4, .int .i64 (min (p0.length : Int) 8)), (5, .int .i64 m0_1), (6, .pointer (some ⟨b87, 0, none⟩))] ∧ OwS kd_api_IdleDevice 30 w86 g86 (N + 10) A16 cap17 m0_0 ∧ Bx w86 g86 (N + 0) b87 30 [.int .i64 (wi (r39 - 1)), .slice none 0 0, .int .u64 (Int.tmod x31.Delay 12)] ∧ RdS kd_api_IdleDevice w86 g86 C0 A0 cap0 p0 ∧ Fr (fun q => (r0 ≤ q ∧ q < r0 + 2) ∨ N ≤ q) w g w86 g86) (d_start (fun q => N + 20 ≤ q) g15 [17] 18 #[false, false, false, false, false, false, false, false, false, false, false, false, false, false, false, false, false, false] (by kernel_rfl) rfl rfl (fun w89 hw89 => ?_)) ?_
            · have F89 : Fr (fun _ => False) w15 g15 w89 g15 := by rw [hw89]; exact Fr.drew _ _ _
              replace h18 := OwS.fr h18 F89 (fun _ _ h => h)
              replace hp0 := RdS.fr hp0 F89 (by decide) (fun _ _ h => h)
              replace hF := hF.trans F89 (fun _ h => h.elim)
              have hC : Fr (fun q => N + 20 ≤ q) w89 g15 w89 g15 := Fr.refl _ _ _
              refine d_pure hS 0 #[true, false, false, false, false, false, false, false, false, false, false, false, false, false, false, false, false, false] rfl rfl rfl rfl (by kernel_rfl) (fun _ _ _ h => h) (fun _ => (r_move hS rfl rfl)) fun a90 hS90 => d_pure hS90 1 #[true, true, false, false, false, false, false, false, false, false, false, false, false, false, false, false, false, false] rfl rfl rfl rfl (by kernel_rfl) (fun _ _ _ h => h) (fun _ => (r_move hS90 rfl rfl)) fun a91 hS91 => ?_
              obtain ⟨_, ⟨A93, cap94, rfl, h95⟩, hel92⟩ := El.of hp0 hx32 (by decide)
              replace hel92 : El w89 g15 C0 A0 (m0_1.toNat * 3) [.int .i64 x31.Parent, .slice A93 x31.Suppliers.length cap94, .int .u64 x31.Delay] := hel92
              refine d_pure hS91 2 #[true, true, true, false, false, false, false, false, false, false, false, false, false, false, false, false, false, false] rfl rfl rfl rfl (by kernel_rfl) (fun _ _ _ h => h) (fun _ => (r_index (e := 30) (sz := 3) (by_ := 40) hS91 rfl rfl rfl (by kernel_rfl) (RdS.some_ hp0 hx32) (idx_lo hx32) (idx_hi hx32))) fun a98 hS98 => d_pure hS98 3 #[true, true, true, true, false, false, false, false, false, false, false, false, false, false, false, false, false, false] rfl rfl rfl rfl (by kernel_rfl) (fun _ _ _ h => h) (fun _ => (r_fieldE (off := 0) hS98 rfl rfl (by kernel_rfl))) fun a99 hS99 => d_take hS99 4 #[true, true, true, true, true, false, false, false, false, false, false, false, false, false, false, false, false, false] rfl rfl rfl rfl (by kernel_rfl) (fun _ _ _ h => h) ⟨_, hC⟩ (fun w' g' Fz => (r_load1 (n := 1) hS99 rfl rfl (by kernel_rfl) (El.cell (j := 0) (hel92.fr Fz (fun q (hq : C0 q) (hm : N + 20 ≤ q) => by have := hC0 q hq; omega)) rfl))) fun a100 hS100 => d_pure hS100 5 #[true, true, true, true, true, true, false, false, false, false, false, false, false, false, false, false, false, false] rfl rfl rfl rfl (by kernel_rfl) (fun _ _ _ h => h) (fun _ => (r_move hS100 rfl rfl)) fun a101 hS101 => d_pure hS101 6 #[true, true, true, true, true, true, true, false, false, false, false, false, false, false, false, false, false, false] rfl rfl rfl rfl (by kernel_rfl) (fun _ _ _ h => h) (fun _ => (r_bin hS101 rfl rfl rfl b_add)) fun a102 hS102 => d_pure hS102 9 #[true, true, true, true, true, true, true, false, false, true, false, false, false, false, false, false, false, false] rfl rfl rfl rfl (by kernel_rfl) (fun _ _ _ h => h) (fun _ => (r_move hS102 rfl rfl)) fun a103 hS103 => d_pure hS103 10 #[true, true, true, true, true, true, true, false, false, true, true, false, false, false, false, false, false, false] rfl rfl rfl rfl (by kernel_rfl) (fun _ _ _ h => h) (fun _ => (r_move hS103 rfl rfl)) fun a104 hS104 => d_pure hS104 11 #[true, true, true, true, true, true, true, false, false, true, true, true, false, false, false, false, false, false] rfl rfl rfl rfl (by kernel_rfl) (fun _ _ _ h => h) (fun _ => (r_index (e := 30) (sz := 3) (by_ := 40) hS104 rfl rfl rfl (by kernel_rfl) (RdS.some_ hp0 hx32) (idx_lo hx32) (idx_hi hx32))) fun a105 hS105 => d_pure hS105 12 #[true, true, true, true, true, true, true, false, false, true, true, true, true, false, false, false, false, false] rfl rfl rfl rfl (by kernel_rfl) (fun _ _ _ h => h) (fun _ => (r_fieldE (off := 2) hS105 rfl rfl (by kernel_rfl))) fun a106 hS106 => d_take hS106 13 #[true, true, true, true, true, true, true, false, false, true, true, true, true, true, false, false, false, false] rfl rfl rfl rfl (by kernel_rfl) (fun _ _ _ h => h) ⟨_, hC⟩ (fun w' g' Fz => (r_load1 (n := 1) hS106 rfl rfl (by kernel_rfl) (El.cell (j := 2) (hel92.fr Fz (fun q (hq : C0 q) (hm : N + 20 ≤ q) => by have := hC0 q hq; omega)) rfl))) fun a107 hS107 => d_pure hS107 14 #[true, true, true, true, true, true, true, false, false, true, true, true, true, true, true, false, false, false] rfl rfl rfl rfl (by kernel_rfl) (fun _ _ _ h => h) (fun _ => (r_bin hS107 rfl rfl rfl (b_rem (by decide)))) fun a108 hS108 => ?_
              refine d_two 7 16 #[true, true, true, true, true, true, true, true, false, true, true, true, true, true, true, false, false, false] #[true, true, true, true, true, true, true, false, false, true, true, true, true, true, true, false, true, false] rfl rfl (by kernel_rfl) (arm_call hS108 rfl rfl rfl (r_call hS108 rfl rfl (by kernel_rfl)) (help_Mod.calls (p0 := x31.Parent) (p1 := (wi (m0_1 + 1))) (g := g15) (N + 20)   hr40) (fun _ _ ⟨g', _, Fz⟩ _ => ⟨g', hC.trans Fz (fun c' (hm : N + 20 ≤ c') => by show N + 20 ≤ c'; omega)⟩) ?_) (arm_eff hS108 rfl rfl rfl (e_alloc (cs := [.int .i64 0, .slice none 0 0, .int .u64 0]) (N + 0) g15 hS108 rfl (by kernel_rfl)) (fun _ _ g' hR _ => ⟨g', hC.trans hR.2 (fun _ h => h.elim)⟩) ?_)
              · rintro _ a109 w110 ⟨g110, rfl, F110⟩ hS109
                have hC110 := hC.trans F110 (fun c' (hm : N + 20 ≤ c') => by show N + 20 ≤ c'; omega)
                replace h95 := RdS.fr h95 F110 (by decide) (fun q (hq : C0 q) (hm : N + 20 ≤ q) => by have := hC0 q hq; omega)
                replace hel92 := hel92.fr F110 (fun q (hq : C0 q) (hm : N + 20 ≤ q) => by have := hC0 q hq; omega)
                replace h18 := OwS.fr h18 F110 (fun c' hc (hm : N + 20 ≤ c') => by omega)
                replace hp0 := RdS.fr hp0 F110 (by decide) (fun q (hq : C0 q) (hm : N + 20 ≤ q) => by have := hC0 q hq; omega)
                replace hF := hF.trans F110 (fun c' (hm : N + 20 ≤ c') => by show (r0 ≤ c' ∧ c' < r0 + 2) ∨ N ≤ c'; omega)
                refine d_pure hS109 8 #[true, true, true, true, true, true, true, true, true, true, true, true, true, true, true, false, false, false] rfl rfl rfl rfl (by kernel_rfl) (fun _ _ _ h => h) (fun _ => (r_bin hS109 rfl rfl rfl b_sub)) fun a111 hS111 => d_pure hS111 15 #[true, true, true, true, true, true, true, true, true, true, true, true, true, true, true, true, false, false] rfl rfl rfl rfl (by kernel_rfl) (fun _ _ _ h => h) (fun _ => (r_build (parts := [(0, .int .i64 (wi (r39 - 1))), (2, .int .u64 (Int.tmod x31.Delay 12))]) (u := .agg #[.int .i64 (wi (r39 - 1)), .slice none 0 0, .int .u64 (Int.tmod x31.Delay 12)]) hS111 rfl rfl (fun _ => by kernel_rfl))) fun a112 hS112 => ?_
                refine d_one 16 #[true, true, true, true, true, true, true, true, true, true, true, true, true, true, true, true, true, false] rfl (by kernel_rfl) (arm_eff hS112 rfl rfl rfl (e_alloc (cs := [.int .i64 0, .slice none 0 0, .int .u64 0]) (N + 0) g110 hS112 rfl (by kernel_rfl)) (fun _ _ g' hR _ => ⟨g', hC110.trans hR.2 (fun _ h => h.elim)⟩) ?_)
                rintro _ a116 w117 g117 ⟨⟨b113, rfl, h114⟩, F117⟩ hS116
                have hC117 := hC110.trans F117 (fun _ h => h.elim)
                replace h95 := RdS.fr h95 F117 (by decide) (fun _ _ h => h)
                replace hel92 := hel92.fr F117 (fun _ _ h => h)
                replace h18 := OwS.fr h18 F117 (fun _ _ h => h)
                replace hp0 := RdS.fr hp0 F117 (by decide) (fun _ _ h => h)
                replace hF := hF.trans F117 (fun _ h => h.elim)
                refine d_one 17 #[true, true, true, true, true, true, true, true, true, true, true, true, true, true, true, true, true, true] rfl (by kernel_rfl) (arm_effS hS116 rfl rfl (e_storeB (n := 3) (bb := true) (cs' := [.int .i64 (wi (r39 - 1)), .slice none 0 0, .int .u64 (Int.tmod x31.Delay 12)]) g117 hS116 rfl rfl rfl (by kernel_rfl) rfl rfl rfl h114 rfl rfl) (.inl (by decide)) ?_)
                rintro a118 w119 g119 ⟨h114, F119⟩ hS118
                replace h95 := RdS.fr h95 F119 (by decide) (fun q (hq : C0 q) (hm : q = N + 0) => by have := hC0 q hq; omega)
                replace hel92 := hel92.fr F119 (fun q (hq : C0 q) (hm : q = N + 0) => by have := hC0 q hq; omega)
                replace h18 := OwS.fr h18 F119 (fun c' hc (hm : c' = N + 0) => by omega)
                replace hp0 := RdS.fr hp0 F119 (by decide) (fun q (hq : C0 q) (hm : q = N + 0) => by have := hC0 q hq; omega)
                replace hF := hF.trans F119 (fun c' (hm : c' = N + 0) => by show (r0 ≤ c' ∧ c' < r0 + 2) ∨ N ≤ c'; omega)
                refine d_done (by kernel_rfl) ?_
                exact ⟨g119, b113, hS118.re ⟨rfl, rfl, rfl, rfl, rfl, trivial⟩, h18, h114, hp0, hF⟩
              · rintro _ a123 w124 g124 ⟨⟨b120, rfl, h121⟩, F124⟩ hS123
                have hC124 := hC.trans F124 (fun _ h => h.elim)
                replace h95 := RdS.fr h95 F124 (by decide) (fun _ _ h => h)
                replace hel92 := hel92.fr F124 (fun _ _ h => h)
                replace h18 := OwS.fr h18 F124 (fun _ _ h => h)
                replace hp0 := RdS.fr hp0 F124 (by decide) (fun _ _ h => h)
                replace hF := hF.trans F124 (fun _ h => h.elim)
                refine d_one 7 #[true, true, true, true, true, true, true, true, false, true, true, true, true, true, true, false, true, false] rfl (by kernel_rfl) (arm_call hS123 rfl rfl rfl (r_call hS123 rfl rfl (by kernel_rfl)) (help_Mod.calls (p0 := x31.Parent) (p1 := (wi (m0_1 + 1))) (g := g124) (N + 20)   hr40) (fun _ _ ⟨g', _, Fz⟩ _ => ⟨g', hC124.trans Fz (fun c' (hm : N + 20 ≤ c') => by show N + 20 ≤ c'; omega)⟩) ?_)
                rintro _ a125 w126 ⟨g126, rfl, F126⟩ hS125
                have hC126 := hC124.trans F126 (fun c' (hm : N + 20 ≤ c') => by show N + 20 ≤ c'; omega)
                replace h121 := h121.fr F126 (fun (hm : N + 20 ≤ N + 0) => by omega)
                replace h95 := RdS.fr h95 F126 (by decide) (fun q (hq : C0 q) (hm : N + 20 ≤ q) => by have := hC0 q hq; omega)
                replace hel92 := hel92.fr F126 (fun q (hq : C0 q) (hm : N + 20 ≤ q) => by have := hC0 q hq; omega)
                replace h18 := OwS.fr h18 F126 (fun c' hc (hm : N + 20 ≤ c') => by omega)
                replace hp0 := RdS.fr hp0 F126 (by decide) (fun q (hq : C0 q) (hm : N + 20 ≤ q) => by have := hC0 q hq; omega)
                replace hF := hF.trans F126 (fun c' (hm : N + 20 ≤ c') => by show (r0 ≤ c' ∧ c' < r0 + 2) ∨ N ≤ c'; omega)
                refine d_pure hS125 8 #[true, true, true, true, true, true, true, true, true, true, true, true, true, true, true, false, true, false] rfl rfl rfl rfl (by kernel_rfl) (fun _ _ _ h => h) (fun _ => (r_bin hS125 rfl rfl rfl b_sub)) fun a127 hS127 => d_pure hS127 15 #[true, true, true, true, true, true, true, true, true, true, true, true, true, true, true, true, true, false] rfl rfl rfl rfl (by kernel_rfl) (fun _ _ _ h => h) (fun _ => (r_build (parts := [(0, .int .i64 (wi (r39 - 1))), (2, .int .u64 (Int.tmod x31.Delay 12))]) (u := .agg #[.int .i64 (wi (r39 - 1)), .slice none 0 0, .int .u64 (Int.tmod x31.Delay 12)]) hS127 rfl rfl (fun _ => by kernel_rfl))) fun a128 hS128 => ?_
                refine d_one 17 #[true, true, true, true, true, true, true, true, true, true, true, true, true, true, true, true, true, true] rfl (by kernel_rfl) (arm_effS hS128 rfl rfl (e_storeB (n := 3) (bb := true) (cs' := [.int .i64 (wi (r39 - 1)), .slice none 0 0, .int .u64 (Int.tmod x31.Delay 12)]) g126 hS128 rfl rfl rfl (by kernel_rfl) rfl rfl rfl h121 rfl rfl) (.inl (by decide)) ?_)
                rintro a129 w130 g130 ⟨h121, F130⟩ hS129
                replace h95 := RdS.fr h95 F130 (by decide) (fun q (hq : C0 q) (hm : q = N + 0) => by have := hC0 q hq; omega)
                replace hel92 := hel92.fr F130 (fun q (hq : C0 q) (hm : q = N + 0) => by have := hC0 q hq; omega)
                replace h18 := OwS.fr h18 F130 (fun c' hc (hm : c' = N + 0) => by omega)
                replace hp0 := RdS.fr hp0 F130 (by decide) (fun q (hq : C0 q) (hm : q = N + 0) => by have := hC0 q hq; omega)
                replace hF := hF.trans F130 (fun c' (hm : c' = N + 0) => by show (r0 ≤ c' ∧ c' < r0 + 2) ∨ N ≤ c'; omega)
                refine d_done (by kernel_rfl) ?_
                exact ⟨g130, b120, hS129.re ⟨rfl, rfl, rfl, rfl, rfl, trivial⟩, h18, h121, hp0, hF⟩
            clear hp0 h18 hF
            clear hS
            rintro a w86 ⟨g86, b87, hS, h18, h88, hp0, hF⟩
            obtain ⟨v135, H, Hl137⟩ := bind_el H
            refine c_cut (fun a w131 => ∃ (g131 : Nat → Nat), ∃ (A132 : Option Addr), ∃ (cap133 : Nat), Sl 161 a [(0, .slice A0 p0.length cap0), (3, .slice A16 m0_0.length cap17), (4, .int .i64 (min (p0.length : Int) 8)), (5, .int .i64 m0_1), (6, .pointer (some ⟨b87, 0, none⟩))] ∧ OwS (kint .i64) 3 w131 g131 (N + 6) A132 cap133 v135.Suppliers ∧ OwS kd_api_IdleDevice 30 w131 g131 (N + 10) A16 cap17 m0_0 ∧ Bx w131 g131 (N + 0) b87 30 [.int .i64 v135.Parent, .slice A132 v135.Suppliers.length cap133, .int .u64 v135.Delay] ∧ RdS kd_api_IdleDevice w131 g131 C0 A0 cap0 p0 ∧ Fr (fun q => (r0 ≤ q ∧ q < r0 + 2) ∨ N ≤ q) w g w131 g131) ?_ ?_
            · refine c_pure [(0, .slice A0 p0.length cap0), (3, .slice A16 m0_0.length cap17), (4, .int .i64 (min (p0.length : Int) 8)), (5, .int .i64 m0_1), (6, .pointer (some ⟨b87, 0, none⟩)), (7, .int .i64 0)] (fun R hR => st_val hS rfl rfl rfl (r_assign hS rfl rfl) fun a138 hS138 => wpList_nil (hR _ (hS138.re ⟨rfl, rfl, rfl, rfl, rfl, rfl, trivial⟩))) ?_
              clear hS
              clear a
              intro a hS
              refine wp_block ?_
              refine wp_loop_ghost (fun kq => fun a w139 => ∃ (m1_0 : api_IdleDevice), ∃ (m1_1 : Int), ∃ (g139 : Nat → Nat), ∃ (A140 : Option Addr), ∃ (cap141 : Nat), law28_Some.l1 m0_1 x31 kq m1_0 m1_1 = some v135 ∧ Sl 161 a [(0, .slice A0 p0.length cap0), (3, .slice A16 m0_0.length cap17), (4, .int .i64 (min (p0.length : Int) 8)), (5, .int .i64 m0_1), (6, .pointer (some ⟨b87, 0, none⟩)), (7, .int .i64 m1_1)] ∧ OwS (kint .i64) 3 w139 g139 (N + 6) A140 cap141 m1_0.Suppliers ∧ OwS kd_api_IdleDevice 30 w139 g139 (N + 10) A16 cap17 m0_0 ∧ Bx w139 g139 (N + 0) b87 30 [.int .i64 m1_0.Parent, .slice A140 m1_0.Suppliers.length cap141, .int .u64 m1_0.Delay] ∧ RdS kd_api_IdleDevice w139 g139 C0 A0 cap0 p0 ∧ Fr (fun q => (r0 ≤ q ∧ q < r0 + 2) ∨ N ≤ q) w g w139 g139) FUEL ?_ ?_
              · exact ⟨(api_IdleDevice.mk (wi (r39 - 1)) ([] : List Int) (Int.tmod x31.Delay 12)), 0, g86, none, 0, H, hS.re ⟨rfl, rfl, rfl, rfl, rfl, rfl, trivial⟩, OwS.nil (kint .i64) 3 w86 g86 (N + 6), h18, h88, hp0, hF⟩
              · clear H
                clear hp0 h18 h88 hF
                clear hS
                rintro k143 a w139 ⟨m1_0, m1_1, g139, A140, cap141, hpre0, hS, h142, h18, h88, hp0, hF⟩
                have H := hpre0
                clear hpre0
                cases k143 with
                | zero => exact absurd H (by simp [law28_Some.l1])
                | succ k143 =>
                  rw [law28_Some.l1] at H
                  refine wp_seq ?_
                  refine c_region (fun K hK => ?_)
                  refine st_val hS rfl rfl rfl (r_move hS rfl rfl) fun a144 hS144 => st_val hS144 rfl rfl rfl (r_move hS144 rfl rfl) fun a145 hS145 => st_val hS145 rfl rfl rfl (r_move hS145 rfl rfl) fun a146 hS146 => ?_
                  obtain ⟨_, ⟨A148, cap149, rfl, h150⟩, hel147⟩ := El.of hp0 hx32 (by decide)
                  replace hel147 : El w139 g139 C0 A0 (m0_1.toNat * 3) [.int .i64 x31.Parent, .slice A148 x31.Suppliers.length cap149, .int .u64 x31.Delay] := hel147
                  refine st_val hS146 rfl rfl rfl (r_index (e := 30) (sz := 3) (by_ := 40) hS146 rfl rfl rfl (by kernel_rfl) (RdS.some_ hp0 hx32) (idx_lo hx32) (idx_hi hx32)) fun a153 hS153 => st_val hS153 rfl rfl rfl (r_fieldE (off := 1) hS153 rfl rfl (by kernel_rfl)) fun a154 hS154 => st_val hS154 rfl rfl rfl (r_load1 (n := 1) hS154 rfl rfl (by kernel_rfl) (El.cell (j := 1) hel147 rfl)) fun a155 hS155 => st_val hS155 rfl rfl rfl (r_len (e := 3) (sz := 1) (by_ := 8) hS155 rfl rfl (by kernel_rfl)) fun a156 hS156 => st_val hS156 rfl rfl rfl (r_bin hS156 rfl rfl rfl b_lss) fun a157 hS157 => st_val hS157 rfl rfl rfl (r_move hS157 rfl rfl) fun a158 hS158 => ?_
                  refine g_join (N := 161) 3 [(0, .slice A0 p0.length cap0), (3, .slice A16 m0_0.length cap17), (4, .int .i64 (min (p0.length : Int) 8)), (5, .int .i64 m0_1), (6, .pointer (some ⟨b87, 0, none⟩)), (7, .int .i64 m1_1), (50, .bool ((decide (m1_1 < (x31.Suppliers.length : Int))) && (decide (0 < m0_1))))] ?_ (fun hk => ?_)
                  rotate_left
                  · rcases Bool.eq_false_or_eq_true (decide (m1_1 < (x31.Suppliers.length : Int))) with hb159 | hb159
                    · refine st_valW hS158 (want_on hS158 rfl rfl rfl hb159) rfl rfl (r_move hS158 rfl rfl) fun a162 hS162 => st_valW hS162 (want_on hS162 rfl rfl rfl hb159) rfl rfl (r_bin hS162 rfl rfl rfl b_gtr) fun a163 hS163 => st_val hS163 rfl rfl rfl (r_pickT hS163 rfl rfl rfl hb159) fun a164 hS164 => hk _ (hS164.re ⟨rfl, rfl, rfl, rfl, rfl, rfl, (by rw [hb159]; rfl), trivial⟩)
                    · refine st_off hS158 (want_off hS158 rfl rfl rfl hb159) rfl rfl fun a165 hS165 => st_off hS165 (want_off hS165 rfl rfl rfl hb159) rfl rfl fun a166 hS166 => st_val hS166 rfl rfl rfl (r_pickF hS166 rfl rfl rfl hb159) fun a167 hS167 => hk _ (hS167.re ⟨rfl, rfl, rfl, rfl, rfl, rfl, (by rw [hb159]; rfl), trivial⟩)
                  intro a168 hS168
                  refine wpList_nil (hK _ _ ?_)
                  replace hS : Sl 161 _ [(0, .slice A0 p0.length cap0), (3, .slice A16 m0_0.length cap17), (4, .int .i64 (min (p0.length : Int) 8)), (5, .int .i64 m0_1), (6, .pointer (some ⟨b87, 0, none⟩)), (7, .int .i64 m1_1), (50, .bool ((decide (m1_1 < (x31.Suppliers.length : Int))) && (decide (0 < m0_1))))] := hS168.re ⟨rfl, rfl, rfl, rfl, rfl, rfl, rfl, trivial⟩
                  clear hK K
                  try clear hS144 hS145 hS146 hS153 hS154 hS155 hS156 hS157 hS158 hS168
                  obtain ⟨a, ha⟩ : ∃ a', a' = a168 := ⟨_, rfl⟩
                  rw [← ha] at hS ⊢; clear ha
                  refine c_cond hS rfl (fun hb169 => ?_) (fun hb169 => ?_)
                  · replace H := ite_t hb169 H
                    refine wp_skip ?_
                    change Code.wp _ _ _ _ _
                    obtain ⟨v174, H, Hl176⟩ := bind_el H
                    refine c_cut (fun a w170 => ∃ (g170 : Nat → Nat), ∃ (A171 : Option Addr), ∃ (cap172 : Nat), Sl 161 a [(0, .slice A0 p0.length cap0), (3, .slice A16 m0_0.length cap17), (4, .int .i64 (min (p0.length : Int) 8)), (5, .int .i64 m0_1), (6, .pointer (some ⟨b87, 0, none⟩)), (7, .int .i64 m1_1)] ∧ OwS (kint .i64) 3 w170 g170 (N + 6) A171 cap172 v174.Suppliers ∧ OwS kd_api_IdleDevice 30 w170 g170 (N + 10) A16 cap17 m0_0 ∧ Bx w170 g170 (N + 0) b87 30 [.int .i64 v174.Parent, .slice A171 v174.Suppliers.length cap172, .int .u64 v174.Delay] ∧ RdS kd_api_IdleDevice w170 g170 C0 A0 cap0 p0 ∧ Fr (fun q => (r0 ≤ q ∧ q < r0 + 2) ∨ N ≤ q) w g w170 g170) ?_ ?_
                    · refine wp_block ?_
                      obtain ⟨x189, hx190, H⟩ := bind_el H
                      obtain ⟨r194, hr195, H⟩ := bind_el H
                      refine c_region (fun K hK => ?_)
                      refine st_val hS rfl rfl rfl (r_move hS rfl rfl) fun a177 hS177 => st_val hS177 rfl rfl rfl (r_move hS177 rfl rfl) fun a178 hS178 => ?_
                      obtain ⟨_, ⟨A180, cap181, rfl, h182⟩, hel179⟩ := El.of hp0 hx32 (by decide)
                      replace hel179 : El w139 g139 C0 A0 (m0_1.toNat * 3) [.int .i64 x31.Parent, .slice A180 x31.Suppliers.length cap181, .int .u64 x31.Delay] := hel179
                      refine st_val hS178 rfl rfl rfl (r_index (e := 30) (sz := 3) (by_ := 40) hS178 rfl rfl rfl (by kernel_rfl) (RdS.some_ hp0 hx32) (idx_lo hx32) (idx_hi hx32)) fun a185 hS185 => st_val hS185 rfl rfl rfl (r_fieldE (off := 1) hS185 rfl rfl (by kernel_rfl)) fun a186 hS186 => st_val hS186 rfl rfl rfl (r_load1 (n := 1) hS186 rfl rfl (by kernel_rfl) (El.cell (j := 1) hel179 rfl)) fun a187 hS187 => st_val hS187 rfl rfl rfl (r_move hS187 rfl rfl) fun a188 hS188 => st_val hS188 rfl rfl rfl (r_index (e := 3) (sz := 1) (by_ := 8) hS188 rfl rfl rfl (by kernel_rfl) (RdS.some_ h182 hx190) (idx_lo hx190) (idx_hi hx190)) fun a191 hS191 => st_val hS191 rfl rfl rfl (r_load1 (n := 1) hS191 rfl rfl (by kernel_rfl) (RdS.cell (i := m1_1) (sz := 1) (j := 0) h182 hx190 rfl)) fun a192 hS192 => st_val hS192 rfl rfl rfl (r_move hS192 rfl rfl) fun a193 hS193 => ?_
                      refine st_enter hS193 rfl rfl rfl (r_call hS193 rfl rfl (by kernel_rfl)) (help_Mod.calls (p0 := x189) (p1 := m0_1) (g := g139) (N + 20)   hr195) ?_
                      rintro _ a196 w197 ⟨g197, rfl, F197⟩ hS196
                      replace h182 := RdS.fr h182 F197 (by decide) (fun q (hq : C0 q) (hm : N + 20 ≤ q) => by have := hC0 q hq; omega)
                      replace hel179 := hel179.fr F197 (fun q (hq : C0 q) (hm : N + 20 ≤ q) => by have := hC0 q hq; omega)
                      replace h142 := OwS.fr h142 F197 (fun c' hc (hm : N + 20 ≤ c') => by omega)
                      replace h18 := OwS.fr h18 F197 (fun c' hc (hm : N + 20 ≤ c') => by omega)
                      replace h88 := h88.fr F197 (fun (hm : N + 20 ≤ N + 0) => by omega)
                      replace hp0 := RdS.fr hp0 F197 (by decide) (fun q (hq : C0 q) (hm : N + 20 ≤ q) => by have := hC0 q hq; omega)
                      replace hF := hF.trans F197 (fun c' (hm : N + 20 ≤ c') => by show (r0 ≤ c' ∧ c' < r0 + 2) ∨ N ≤ c'; omega)
                      refine st_val hS196 rfl rfl rfl (r_assign hS196 rfl rfl) fun a198 hS198 => wpList_nil (hK _ _ ?_)
                      replace hS : Sl 161 _ [(0, .slice A0 p0.length cap0), (3, .slice A16 m0_0.length cap17), (4, .int .i64 (min (p0.length : Int) 8)), (5, .int .i64 m0_1), (6, .pointer (some ⟨b87, 0, none⟩)), (7, .int .i64 m1_1), (8, .int .i64 r194)] := hS198.re ⟨rfl, rfl, rfl, rfl, rfl, rfl, rfl, trivial⟩
                      clear hK K
                      try clear hS177 hS178 hS185 hS186 hS187 hS188 hS191 hS192 hS193 hS196 hS198
                      obtain ⟨a, ha⟩ : ∃ a', a' = a198 := ⟨_, rfl⟩
                      rw [← ha] at hS ⊢; clear ha
                      refine c_pure [(0, .slice A0 p0.length cap0), (3, .slice A16 m0_0.length cap17), (4, .int .i64 (min (p0.length : Int) 8)), (5, .int .i64 m0_1), (6, .pointer (some ⟨b87, 0, none⟩)), (7, .int .i64 m1_1), (8, .int .i64 r194), (9, .bool (r194 != m1_0.Parent))] (fun R hR => st_val hS rfl rfl rfl (r_move hS rfl rfl) fun a199 hS199 => st_val hS199 rfl rfl rfl (r_fieldB (off := 0) hS199 rfl rfl (by kernel_rfl)) fun a200 hS200 => st_val hS200 rfl rfl rfl (r_load1 (n := 1) hS200 rfl rfl (by kernel_rfl) (Bx.cell h88 rfl)) fun a201 hS201 => st_val hS201 rfl rfl rfl (r_bin hS201 rfl rfl rfl b_neq) fun a202 hS202 => st_val hS202 rfl rfl rfl (r_assign hS202 rfl rfl) fun a203 hS203 => wpList_nil (hR _ (hS203.re ⟨rfl, rfl, rfl, rfl, rfl, rfl, rfl, rfl, trivial⟩))) ?_
                      clear hS
                      clear a
                      intro a hS
                      obtain ⟨v204, H, Hl206⟩ := bind_el H
                      refine c_cut (fun a w' => w197 = w' ∧ Sl 161 a [(0, .slice A0 p0.length cap0), (3, .slice A16 m0_0.length cap17), (4, .int .i64 (min (p0.length : Int) 8)), (5, .int .i64 m0_1), (6, .pointer (some ⟨b87, 0, none⟩)), (7, .int .i64 m1_1), (8, .int .i64 r194), (9, .bool v204)]) ?_ ?_
                      · refine c_pure [(0, .slice A0 p0.length cap0), (3, .slice A16 m0_0.length cap17), (4, .int .i64 (min (p0.length : Int) 8)), (5, .int .i64 m0_1), (6, .pointer (some ⟨b87, 0, none⟩)), (7, .int .i64 m1_1), (8, .int .i64 r194), (9, .bool (r194 != m1_0.Parent)), (10, .int .i64 0)] (fun R hR => st_val hS rfl rfl rfl (r_assign hS rfl rfl) fun a207 hS207 => wpList_nil (hR _ (hS207.re ⟨rfl, rfl, rfl, rfl, rfl, rfl, rfl, rfl, rfl, trivial⟩))) ?_
                        clear hS
                        clear a
                        intro a hS
                        refine wp_block ?_
                        refine wp_loop_ghost (fun kq => fun a w' => ∃ (m2_0 : Bool), ∃ (m2_1 : Int), law28_Some.l2 m1_0 r194 kq m2_0 m2_1 = some v204 ∧ w197 = w' ∧ Sl 161 a [(0, .slice A0 p0.length cap0), (3, .slice A16 m0_0.length cap17), (4, .int .i64 (min (p0.length : Int) 8)), (5, .int .i64 m0_1), (6, .pointer (some ⟨b87, 0, none⟩)), (7, .int .i64 m1_1), (8, .int .i64 r194), (9, .bool m2_0), (10, .int .i64 m2_1)]) FUEL ?_ ?_
                        · exact ⟨(r194 != m1_0.Parent), 0, H, rfl, hS.re ⟨rfl, rfl, rfl, rfl, rfl, rfl, rfl, rfl, rfl, trivial⟩⟩
                        · clear H
                          clear hS
                          rintro k208 a w' ⟨m2_0, m2_1, hpre0, hw, hS⟩
                          subst hw
                          have H := hpre0
                          clear hpre0
                          cases k208 with
                          | zero => exact absurd H (by simp [law28_Some.l2])
                          | succ k208 =>
                            rw [law28_Some.l2] at H
                            refine wp_seq ?_
                            refine c_pure [(0, .slice A0 p0.length cap0), (3, .slice A16 m0_0.length cap17), (4, .int .i64 (min (p0.length : Int) 8)), (5, .int .i64 m0_1), (6, .pointer (some ⟨b87, 0, none⟩)), (7, .int .i64 m1_1), (8, .int .i64 r194), (9, .bool m2_0), (10, .int .i64 m2_1), (71, .bool (decide (m2_1 < (m1_0.Suppliers.length : Int))))] (fun R hR => st_val hS rfl rfl rfl (r_move hS rfl rfl) fun a209 hS209 => st_val hS209 rfl rfl rfl (r_fieldB (off := 1) hS209 rfl rfl (by kernel_rfl)) fun a210 hS210 => st_val hS210 rfl rfl rfl (r_load1 (n := 1) hS210 rfl rfl (by kernel_rfl) (Bx.cell h88 rfl)) fun a211 hS211 => st_val hS211 rfl rfl rfl (r_len (e := 3) (sz := 1) (by_ := 8) hS211 rfl rfl (by kernel_rfl)) fun a212 hS212 => st_val hS212 rfl rfl rfl (r_bin hS212 rfl rfl rfl b_lss) fun a213 hS213 => wpList_nil (hR _ (hS213.re ⟨rfl, rfl, rfl, rfl, rfl, rfl, rfl, rfl, rfl, rfl, trivial⟩))) ?_
                            clear hS
                            clear a
                            intro a hS
                            refine c_cond hS rfl (fun hb214 => ?_) (fun hb214 => ?_)
                            · replace H := ite_t hb214 H
                              refine wp_skip ?_
                              change Code.wp _ _ _ _ _
                              refine wp_seq ?_
                              refine wp_block ?_
                              obtain ⟨t227, ht228, H⟩ := bind_el H
                              refine c_region1 (fun K hK => ?_)
                              refine st_val hS rfl rfl rfl (r_move hS rfl rfl) fun a215 hS215 => st_val hS215 rfl rfl rfl (r_move hS215 rfl rfl) fun a216 hS216 => ?_
                              refine g_join (N := 161) 8 [(0, .slice A0 p0.length cap0), (3, .slice A16 m0_0.length cap17), (4, .int .i64 (min (p0.length : Int) 8)), (5, .int .i64 m0_1), (6, .pointer (some ⟨b87, 0, none⟩)), (7, .int .i64 m1_1), (8, .int .i64 r194), (9, .bool m2_0), (10, .int .i64 m2_1), (83, .bool t227)] ?_ (fun hk => ?_)
                              rotate_left
                              · rcases Bool.eq_false_or_eq_true (m2_0) with hb217 | hb217
                                · have H := ite_t hb217 ht228
                                  obtain ⟨x232, hx233, H⟩ := bind_el H
                                  have e238 := Option.some.inj H
                                  refine st_valW hS216 (want_on hS216 rfl rfl rfl hb217) rfl rfl (r_fieldB (off := 1) hS216 rfl rfl (by kernel_rfl)) fun a229 hS229 => st_valW hS229 (want_on hS229 rfl rfl rfl hb217) rfl rfl (r_load1 (n := 1) hS229 rfl rfl (by kernel_rfl) (Bx.cell h88 rfl)) fun a230 hS230 => st_valW hS230 (want_on hS230 rfl rfl rfl hb217) rfl rfl (r_move hS230 rfl rfl) fun a231 hS231 => st_valW hS231 (want_on hS231 rfl rfl rfl hb217) rfl rfl (r_index (e := 3) (sz := 1) (by_ := 8) hS231 rfl rfl rfl (by kernel_rfl) (RdS.some_ (OwS.rd h142) hx233) (idx_lo hx233) (idx_hi hx233)) fun a234 hS234 => st_valW hS234 (want_on hS234 rfl rfl rfl hb217) rfl rfl (r_load1 (n := 1) hS234 rfl rfl (by kernel_rfl) (RdS.cell (i := m2_1) (sz := 1) (j := 0) (OwS.rd h142) hx233 rfl)) fun a235 hS235 => st_valW hS235 (want_on hS235 rfl rfl rfl hb217) rfl rfl (r_move hS235 rfl rfl) fun a236 hS236 => st_valW hS236 (want_on hS236 rfl rfl rfl hb217) rfl rfl (r_bin hS236 rfl rfl rfl b_neq) fun a237 hS237 => st_val hS237 rfl rfl rfl (r_pickT hS237 rfl rfl rfl hb217) fun a239 hS239 => hk _ (hS239.re ⟨rfl, rfl, rfl, rfl, rfl, rfl, rfl, rfl, rfl, (by rw [← e238]; rfl), trivial⟩)
                                · have H := ite_f hb217 ht228
                                  have e240 := Option.some.inj H
                                  refine st_off hS216 (want_off hS216 rfl rfl rfl hb217) rfl rfl fun a241 hS241 => st_off hS241 (want_off hS241 rfl rfl rfl hb217) rfl rfl fun a242 hS242 => st_off hS242 (want_off hS242 rfl rfl rfl hb217) rfl rfl fun a243 hS243 => st_off hS243 (want_off hS243 rfl rfl rfl hb217) rfl rfl fun a244 hS244 => st_off hS244 (want_off hS244 rfl rfl rfl hb217) rfl rfl fun a245 hS245 => st_off hS245 (want_off hS245 rfl rfl rfl hb217) rfl rfl fun a246 hS246 => st_off hS246 (want_off hS246 rfl rfl rfl hb217) rfl rfl fun a247 hS247 => st_val hS247 rfl rfl rfl (r_pickF hS247 rfl rfl rfl hb217) fun a248 hS248 => hk _ (hS248.re ⟨rfl, rfl, rfl, rfl, rfl, rfl, rfl, rfl, rfl, (by rw [← e240]; rfl), trivial⟩)
                              intro a249 hS249
                              refine st_val hS249 rfl rfl rfl (r_assign hS249 rfl rfl) fun a250 hS250 => wpList_nil (hK _ _ ?_)
                              replace hS : Sl 161 _ [(0, .slice A0 p0.length cap0), (3, .slice A16 m0_0.length cap17), (4, .int .i64 (min (p0.length : Int) 8)), (5, .int .i64 m0_1), (6, .pointer (some ⟨b87, 0, none⟩)), (7, .int .i64 m1_1), (8, .int .i64 r194), (9, .bool t227), (10, .int .i64 m2_1)] := hS250.re ⟨rfl, rfl, rfl, rfl, rfl, rfl, rfl, rfl, rfl, trivial⟩
                              clear hK K
                              try clear hS215 hS216 hS249 hS250
                              obtain ⟨a, ha⟩ : ∃ a', a' = a250 := ⟨_, rfl⟩
                              rw [← ha] at hS ⊢; clear ha
                              change Code.wp _ _ _ _ _
                              refine c_pure1 [(0, .slice A0 p0.length cap0), (3, .slice A16 m0_0.length cap17), (4, .int .i64 (min (p0.length : Int) 8)), (5, .int .i64 m0_1), (6, .pointer (some ⟨b87, 0, none⟩)), (7, .int .i64 m1_1), (8, .int .i64 r194), (9, .bool t227), (10, .int .i64 (wi (m2_1 + 1)))] (fun R hR => st_val hS rfl rfl rfl (r_move hS rfl rfl) fun a251 hS251 => st_val hS251 rfl rfl rfl (r_bin hS251 rfl rfl rfl b_add) fun a252 hS252 => st_val hS252 rfl rfl rfl (r_assign hS252 rfl rfl) fun a253 hS253 => wpList_nil (hR _ (hS253.re ⟨rfl, rfl, rfl, rfl, rfl, rfl, rfl, rfl, rfl, trivial⟩))) ?_
                              clear hS
                              clear a
                              intro a hS
                              refine ⟨k208, Nat.lt_succ_self _, ?_⟩
                              exact ⟨t227, wi (m2_1 + 1), H, rfl, hS.re ⟨rfl, rfl, rfl, rfl, rfl, rfl, rfl, rfl, rfl, trivial⟩⟩
                            · replace H := ite_f hb214 H
                              refine wp_exit ?_
                              have e := Option.some.inj H
                              subst e
                              exact ⟨rfl, hS.re ⟨rfl, rfl, rfl, rfl, rfl, rfl, rfl, rfl, trivial⟩⟩
                      · clear H
                        clear hS
                        rintro a w' ⟨hw, hS⟩
                        subst hw
                        have H := Hl206
                        clear Hl206
                        refine c_pure [(0, .slice A0 p0.length cap0), (3, .slice A16 m0_0.length cap17), (4, .int .i64 (min (p0.length : Int) 8)), (5, .int .i64 m0_1), (6, .pointer (some ⟨b87, 0, none⟩)), (7, .int .i64 m1_1), (8, .int .i64 r194), (84, .bool v204)] (fun R hR => st_val hS rfl rfl rfl (r_move hS rfl rfl) fun a254 hS254 => wpList_nil (hR _ (hS254.re ⟨rfl, rfl, rfl, rfl, rfl, rfl, rfl, rfl, trivial⟩))) ?_
                        clear hS
                        clear a
                        intro a hS
                        refine c_cond hS rfl (fun hb255 => ?_) (fun hb255 => ?_)
                        · replace H := ite_t hb255 H
                          obtain ⟨y264, hy265, H⟩ := bind_el H
                          refine c_region1 (fun K hK => ?_)
                          refine st_val hS rfl rfl rfl (r_fieldB (off := 1) hS rfl rfl (by kernel_rfl)) fun a256 hS256 => st_val hS256 rfl rfl rfl (r_load1 (n := 1) hS256 rfl rfl (by kernel_rfl) (Bx.cell h88 rfl)) fun a257 hS257 => st_val hS257 rfl rfl rfl (r_move hS257 rfl rfl) fun a258 hS258 => ?_
                          refine st_eff hS258 rfl rfl rfl (e_lit (e := 3) (parts := [(0, .int .i64 r194)]) (cs := [.int .i64 r194]) (kint .i64) [r194] (N + 4) g197 hS258 rfl rfl (fun _ => by kernel_rfl) rfl (by decide) (Rows.cons (cs := [.int .i64 r194]) rfl Rows.nil)) ?_
                          rintro _ a262 w263 g263 ⟨⟨A259, rfl, h260⟩, F263⟩ hS262
                          replace h142 := OwS.fr h142 F263 (fun _ _ h => h)
                          replace h18 := OwS.fr h18 F263 (fun _ _ h => h)
                          replace h88 := h88.fr F263 (fun h => h)
                          replace hp0 := RdS.fr hp0 F263 (by decide) (fun _ _ h => h)
                          replace hF := hF.trans F263 (fun _ h => h.elim)
                          refine st_eff hS262 rfl rfl rfl (e_append (e := 3) (sz := 1) (by_ := 8) (z := [.int .i64 0]) (kd := (kint .i64)) g263 hS262 rfl rfl rfl rfl (by kernel_rfl) (by kernel_rfl) rfl rfl rfl rfl h142 (OwD.rdx h260) (fun _ _ _ h => h) hy265) ?_
                          rintro _ a270 w271 g271 ⟨⟨A266, cap267, rfl, h268⟩, F271⟩ hS270
                          replace h260 := OwS.fr h260 F271 (fun c' hc (hm : c' = N + 6) => by omega)
                          replace h18 := OwS.fr h18 F271 (fun c' hc (hm : c' = N + 6) => by omega)
                          replace h88 := h88.fr F271 (fun (hm : N + 0 = N + 6) => by omega)
                          replace hp0 := RdS.fr hp0 F271 (by decide) (fun q (hq : C0 q) (hm : q = N + 6) => by have := hC0 q hq; omega)
                          replace hF := hF.trans F271 (fun c' (hm : c' = N + 6) => by show (r0 ≤ c' ∧ c' < r0 + 2) ∨ N ≤ c'; omega)
                          refine st_val hS270 rfl rfl rfl (r_fieldB (off := 1) hS270 rfl rfl (by kernel_rfl)) fun a272 hS272 => ?_
                          refine st_effS hS272 rfl rfl (e_storeB (n := 1) (bb := false) (cs' := [.int .i64 m1_0.Parent, .slice A266 y264.length cap267, .int .u64 m1_0.Delay]) g271 hS272 rfl rfl rfl (by kernel_rfl) rfl rfl rfl h88 rfl rfl) ?_
                          rintro a273 w274 g274 ⟨h88, F274⟩ hS273
                          replace h260 := OwS.fr h260 F274 (fun c' hc (hm : c' = N + 0) => by omega)
                          replace h268 := OwS.fr h268 F274 (fun c' hc (hm : c' = N + 0) => by omega)
                          replace h18 := OwS.fr h18 F274 (fun c' hc (hm : c' = N + 0) => by omega)
                          replace hp0 := RdS.fr hp0 F274 (by decide) (fun q (hq : C0 q) (hm : q = N + 0) => by have := hC0 q hq; omega)
                          replace hF := hF.trans F274 (fun c' (hm : c' = N + 0) => by show (r0 ≤ c' ∧ c' < r0 + 2) ∨ N ≤ c'; omega)
                          refine wpList_nil (hK _ _ ?_)
                          replace hS : Sl 161 _ [(0, .slice A0 p0.length cap0), (3, .slice A16 m0_0.length cap17), (4, .int .i64 (min (p0.length : Int) 8)), (5, .int .i64 m0_1), (6, .pointer (some ⟨b87, 0, none⟩)), (7, .int .i64 m1_1)] := hS273.re ⟨rfl, rfl, rfl, rfl, rfl, rfl, trivial⟩
                          clear hK K
                          try clear hS256 hS257 hS258 hS262 hS270 hS272 hS273
                          obtain ⟨a, ha⟩ : ∃ a', a' = a273 := ⟨_, rfl⟩
                          rw [← ha] at hS ⊢; clear ha
                          have e := Option.some.inj H
                          subst e
                          exact ⟨g274, A266, cap267, hS.re ⟨rfl, rfl, rfl, rfl, rfl, rfl, trivial⟩, h268, h18, h88, hp0, hF⟩
                        · replace H := ite_f hb255 H
                          refine wp_skip ?_
                          have e := Option.some.inj H
                          subst e
                          exact ⟨g197, A140, cap141, hS.re ⟨rfl, rfl, rfl, rfl, rfl, rfl, trivial⟩, h142, h18, h88, hp0, hF⟩
                    · clear H
                      clear hp0 h18 h88 h142 hF
                      clear hS
                      rintro a w170 ⟨g170, A171, cap172, hS, h173, h18, h88, hp0, hF⟩
                      have H := Hl176
                      clear Hl176
                      refine c_pure1 [(0, .slice A0 p0.length cap0), (3, .slice A16 m0_0.length cap17), (4, .int .i64 (min (p0.length : Int) 8)), (5, .int .i64 m0_1), (6, .pointer (some ⟨b87, 0, none⟩)), (7, .int .i64 (wi (m1_1 + 1)))] (fun R hR => st_val hS rfl rfl rfl (r_move hS rfl rfl) fun a275 hS275 => st_val hS275 rfl rfl rfl (r_bin hS275 rfl rfl rfl b_add) fun a276 hS276 => st_val hS276 rfl rfl rfl (r_assign hS276 rfl rfl) fun a277 hS277 => wpList_nil (hR _ (hS277.re ⟨rfl, rfl, rfl, rfl, rfl, rfl, trivial⟩))) ?_
                      clear hS
                      clear a
                      intro a hS
                      refine ⟨k143, Nat.lt_succ_self _, ?_⟩
                      exact ⟨v174, wi (m1_1 + 1), g170, A171, cap172, H, hS.re ⟨rfl, rfl, rfl, rfl, rfl, rfl, trivial⟩, h173, h18, h88, hp0, hF⟩
                  · replace H := ite_f hb169 H
                    refine wp_exit ?_
                    have e := Option.some.inj H
                    subst e
                    exact ⟨g139, A140, cap141, hS.re ⟨rfl, rfl, rfl, rfl, rfl, trivial⟩, h142, h18, h88, hp0, hF⟩
            · clear H
              clear hp0 h18 h88 hF
              clear hS
              rintro a w131 ⟨g131, A132, cap133, hS, h134, h18, h88, hp0, hF⟩
              have H := Hl137
              clear Hl137
              obtain ⟨y286, hy287, H⟩ := bind_el H
              refine c_region1 (fun K hK => ?_)
              refine st_val hS rfl rfl rfl (r_move hS rfl rfl) fun a278 hS278 => st_val hS278 rfl rfl rfl (r_loadN (n := 3) (cs := [.int .i64 v135.Parent, .slice A132 v135.Suppliers.length cap133, .int .u64 v135.Delay]) hS278 rfl rfl (by kernel_rfl) rfl (Bx.cells_off h88 0 3)) fun a279 hS279 => ?_
              refine st_eff hS279 rfl rfl rfl (e_litD (D := (fun q => q = N + 6)) (e := 30) (parts := [(0, .agg #[.int .i64 v135.Parent, .slice A132 v135.Suppliers.length cap133, .int .u64 v135.Delay])]) (cs := [.int .i64 v135.Parent, .slice A132 v135.Suppliers.length cap133, .int .u64 v135.Delay]) kd_api_IdleDevice [v135] (N + 8) g131 hS279 rfl rfl (fun _ => by kernel_rfl) rfl (by decide) (Rows.cons (cs := [.int .i64 v135.Parent, .slice A132 v135.Suppliers.length cap133, .int .u64 v135.Delay]) ⟨A132, cap133, rfl, (OwD.rdf (fun _ _ _ _ _ _ h => h) h134)⟩ Rows.nil)) ?_
              rintro _ a283 w284 g284 ⟨⟨A280, rfl, h281⟩, F284⟩ hS283
              replace h134 := OwS.fr h134 F284 (fun _ _ h => h)
              replace h18 := OwS.fr h18 F284 (fun _ _ h => h)
              replace h88 := h88.fr F284 (fun h => h)
              replace hp0 := RdS.fr hp0 F284 (by decide) (fun _ _ h => h)
              replace hF := hF.trans F284 (fun _ h => h.elim)
              have F285 : Fr (fun q => q = N + 6) w284 g284 w284 (recol g284 (N + 6) (N + 10 + 1)) := Fr.recol w284 g284 (N + 6) (N + 10 + 1) rfl
              replace h281 : OwD kd_api_IdleDevice 30 w284 (recol g284 (N + 6) (N + 10 + 1)) (N + 8) (fun q => q = N + 10 + 1) A280 1 [v135] := OwD.recolC h281 (N + 6) (N + 10 + 1) (by omega) (fun q (hq : q = N + 6) => show (fun q => q = N + 10 + 1) (if q = N + 6 then N + 10 + 1 else q) from (by rw [if_pos hq] <;> exact rfl))
              replace h134 : RdS (kint .i64) w284 (recol g284 (N + 6) (N + 10 + 1)) (fun q => q = N + 10 + 1) A132 cap133 v135.Suppliers := RdS.recolC (OwD.rdf (fun _ _ _ _ _ _ h => h) h134) (by decide) (N + 6) (N + 10 + 1) (fun q (hq : q = N + 6) => show (fun q => q = N + 10 + 1) (if q = N + 6 then N + 10 + 1 else q) from (by rw [if_pos hq] <;> exact rfl))
              replace h18 := OwS.fr h18 F285 (fun c' hc (hm : c' = N + 6) => by omega)
              replace h88 := h88.fr F285 (fun (hm : N + 0 = N + 6) => by omega)
              replace hp0 := RdS.fr hp0 F285 (by decide) (fun q (hq : C0 q) (hm : q = N + 6) => by have := hC0 q hq; omega)
              replace hF := hF.trans F285 (fun c' (hm : c' = N + 6) => by show (r0 ≤ c' ∧ c' < r0 + 2) ∨ N ≤ c'; omega)
              refine st_eff hS283 rfl rfl rfl (e_append (e := 30) (sz := 3) (by_ := 40) (z := [.int .i64 0, .slice none 0 0, .int .u64 0]) (kd := kd_api_IdleDevice) (recol g284 (N + 6) (N + 10 + 1)) hS283 rfl rfl rfl rfl (by kernel_rfl) (by kernel_rfl) rfl rfl rfl rfl h18 (OwD.rdx h281) (fun _ _ _ h => h) hy287) ?_
              rintro _ a292 w293 g293 ⟨⟨A288, cap289, rfl, h290⟩, F293⟩ hS292
              replace h281 := OwD.fr h281 F293 (fun (hm : N + 8 = N + 10) => by omega) (fun q (hq : q = N + 10 + 1) (hm : q = N + 10) => by omega)
              replace h134 := RdS.fr h134 F293 (by decide) (fun q (hq : q = N + 10 + 1) (hm : q = N + 10) => by omega)
              replace h88 := h88.fr F293 (fun (hm : N + 0 = N + 10) => by omega)
              replace hp0 := RdS.fr hp0 F293 (by decide) (fun q (hq : C0 q) (hm : q = N + 10) => by have := hC0 q hq; omega)
              replace hF := hF.trans F293 (fun c' (hm : c' = N + 10) => by show (r0 ≤ c' ∧ c' < r0 + 2) ∨ N ≤ c'; omega)
              refine st_val hS292 rfl rfl rfl (r_assign hS292 rfl rfl) fun a294 hS294 => wpList_nil (hK _ _ ?_)
              replace hS : Sl 161 _ [(0, .slice A0 p0.length cap0), (3, .slice A288 y286.length cap289), (4, .int .i64 (min (p0.length : Int) 8)), (5, .int .i64 m0_1)] := hS294.re ⟨rfl, rfl, rfl, rfl, trivial⟩
              clear hK K
              try clear hS278 hS279 hS283 hS292 hS294
              obtain ⟨a, ha⟩ : ∃ a', a' = a294 := ⟨_, rfl⟩
              rw [← ha] at hS ⊢; clear ha
              have e := Option.some.inj H
              subst e
              exact ⟨g293, A288, cap289, hS.re ⟨rfl, rfl, rfl, rfl, trivial⟩, h290, hp0, hF⟩
          · clear H
            clear hp0 h18 hF
            clear hS
            rintro a w24 ⟨g24, A25, cap26, hS, h27, hp0, hF⟩
            have H := Hl30
            clear Hl30
            refine c_pure1 [(0, .slice A0 p0.length cap0), (3, .slice A25 v28.length cap26), (4, .int .i64 (min (p0.length : Int) 8)), (5, .int .i64 (wi (m0_1 + 1)))] (fun R hR => st_val hS rfl rfl rfl (r_move hS rfl rfl) fun a295 hS295 => st_val hS295 rfl rfl rfl (r_bin hS295 rfl rfl rfl b_add) fun a296 hS296 => st_val hS296 rfl rfl rfl (r_assign hS296 rfl rfl) fun a297 hS297 => wpList_nil (hR _ (hS297.re ⟨rfl, rfl, rfl, rfl, trivial⟩))) ?_
            clear hS
            clear a
            intro a hS
            refine ⟨k19, Nat.lt_succ_self _, ?_⟩
            exact ⟨v28, wi (m0_1 + 1), g24, A25, cap26, H, hS.re ⟨rfl, rfl, rfl, rfl, trivial⟩, h27, hp0, hF⟩
        · replace H := ite_f hb23 H
          refine wp_exit ?_
          have e := Option.some.inj H
          subst e
          exact ⟨g15, A16, cap17, hS.re ⟨rfl, rfl, trivial⟩, h18, hF⟩
  · clear H
    clear hp0 hF
    clear hS
    rintro a w7 ⟨g7, A8, cap9, hS, h10, hF⟩
    have H := Hl13
    clear Hl13
    refine wp_seq ?_
    refine c_pure [(3, .slice A8 v11.length cap9), (4, .int .i64 (min (p0.length : Int) 8)), (97, .bool ((Int.tmod (min (p0.length : Int) 8) 2) == 0))] (fun R hR => st_val hS rfl rfl rfl (r_move hS rfl rfl) fun a298 hS298 => st_val hS298 rfl rfl rfl (r_bin hS298 rfl rfl rfl (b_rem (by decide))) fun a299 hS299 => st_val hS299 rfl rfl rfl (r_bin hS299 rfl rfl rfl b_eql) fun a300 hS300 => wpList_nil (hR _ (hS300.re ⟨rfl, rfl, rfl, trivial⟩))) ?_
    clear hS
    clear a
    intro a hS
    refine c_cond hS rfl (fun hb301 => ?_) (fun hb301 => ?_)
    · replace H := ite_t hb301 H
      refine c_pure [(2, .slice A8 v11.length cap9)] (fun R hR => st_val hS rfl rfl rfl (r_move hS rfl rfl) fun a302 hS302 => st_val hS302 rfl rfl rfl (r_assign hS302 rfl rfl) fun a303 hS303 => wpList_nil (hR _ (hS303.re ⟨rfl, trivial⟩))) ?_
      clear hS
      clear a
      intro a hS
      refine wp_ret ?_
      have e := Option.some.inj H
      subst e
      have F304 := Fr.recol2 w7 g7 (N + 10) r0
      replace h10 := h10.recol2 r0
      replace hF := hF.trans F304 (fun c' (hm : c' = N + 10 ∨ c' = N + 10 + 1) => by show (r0 ≤ c' ∧ c' < r0 + 2) ∨ N ≤ c'; omega)
      repeat (with_reducible first | refine then_ret ?_ | refine inBlock_ret ?_)
      exact c_ret1 hS Try.results17 rfl ⟨_, rfl, (recol2 g7 (N + 10) r0), A8, cap9, rfl, h10, hF⟩
    · replace H := ite_f hb301 H
      refine wp_skip ?_
      change Code.wp _ _ _ _ _
      obtain ⟨y306, hy307, H⟩ := bind_el H
      refine c_region (fun K hK => ?_)
      refine st_val hS rfl rfl rfl (r_move hS rfl rfl) fun a305 hS305 => ?_
      refine st_eff hS305 rfl rfl rfl (e_make (e := 30) (sz := 3) (by_ := 40) (z := [.int .i64 0, .slice none 0 0, .int .u64 0]) (kd := kd_api_IdleDevice) (N + 12) g7 hS305 rfl rfl (by kernel_rfl) (by kernel_rfl) rfl rfl rfl (fun w g C => ⟨none, 0, rfl, RdS.nil _ _ _ _⟩) hy307) ?_
      rintro _ a312 w313 g313 ⟨⟨A308, cap309, rfl, h310⟩, F313⟩ hS312
      replace h10 := OwS.fr h10 F313 (fun _ _ h => h)
      replace hF := hF.trans F313 (fun _ h => h.elim)
      refine st_val hS312 rfl rfl rfl (r_assign hS312 rfl rfl) fun a314 hS314 => wpList_nil (hK _ _ ?_)
      replace hS : Sl 161 _ [(3, .slice A8 v11.length cap9), (4, .int .i64 (min (p0.length : Int) 8)), (11, .slice A308 y306.length cap309)] := hS314.re ⟨rfl, rfl, rfl, trivial⟩
      clear hK K
      try clear hS305 hS312 hS314
      obtain ⟨a, ha⟩ : ∃ a', a' = a314 := ⟨_, rfl⟩
      rw [← ha] at hS ⊢; clear ha
      obtain ⟨v316, H, Hl318⟩ := bind_el H
      refine c_cut (fun a w315 => ∃ (g315 : Nat → Nat), Sl 161 a [(11, .slice A308 v316.length cap309)] ∧ OwS kd_api_IdleDevice 30 w315 g315 (N + 12) A308 cap309 v316 ∧ Fr (fun q => (r0 ≤ q ∧ q < r0 + 2) ∨ N ≤ q) w g w315 g315) ?_ ?_
      · refine c_pure [(3, .slice A8 v11.length cap9), (4, .int .i64 (min (p0.length : Int) 8)), (11, .slice A308 y306.length cap309), (12, .int .i64 0)] (fun R hR => st_val hS rfl rfl rfl (r_assign hS rfl rfl) fun a319 hS319 => wpList_nil (hR _ (hS319.re ⟨rfl, rfl, rfl, rfl, trivial⟩))) ?_
        clear hS
        clear a
        intro a hS
        refine wp_block ?_
        refine wp_loop_ghost (fun kq => fun a w320 => ∃ (m3_0 : List api_IdleDevice), ∃ (m3_1 : Int), ∃ (g320 : Nat → Nat), law28_Some.l3 p0 v11 kq m3_0 m3_1 = some v316 ∧ Sl 161 a [(3, .slice A8 v11.length cap9), (4, .int .i64 (min (p0.length : Int) 8)), (11, .slice A308 m3_0.length cap309), (12, .int .i64 m3_1)] ∧ OwS kd_api_IdleDevice 30 w320 g320 (N + 12) A308 cap309 m3_0 ∧ OwS kd_api_IdleDevice 30 w320 g320 (N + 10) A8 cap9 v11 ∧ Fr (fun q => (r0 ≤ q ∧ q < r0 + 2) ∨ N ≤ q) w g w320 g320) FUEL ?_ ?_
        · exact ⟨y306, 0, g313, H, hS.re ⟨rfl, rfl, rfl, rfl, trivial⟩, h310, h10, hF⟩
        · clear H
          clear h10 h310 hF
          clear hS
          rintro k321 a w320 ⟨m3_0, m3_1, g320, hpre0, hS, h310, h10, hF⟩
          have H := hpre0
          clear hpre0
          cases k321 with
          | zero => exact absurd H (by simp [law28_Some.l3])
          | succ k321 =>
            rw [law28_Some.l3] at H
            refine wp_seq ?_
            refine c_pure [(3, .slice A8 v11.length cap9), (4, .int .i64 (min (p0.length : Int) 8)), (11, .slice A308 m3_0.length cap309), (12, .int .i64 m3_1), (103, .bool (decide (m3_1 < (min (p0.length : Int) 8))))] (fun R hR => st_val hS rfl rfl rfl (r_move hS rfl rfl) fun a322 hS322 => st_val hS322 rfl rfl rfl (r_move hS322 rfl rfl) fun a323 hS323 => st_val hS323 rfl rfl rfl (r_bin hS323 rfl rfl rfl b_lss) fun a324 hS324 => wpList_nil (hR _ (hS324.re ⟨rfl, rfl, rfl, rfl, rfl, trivial⟩))) ?_
            clear hS
            clear a
            intro a hS
            refine c_cond hS rfl (fun hb325 => ?_) (fun hb325 => ?_)
            · replace H := ite_t hb325 H
              refine wp_skip ?_
              change Code.wp _ _ _ _ _
              obtain ⟨v327, H, Hl329⟩ := bind_el H
              refine c_cut (fun a w326 => ∃ (g326 : Nat → Nat), Sl 161 a [(3, .slice A8 v11.length cap9), (4, .int .i64 (min (p0.length : Int) 8)), (11, .slice A308 v327.length cap309), (12, .int .i64 m3_1)] ∧ OwS kd_api_IdleDevice 30 w326 g326 (N + 12) A308 cap309 v327 ∧ OwS kd_api_IdleDevice 30 w326 g326 (N + 10) A8 cap9 v11 ∧ Fr (fun q => (r0 ≤ q ∧ q < r0 + 2) ∨ N ≤ q) w g w326 g326) ?_ ?_
              · refine wp_block ?_
                obtain ⟨x332, hx333, H⟩ := bind_el H
                refine c_region (fun K hK => ?_)
                refine st_val hS rfl rfl rfl (r_move hS rfl rfl) fun a330 hS330 => st_val hS330 rfl rfl rfl (r_move hS330 rfl rfl) fun a331 hS331 => ?_
                obtain ⟨_, ⟨A335, cap336, rfl, h337⟩, hel334⟩ := El.of (OwD.rdx h10) hx333 (by decide)
                replace hel334 : El w320 g320 (fun q => q = N + 10) A8 (m3_1.toNat * 3) [.int .i64 x332.Parent, .slice A335 x332.Suppliers.length cap336, .int .u64 x332.Delay] := hel334
                refine st_val hS331 rfl rfl rfl (r_index (e := 30) (sz := 3) (by_ := 40) hS331 rfl rfl rfl (by kernel_rfl) (RdS.some_ (OwS.rd h10) hx333) (idx_lo hx333) (idx_hi hx333)) fun a340 hS340 => st_val hS340 rfl rfl rfl (r_fieldE (off := 2) hS340 rfl rfl (by kernel_rfl)) fun a341 hS341 => st_val hS341 rfl rfl rfl (r_load1 (n := 1) hS341 rfl rfl (by kernel_rfl) (El.cell (j := 2) hel334 rfl)) fun a342 hS342 => st_val hS342 rfl rfl rfl (r_build (parts := [(0, .int .i64 (-1)), (2, .int .u64 x332.Delay)]) (u := .agg #[.int .i64 (-1), .slice none 0 0, .int .u64 x332.Delay]) hS342 rfl rfl (fun _ => by kernel_rfl)) fun a343 hS343 => ?_
                refine st_eff hS343 rfl rfl rfl (e_alloc (cs := [.int .i64 0, .slice none 0 0, .int .u64 0]) (N + 14) g320 hS343 rfl (by kernel_rfl)) ?_
                rintro _ a347 w348 g348 ⟨⟨b344, rfl, h345⟩, F348⟩ hS347
                replace h310 := OwS.fr h310 F348 (fun _ _ h => h)
                replace h337 := RdS.fr h337 F348 (by decide) (fun _ _ h => h)
                replace hel334 := hel334.fr F348 (fun _ _ h => h)
                replace h10 := OwS.fr h10 F348 (fun _ _ h => h)
                replace hF := hF.trans F348 (fun _ h => h.elim)
                refine st_effS hS347 rfl rfl (e_storeB (n := 3) (bb := true) (cs' := [.int .i64 (-1), .slice none 0 0, .int .u64 x332.Delay]) g348 hS347 rfl rfl rfl (by kernel_rfl) rfl rfl rfl h345 rfl rfl) ?_
                rintro a349 w350 g350 ⟨h345, F350⟩ hS349
                replace h310 := OwS.fr h310 F350 (fun c' hc (hm : c' = N + 14) => by omega)
                replace h337 := RdS.fr h337 F350 (by decide) (fun q (hq : q = N + 10 + 1) (hm : q = N + 14) => by omega)
                replace hel334 := hel334.fr F350 (fun q (hq : q = N + 10) (hm : q = N + 14) => by omega)
                replace h10 := OwS.fr h10 F350 (fun c' hc (hm : c' = N + 14) => by omega)
                replace hF := hF.trans F350 (fun c' (hm : c' = N + 14) => by show (r0 ≤ c' ∧ c' < r0 + 2) ∨ N ≤ c'; omega)
                refine wpList_nil (hK _ _ ?_)
                replace hS : Sl 161 _ [(3, .slice A8 v11.length cap9), (4, .int .i64 (min (p0.length : Int) 8)), (11, .slice A308 m3_0.length cap309), (12, .int .i64 m3_1), (13, .pointer (some ⟨b344, 0, none⟩))] := hS349.re ⟨rfl, rfl, rfl, rfl, rfl, trivial⟩
                clear hK K
                try clear hS330 hS331 hS340 hS341 hS342 hS343 hS347 hS349
                obtain ⟨a, ha⟩ : ∃ a', a' = a349 := ⟨_, rfl⟩
                rw [← ha] at hS ⊢; clear ha
                obtain ⟨v352, H, Hl354⟩ := bind_el H
                refine c_cut (fun a w351 => ∃ (g351 : Nat → Nat), Sl 161 a [(3, .slice A8 v11.length cap9), (4, .int .i64 (min (p0.length : Int) 8)), (11, .slice A308 m3_0.length cap309), (12, .int .i64 m3_1), (13, .pointer (some ⟨b344, 0, none⟩))] ∧ OwS kd_api_IdleDevice 30 w351 g351 (N + 12) A308 cap309 m3_0 ∧ Bx w351 g351 (N + 14) b344 30 [.int .i64 v352.Parent, .slice none 0 0, .int .u64 v352.Delay] ∧ OwS kd_api_IdleDevice 30 w351 g351 (N + 10) A8 cap9 v11 ∧ Fr (fun q => (r0 ≤ q ∧ q < r0 + 2) ∨ N ≤ q) w g w351 g351) ?_ ?_
                · refine c_region (fun K hK => ?_)
                  refine st_val hS rfl rfl rfl (r_move hS rfl rfl) fun a355 hS355 => st_val hS355 rfl rfl rfl (r_move hS355 rfl rfl) fun a356 hS356 => ?_
                  obtain ⟨_, ⟨A358, cap359, rfl, h360⟩, hel357⟩ := El.of (OwD.rdx h10) hx333 (by decide)
                  replace hel357 : El w350 g350 (fun q => q = N + 10) A8 (m3_1.toNat * 3) [.int .i64 x332.Parent, .slice A358 x332.Suppliers.length cap359, .int .u64 x332.Delay] := hel357
                  refine st_val hS356 rfl rfl rfl (r_index (e := 30) (sz := 3) (by_ := 40) hS356 rfl rfl rfl (by kernel_rfl) (RdS.some_ (OwS.rd h10) hx333) (idx_lo hx333) (idx_hi hx333)) fun a363 hS363 => st_val hS363 rfl rfl rfl (r_fieldE (off := 0) hS363 rfl rfl (by kernel_rfl)) fun a364 hS364 => st_val hS364 rfl rfl rfl (r_load1 (n := 1) hS364 rfl rfl (by kernel_rfl) (El.cell (j := 0) hel357 rfl)) fun a365 hS365 => st_val hS365 rfl rfl rfl (r_bin hS365 rfl rfl rfl b_geq) fun a366 hS366 => wpList_nil (hK _ _ ?_)
                  replace hS : Sl 161 _ [(3, .slice A8 v11.length cap9), (4, .int .i64 (min (p0.length : Int) 8)), (11, .slice A308 m3_0.length cap309), (12, .int .i64 m3_1), (13, .pointer (some ⟨b344, 0, none⟩)), (117, .bool (decide (0 ≤ x332.Parent)))] := hS366.re ⟨rfl, rfl, rfl, rfl, rfl, rfl, trivial⟩
                  clear hK K
                  try clear hS355 hS356 hS363 hS364 hS365 hS366
                  obtain ⟨a, ha⟩ : ∃ a', a' = a366 := ⟨_, rfl⟩
                  rw [← ha] at hS ⊢; clear ha
                  refine c_cond hS rfl (fun hb367 => ?_) (fun hb367 => ?_)
                  · replace H := ite_t hb367 H
                    refine c_region1 (fun K hK => ?_)
                    refine st_val hS rfl rfl rfl (r_move hS rfl rfl) fun a368 hS368 => st_val hS368 rfl rfl rfl (r_bin hS368 rfl rfl rfl b_sub) fun a369 hS369 => st_val hS369 rfl rfl rfl (r_move hS369 rfl rfl) fun a370 hS370 => st_val hS370 rfl rfl rfl (r_move hS370 rfl rfl) fun a371 hS371 => ?_
                    obtain ⟨_, ⟨A373, cap374, rfl, h375⟩, hel372⟩ := El.of (OwD.rdx h10) hx333 (by decide)
                    replace hel372 : El w350 g350 (fun q => q = N + 10) A8 (m3_1.toNat * 3) [.int .i64 x332.Parent, .slice A373 x332.Suppliers.length cap374, .int .u64 x332.Delay] := hel372
                    refine st_val hS371 rfl rfl rfl (r_index (e := 30) (sz := 3) (by_ := 40) hS371 rfl rfl rfl (by kernel_rfl) (RdS.some_ (OwS.rd h10) hx333) (idx_lo hx333) (idx_hi hx333)) fun a378 hS378 => st_val hS378 rfl rfl rfl (r_fieldE (off := 0) hS378 rfl rfl (by kernel_rfl)) fun a379 hS379 => st_val hS379 rfl rfl rfl (r_load1 (n := 1) hS379 rfl rfl (by kernel_rfl) (El.cell (j := 0) hel372 rfl)) fun a380 hS380 => st_val hS380 rfl rfl rfl (r_bin hS380 rfl rfl rfl b_sub) fun a381 hS381 => st_val hS381 rfl rfl rfl (r_fieldB (off := 0) hS381 rfl rfl (by kernel_rfl)) fun a382 hS382 => ?_
                    refine st_effS hS382 rfl rfl (e_storeB (n := 1) (bb := false) (cs' := [.int .i64 (wi ((wi ((min (p0.length : Int) 8) - 1)) - x332.Parent)), .slice none 0 0, .int .u64 x332.Delay]) g350 hS382 rfl rfl rfl (by kernel_rfl) rfl rfl rfl h345 rfl rfl) ?_
                    rintro a383 w384 g384 ⟨h345, F384⟩ hS383
                    replace h310 := OwS.fr h310 F384 (fun c' hc (hm : c' = N + 14) => by omega)
                    replace h375 := RdS.fr h375 F384 (by decide) (fun q (hq : q = N + 10 + 1) (hm : q = N + 14) => by omega)
                    replace hel372 := hel372.fr F384 (fun q (hq : q = N + 10) (hm : q = N + 14) => by omega)
                    replace h10 := OwS.fr h10 F384 (fun c' hc (hm : c' = N + 14) => by omega)
                    replace hF := hF.trans F384 (fun c' (hm : c' = N + 14) => by show (r0 ≤ c' ∧ c' < r0 + 2) ∨ N ≤ c'; omega)
                    refine wpList_nil (hK _ _ ?_)
                    replace hS : Sl 161 _ [(3, .slice A8 v11.length cap9), (4, .int .i64 (min (p0.length : Int) 8)), (11, .slice A308 m3_0.length cap309), (12, .int .i64 m3_1), (13, .pointer (some ⟨b344, 0, none⟩))] := hS383.re ⟨rfl, rfl, rfl, rfl, rfl, trivial⟩
                    clear hK K
                    try clear hS368 hS369 hS370 hS371 hS378 hS379 hS380 hS381 hS382 hS383
                    obtain ⟨a, ha⟩ : ∃ a', a' = a383 := ⟨_, rfl⟩
                    rw [← ha] at hS ⊢; clear ha
                    have e := Option.some.inj H
                    subst e
                    exact ⟨g384, hS.re ⟨rfl, rfl, rfl, rfl, rfl, trivial⟩, h310, h345, h10, hF⟩
                  · replace H := ite_f hb367 H
                    refine wp_skip ?_
                    have e := Option.some.inj H
                    subst e
                    exact ⟨g350, hS.re ⟨rfl, rfl, rfl, rfl, rfl, trivial⟩, h310, h345, h10, hF⟩
                · clear H
                  clear h10 h310 h345 hF
                  clear hS
                  rintro a w351 ⟨g351, hS, h310, h345, h10, hF⟩
                  have H := Hl354
                  clear Hl354
                  obtain ⟨v389, H, Hl391⟩ := bind_el H
                  refine c_cut (fun a w385 => ∃ (g385 : Nat → Nat), ∃ (A386 : Option Addr), ∃ (cap387 : Nat), Sl 161 a [(3, .slice A8 v11.length cap9), (4, .int .i64 (min (p0.length : Int) 8)), (11, .slice A308 m3_0.length cap309), (12, .int .i64 m3_1), (13, .pointer (some ⟨b344, 0, none⟩))] ∧ OwS kd_api_IdleDevice 30 w385 g385 (N + 12) A308 cap309 m3_0 ∧ Bx w385 g385 (N + 14) b344 30 [.int .i64 v389.Parent, .slice A386 v389.Suppliers.length cap387, .int .u64 v389.Delay] ∧ OwS kd_api_IdleDevice 30 w385 g385 (N + 10) A8 cap9 v11 ∧ OwS (kint .i64) 3 w385 g385 (N + 18) A386 cap387 v389.Suppliers ∧ Fr (fun q => (r0 ≤ q ∧ q < r0 + 2) ∨ N ≤ q) w g w385 g385) ?_ ?_
                  · refine c_pure [(3, .slice A8 v11.length cap9), (4, .int .i64 (min (p0.length : Int) 8)), (11, .slice A308 m3_0.length cap309), (12, .int .i64 m3_1), (13, .pointer (some ⟨b344, 0, none⟩)), (14, .int .i64 0)] (fun R hR => st_val hS rfl rfl rfl (r_assign hS rfl rfl) fun a392 hS392 => wpList_nil (hR _ (hS392.re ⟨rfl, rfl, rfl, rfl, rfl, rfl, trivial⟩))) ?_
                    clear hS
                    clear a
                    intro a hS
                    refine wp_block ?_
                    refine wp_loop_ghost (fun kq => fun a w393 => ∃ (m4_0 : api_IdleDevice), ∃ (m4_1 : Int), ∃ (g393 : Nat → Nat), ∃ (A394 : Option Addr), ∃ (cap395 : Nat), law28_Some.l4 p0 x332 kq m4_0 m4_1 = some v389 ∧ Sl 161 a [(3, .slice A8 v11.length cap9), (4, .int .i64 (min (p0.length : Int) 8)), (11, .slice A308 m3_0.length cap309), (12, .int .i64 m3_1), (13, .pointer (some ⟨b344, 0, none⟩)), (14, .int .i64 m4_1)] ∧ OwS kd_api_IdleDevice 30 w393 g393 (N + 12) A308 cap309 m3_0 ∧ Bx w393 g393 (N + 14) b344 30 [.int .i64 m4_0.Parent, .slice A394 m4_0.Suppliers.length cap395, .int .u64 m4_0.Delay] ∧ OwS kd_api_IdleDevice 30 w393 g393 (N + 10) A8 cap9 v11 ∧ OwS (kint .i64) 3 w393 g393 (N + 18) A394 cap395 m4_0.Suppliers ∧ Fr (fun q => (r0 ≤ q ∧ q < r0 + 2) ∨ N ≤ q) w g w393 g393) FUEL ?_ ?_
                    · exact ⟨(api_IdleDevice.mk v352.Parent ([] : List Int) v352.Delay), 0, g351, none, 0, H, hS.re ⟨rfl, rfl, rfl, rfl, rfl, rfl, trivial⟩, h310, h345, h10, OwS.nil (kint .i64) 3 w351 g351 (N + 18), hF⟩
                    · clear H
                      clear h10 h310 h345 hF
                      clear hS
                      rintro k397 a w393 ⟨m4_0, m4_1, g393, A394, cap395, hpre0, hS, h310, h345, h10, h396, hF⟩
                      have H := hpre0
                      clear hpre0
                      cases k397 with
                      | zero => exact absurd H (by simp [law28_Some.l4])
                      | succ k397 =>
                        rw [law28_Some.l4] at H
                        refine wp_seq ?_
                        refine c_region (fun K hK => ?_)
                        refine st_val hS rfl rfl rfl (r_move hS rfl rfl) fun a398 hS398 => st_val hS398 rfl rfl rfl (r_move hS398 rfl rfl) fun a399 hS399 => st_val hS399 rfl rfl rfl (r_move hS399 rfl rfl) fun a400 hS400 => ?_
                        obtain ⟨_, ⟨A402, cap403, rfl, h404⟩, hel401⟩ := El.of (OwD.rdx h10) hx333 (by decide)
                        replace hel401 : El w393 g393 (fun q => q = N + 10) A8 (m3_1.toNat * 3) [.int .i64 x332.Parent, .slice A402 x332.Suppliers.length cap403, .int .u64 x332.Delay] := hel401
                        refine st_val hS400 rfl rfl rfl (r_index (e := 30) (sz := 3) (by_ := 40) hS400 rfl rfl rfl (by kernel_rfl) (RdS.some_ (OwS.rd h10) hx333) (idx_lo hx333) (idx_hi hx333)) fun a407 hS407 => st_val hS407 rfl rfl rfl (r_fieldE (off := 1) hS407 rfl rfl (by kernel_rfl)) fun a408 hS408 => st_val hS408 rfl rfl rfl (r_load1 (n := 1) hS408 rfl rfl (by kernel_rfl) (El.cell (j := 1) hel401 rfl)) fun a409 hS409 => st_val hS409 rfl rfl rfl (r_len (e := 3) (sz := 1) (by_ := 8) hS409 rfl rfl (by kernel_rfl)) fun a410 hS410 => st_val hS410 rfl rfl rfl (r_bin hS410 rfl rfl rfl b_lss) fun a411 hS411 => wpList_nil (hK _ _ ?_)
                        replace hS : Sl 161 _ [(3, .slice A8 v11.length cap9), (4, .int .i64 (min (p0.length : Int) 8)), (11, .slice A308 m3_0.length cap309), (12, .int .i64 m3_1), (13, .pointer (some ⟨b344, 0, none⟩)), (14, .int .i64 m4_1), (134, .bool (decide (m4_1 < (x332.Suppliers.length : Int))))] := hS411.re ⟨rfl, rfl, rfl, rfl, rfl, rfl, rfl, trivial⟩
                        clear hK K
                        try clear hS398 hS399 hS400 hS407 hS408 hS409 hS410 hS411
                        obtain ⟨a, ha⟩ : ∃ a', a' = a411 := ⟨_, rfl⟩
                        rw [← ha] at hS ⊢; clear ha
                        refine c_cond hS rfl (fun hb412 => ?_) (fun hb412 => ?_)
                        · replace H := ite_t hb412 H
                          refine wp_skip ?_
                          change Code.wp _ _ _ _ _
                          refine wp_seq ?_
                          refine wp_block ?_
                          obtain ⟨x419, hx420, H⟩ := bind_el H
                          obtain ⟨y424, hy425, H⟩ := bind_el H
                          refine c_draw1 (fun K hK => d_start (fun q => q = N + 18) g393 [16] 17 #[false, false, false, false, false, false, false, false, false, false, false, false, false, false, false, false, false] (by kernel_rfl) rfl rfl (fun w430 hw430 => ?_))
                          have F430 : Fr (fun _ => False) w393 g393 w430 g393 := by rw [hw430]; exact Fr.drew _ _ _
                          replace h310 := OwS.fr h310 F430 (fun _ _ h => h)
                          replace h345 := h345.fr F430 (fun h => h)
                          replace h10 := OwS.fr h10 F430 (fun _ _ h => h)
                          replace h396 := OwS.fr h396 F430 (fun _ _ h => h)
                          replace hF := hF.trans F430 (fun _ h => h.elim)
                          have hC : Fr (fun q => q = N + 18) w430 g393 w430 g393 := Fr.refl _ _ _
                          refine d_pure hS 0 #[true, false, false, false, false, false, false, false, false, false, false, false, false, false, false, false, false] rfl rfl rfl rfl (by kernel_rfl) (fun _ _ _ h => h) (fun _ => (r_fieldB (off := 1) hS rfl rfl (by kernel_rfl))) fun a431 hS431 => d_take hS431 1 #[true, true, false, false, false, false, false, false, false, false, false, false, false, false, false, false, false] rfl rfl rfl rfl (by kernel_rfl) (fun _ _ _ h => h) ⟨_, hC⟩ (fun w' g' Fz => (r_load1 (n := 1) hS431 rfl rfl (by kernel_rfl) (Bx.cell (h345.fr Fz (fun (hm : N + 14 = N + 18) => by omega)) rfl))) fun a432 hS432 => d_pure hS432 2 #[true, true, true, false, false, false, false, false, false, false, false, false, false, false, false, false, false] rfl rfl rfl rfl (by kernel_rfl) (fun _ _ _ h => h) (fun _ => (r_move hS432 rfl rfl)) fun a433 hS433 => d_pure hS433 3 #[true, true, true, true, false, false, false, false, false, false, false, false, false, false, false, false, false] rfl rfl rfl rfl (by kernel_rfl) (fun _ _ _ h => h) (fun _ => (r_bin hS433 rfl rfl rfl b_sub)) fun a434 hS434 => d_pure hS434 4 #[true, true, true, true, true, false, false, false, false, false, false, false, false, false, false, false, false] rfl rfl rfl rfl (by kernel_rfl) (fun _ _ _ h => h) (fun _ => (r_move hS434 rfl rfl)) fun a435 hS435 => d_pure hS435 5 #[true, true, true, true, true, true, false, false, false, false, false, false, false, false, false, false, false] rfl rfl rfl rfl (by kernel_rfl) (fun _ _ _ h => h) (fun _ => (r_move hS435 rfl rfl)) fun a436 hS436 => ?_
                          obtain ⟨_, ⟨A438, cap439, rfl, h440⟩, hel437⟩ := El.of (OwD.rdx h10) hx333 (by decide)
                          replace hel437 : El w430 g393 (fun q => q = N + 10) A8 (m3_1.toNat * 3) [.int .i64 x332.Parent, .slice A438 x332.Suppliers.length cap439, .int .u64 x332.Delay] := hel437
                          refine d_pure hS436 6 #[true, true, true, true, true, true, true, false, false, false, false, false, false, false, false, false, false] rfl rfl rfl rfl (by kernel_rfl) (fun _ _ _ h => h) (fun _ => (r_index (e := 30) (sz := 3) (by_ := 40) hS436 rfl rfl rfl (by kernel_rfl) (RdS.some_ (OwS.rd h10) hx333) (idx_lo hx333) (idx_hi hx333))) fun a443 hS443 => d_pure hS443 7 #[true, true, true, true, true, true, true, true, false, false, false, false, false, false, false, false, false] rfl rfl rfl rfl (by kernel_rfl) (fun _ _ _ h => h) (fun _ => (r_fieldE (off := 1) hS443 rfl rfl (by kernel_rfl))) fun a444 hS444 => d_take hS444 8 #[true, true, true, true, true, true, true, true, true, false, false, false, false, false, false, false, false] rfl rfl rfl rfl (by kernel_rfl) (fun _ _ _ h => h) ⟨_, hC⟩ (fun w' g' Fz => (r_load1 (n := 1) hS444 rfl rfl (by kernel_rfl) (El.cell (j := 1) (hel437.fr Fz (fun q (hq : q = N + 10) (hm : q = N + 18) => by omega)) rfl))) fun a445 hS445 => d_pure hS445 9 #[true, true, true, true, true, true, true, true, true, true, false, false, false, false, false, false, false] rfl rfl rfl rfl (by kernel_rfl) (fun _ _ _ h => h) (fun _ => (r_move hS445 rfl rfl)) fun a446 hS446 => d_pure hS446 10 #[true, true, true, true, true, true, true, true, true, true, true, false, false, false, false, false, false] rfl rfl rfl rfl (by kernel_rfl) (fun _ _ _ h => h) (fun _ => (r_index (e := 3) (sz := 1) (by_ := 8) hS446 rfl rfl rfl (by kernel_rfl) (RdS.some_ h440 hx420) (idx_lo hx420) (idx_hi hx420))) fun a447 hS447 => d_take hS447 11 #[true, true, true, true, true, true, true, true, true, true, true, true, false, false, false, false, false] rfl rfl rfl rfl (by kernel_rfl) (fun _ _ _ h => h) ⟨_, hC⟩ (fun w' g' Fz => (r_load1 (n := 1) hS447 rfl rfl (by kernel_rfl) (RdS.cell (i := m4_1) (sz := 1) (j := 0) (RdS.fr h440 Fz (by decide) (fun q (hq : q = N + 10 + 1) (hm : q = N + 18) => by omega)) hx420 rfl))) fun a448 hS448 => d_pure hS448 12 #[true, true, true, true, true, true, true, true, true, true, true, true, true, false, false, false, false] rfl rfl rfl rfl (by kernel_rfl) (fun _ _ _ h => h) (fun _ => (r_bin hS448 rfl rfl rfl b_sub)) fun a449 hS449 => ?_
                          refine d_one 13 #[true, true, true, true, true, true, true, true, true, true, true, true, true, true, false, false, false] rfl (by kernel_rfl) (arm_eff hS449 rfl rfl rfl (e_lit (e := 3) (parts := [(0, .int .i64 (wi ((wi ((min (p0.length : Int) 8) - 1)) - x419)))]) (cs := [.int .i64 (wi ((wi ((min (p0.length : Int) 8) - 1)) - x419))]) (kint .i64) [wi ((wi ((min (p0.length : Int) 8) - 1)) - x419)] (N + 16) g393 hS449 rfl rfl (fun _ => by kernel_rfl) rfl (by decide) (Rows.cons (cs := [.int .i64 (wi ((wi ((min (p0.length : Int) 8) - 1)) - x419))]) rfl Rows.nil)) (fun _ _ g' hR _ => ⟨g', hC.trans hR.2 (fun _ h => h.elim)⟩) ?_)
                          rintro _ a453 w454 g454 ⟨⟨A450, rfl, h451⟩, F454⟩ hS453
                          have hC454 := hC.trans F454 (fun _ h => h.elim)
                          replace h310 := OwS.fr h310 F454 (fun _ _ h => h)
                          replace h345 := h345.fr F454 (fun h => h)
                          replace h440 := RdS.fr h440 F454 (by decide) (fun _ _ h => h)
                          replace hel437 := hel437.fr F454 (fun _ _ h => h)
                          replace h10 := OwS.fr h10 F454 (fun _ _ h => h)
                          replace h396 := OwS.fr h396 F454 (fun _ _ h => h)
                          replace hF := hF.trans F454 (fun _ h => h.elim)
                          refine d_one 14 #[true, true, true, true, true, true, true, true, true, true, true, true, true, true, true, false, false] rfl (by kernel_rfl) (arm_eff hS453 rfl rfl rfl (e_append (e := 3) (sz := 1) (by_ := 8) (z := [.int .i64 0]) (kd := (kint .i64)) g454 hS453 rfl rfl rfl rfl (by kernel_rfl) (by kernel_rfl) rfl rfl rfl rfl h396 (OwD.rdx h451) (fun _ _ _ h => h) hy425) (fun _ _ g' hR _ => ⟨g', hC454.trans hR.2 (fun c' (hm : c' = N + 18) => by show c' = N + 18; omega)⟩) ?_)
                          rintro _ a459 w460 g460 ⟨⟨A455, cap456, rfl, h457⟩, F460⟩ hS459
                          have hC460 := hC454.trans F460 (fun c' (hm : c' = N + 18) => by show c' = N + 18; omega)
                          replace h310 := OwS.fr h310 F460 (fun c' hc (hm : c' = N + 18) => by omega)
                          replace h345 := h345.fr F460 (fun (hm : N + 14 = N + 18) => by omega)
                          replace h440 := RdS.fr h440 F460 (by decide) (fun q (hq : q = N + 10 + 1) (hm : q = N + 18) => by omega)
                          replace hel437 := hel437.fr F460 (fun q (hq : q = N + 10) (hm : q = N + 18) => by omega)
                          replace h451 := OwS.fr h451 F460 (fun c' hc (hm : c' = N + 18) => by omega)
                          replace h10 := OwS.fr h10 F460 (fun c' hc (hm : c' = N + 18) => by omega)
                          replace hF := hF.trans F460 (fun c' (hm : c' = N + 18) => by show (r0 ≤ c' ∧ c' < r0 + 2) ∨ N ≤ c'; omega)
                          refine d_pure hS459 15 #[true, true, true, true, true, true, true, true, true, true, true, true, true, true, true, true, false] rfl rfl rfl rfl (by kernel_rfl) (fun _ _ _ h => h) (fun _ => (r_fieldB (off := 1) hS459 rfl rfl (by kernel_rfl))) fun a461 hS461 => ?_
                          refine d_one 16 #[true, true, true, true, true, true, true, true, true, true, true, true, true, true, true, true, true] rfl (by kernel_rfl) (arm_effS hS461 rfl rfl (e_storeB (n := 1) (bb := false) (cs' := [.int .i64 m4_0.Parent, .slice A455 y424.length cap456, .int .u64 m4_0.Delay]) g460 hS461 rfl rfl rfl (by kernel_rfl) rfl rfl rfl h345 rfl rfl) (.inl (by decide)) ?_)
                          rintro a462 w463 g463 ⟨h345, F463⟩ hS462
                          replace h310 := OwS.fr h310 F463 (fun c' hc (hm : c' = N + 14) => by omega)
                          replace h440 := RdS.fr h440 F463 (by decide) (fun q (hq : q = N + 10 + 1) (hm : q = N + 14) => by omega)
                          replace hel437 := hel437.fr F463 (fun q (hq : q = N + 10) (hm : q = N + 14) => by omega)
                          replace h451 := OwS.fr h451 F463 (fun c' hc (hm : c' = N + 14) => by omega)
                          replace h457 := OwS.fr h457 F463 (fun c' hc (hm : c' = N + 14) => by omega)
                          replace h10 := OwS.fr h10 F463 (fun c' hc (hm : c' = N + 14) => by omega)
                          replace hF := hF.trans F463 (fun c' (hm : c' = N + 14) => by show (r0 ≤ c' ∧ c' < r0 + 2) ∨ N ≤ c'; omega)
                          refine d_done (by kernel_rfl) (hK _ _ ?_)
                          replace hS : Sl 161 _ [(3, .slice A8 v11.length cap9), (4, .int .i64 (min (p0.length : Int) 8)), (11, .slice A308 m3_0.length cap309), (12, .int .i64 m3_1), (13, .pointer (some ⟨b344, 0, none⟩)), (14, .int .i64 m4_1)] := hS462.re ⟨rfl, rfl, rfl, rfl, rfl, rfl, trivial⟩
                          clear hK K hC
                          try clear hS431 hS432 hS433 hS434 hS435 hS436 hS443 hS444 hS445 hS446 hS447 hS448 hS449 hS453 hS459 hS461 hS462
                          obtain ⟨a, ha⟩ : ∃ a', a' = a462 := ⟨_, rfl⟩
                          rw [← ha] at hS ⊢; clear ha
                          change Code.wp _ _ _ _ _
                          refine c_pure1 [(3, .slice A8 v11.length cap9), (4, .int .i64 (min (p0.length : Int) 8)), (11, .slice A308 m3_0.length cap309), (12, .int .i64 m3_1), (13, .pointer (some ⟨b344, 0, none⟩)), (14, .int .i64 (wi (m4_1 + 1)))] (fun R hR => st_val hS rfl rfl rfl (r_move hS rfl rfl) fun a464 hS464 => st_val hS464 rfl rfl rfl (r_bin hS464 rfl rfl rfl b_add) fun a465 hS465 => st_val hS465 rfl rfl rfl (r_assign hS465 rfl rfl) fun a466 hS466 => wpList_nil (hR _ (hS466.re ⟨rfl, rfl, rfl, rfl, rfl, rfl, trivial⟩))) ?_
                          clear hS
                          clear a
                          intro a hS
                          refine ⟨k397, Nat.lt_succ_self _, ?_⟩
                          exact ⟨(api_IdleDevice.mk m4_0.Parent y424 m4_0.Delay), wi (m4_1 + 1), g463, A455, cap456, H, hS.re ⟨rfl, rfl, rfl, rfl, rfl, rfl, trivial⟩, h310, h345, h10, h457, hF⟩
                        · replace H := ite_f hb412 H
                          refine wp_exit ?_
                          have e := Option.some.inj H
                          subst e
                          exact ⟨g393, A394, cap395, hS.re ⟨rfl, rfl, rfl, rfl, rfl, trivial⟩, h310, h345, h10, h396, hF⟩
                  · clear H
                    clear h10 h310 h345 hF
                    clear hS
                    rintro a w385 ⟨g385, A386, cap387, hS, h310, h345, h10, h388, hF⟩
                    have H := Hl391
                    clear Hl391
                    obtain ⟨x473, hx474, H⟩ := bind_el H
                    refine c_region1 (fun K hK => ?_)
                    refine st_val hS rfl rfl rfl (r_move hS rfl rfl) fun a467 hS467 => st_val hS467 rfl rfl rfl (r_move hS467 rfl rfl) fun a468 hS468 => st_val hS468 rfl rfl rfl (r_bin hS468 rfl rfl rfl b_sub) fun a469 hS469 => st_val hS469 rfl rfl rfl (r_move hS469 rfl rfl) fun a470 hS470 => st_val hS470 rfl rfl rfl (r_bin hS470 rfl rfl rfl b_sub) fun a471 hS471 => st_val hS471 rfl rfl rfl (r_loadN (n := 3) (cs := [.int .i64 v389.Parent, .slice A386 v389.Suppliers.length cap387, .int .u64 v389.Delay]) hS471 rfl rfl (by kernel_rfl) rfl (Bx.cells_off h345 0 3)) fun a472 hS472 => ?_
                    obtain ⟨_, ⟨A476, cap477, rfl, h478⟩, hel475⟩ := El.of (OwD.rdx h310) hx474 (by decide)
                    replace hel475 : El w385 g385 (fun q => q = N + 12) A308 ((wi ((wi ((min (p0.length : Int) 8) - 1)) - m3_1)).toNat * 3) [.int .i64 x473.Parent, .slice A476 x473.Suppliers.length cap477, .int .u64 x473.Delay] := hel475
                    refine st_val hS472 rfl rfl rfl (r_index (e := 30) (sz := 3) (by_ := 40) hS472 rfl rfl rfl (by kernel_rfl) (RdS.some_ (OwS.rd h310) hx474) (idx_lo hx474) (idx_hi hx474)) fun a481 hS481 => ?_
                    have F482 : Fr (fun q => q = N + 18) w385 g385 w385 (recol g385 (N + 18) (N + 12 + 1)) := Fr.recol w385 g385 (N + 18) (N + 12 + 1) rfl
                    replace h310 := OwS.fr h310 F482 (fun c' hc (hm : c' = N + 18) => by omega)
                    replace h345 := h345.fr F482 (fun (hm : N + 14 = N + 18) => by omega)
                    replace h478 := RdS.fr h478 F482 (by decide) (fun q (hq : q = N + 12 + 1) (hm : q = N + 18) => by omega)
                    replace hel475 := hel475.fr F482 (fun q (hq : q = N + 12) (hm : q = N + 18) => by omega)
                    replace h10 := OwS.fr h10 F482 (fun c' hc (hm : c' = N + 18) => by omega)
                    replace h388 : RdS (kint .i64) w385 (recol g385 (N + 18) (N + 12 + 1)) (fun q => q = N + 12 + 1) A386 cap387 v389.Suppliers := RdS.recolC (OwD.rdf (fun _ _ _ _ _ _ h => h) h388) (by decide) (N + 18) (N + 12 + 1) (fun q (hq : q = N + 18) => show (fun q => q = N + 12 + 1) (if q = N + 18 then N + 12 + 1 else q) from (by rw [if_pos hq] <;> exact rfl))
                    replace hF := hF.trans F482 (fun c' (hm : c' = N + 18) => by show (r0 ≤ c' ∧ c' < r0 + 2) ∨ N ≤ c'; omega)
                    refine st_effS hS481 rfl rfl (e_storeW (n := 3) (bb := true) (kd := kd_api_IdleDevice) (x' := v389) (us := [.int .i64 v389.Parent, .slice A386 v389.Suppliers.length cap387, .int .u64 v389.Delay]) (recol g385 (N + 18) (N + 12 + 1)) hS481 rfl rfl rfl rfl (by kernel_rfl) rfl rfl h310 (fun q (hq : q = N + 12 + 1) => by omega) hx474 ⟨A386, cap387, rfl, h388⟩) ?_
                    rintro a483 w484 g484 ⟨h310, F484⟩ hS483
                    replace h345 := h345.fr F484 (fun (hm : N + 14 = N + 12) => by omega)
                    replace h478 := RdS.fr h478 F484 (by decide) (fun q (hq : q = N + 12 + 1) (hm : q = N + 12) => by omega)
                    replace h10 := OwS.fr h10 F484 (fun c' hc (hm : c' = N + 12) => by omega)
                    replace h388 := RdS.fr h388 F484 (by decide) (fun q (hq : q = N + 12 + 1) (hm : q = N + 12) => by omega)
                    replace hF := hF.trans F484 (fun c' (hm : c' = N + 12) => by show (r0 ≤ c' ∧ c' < r0 + 2) ∨ N ≤ c'; omega)
                    have hT : Sl 161 a483 [(3, .slice A8 v11.length cap9), (4, .int .i64 (min (p0.length : Int) 8)), (11, .slice A308 m3_0.length cap309), (12, .int .i64 m3_1)] := hS483.re ⟨rfl, rfl, rfl, rfl, trivial⟩
                    replace hS483 : Sl 161 a483 [(3, .slice A8 v11.length cap9), (4, .int .i64 (min (p0.length : Int) 8)), (11, .slice A308 (upd m3_0 (wi ((wi ((min (p0.length : Int) 8) - 1)) - m3_1)) v389).length cap309), (12, .int .i64 m3_1)] := by simpa only [upd_length] using hT
                    clear hT
                    refine wpList_nil (hK _ _ ?_)
                    replace hS : Sl 161 _ [(3, .slice A8 v11.length cap9), (4, .int .i64 (min (p0.length : Int) 8)), (11, .slice A308 (upd m3_0 (wi ((wi ((min (p0.length : Int) 8) - 1)) - m3_1)) v389).length cap309), (12, .int .i64 m3_1)] := hS483.re ⟨rfl, rfl, rfl, rfl, trivial⟩
                    clear hK K
                    try clear hS467 hS468 hS469 hS470 hS471 hS472 hS481 hS483
                    obtain ⟨a, ha⟩ : ∃ a', a' = a483 := ⟨_, rfl⟩
                    rw [← ha] at hS ⊢; clear ha
                    have e := Option.some.inj H
                    subst e
                    exact ⟨g484, hS.re ⟨rfl, rfl, rfl, rfl, trivial⟩, h310, h10, hF⟩
              · clear H
                clear h10 h310 hF
                clear hS
                rintro a w326 ⟨g326, hS, h310, h10, hF⟩
                have H := Hl329
                clear Hl329
                refine c_pure1 [(3, .slice A8 v11.length cap9), (4, .int .i64 (min (p0.length : Int) 8)), (11, .slice A308 v327.length cap309), (12, .int .i64 (wi (m3_1 + 1)))] (fun R hR => st_val hS rfl rfl rfl (r_move hS rfl rfl) fun a485 hS485 => st_val hS485 rfl rfl rfl (r_bin hS485 rfl rfl rfl b_add) fun a486 hS486 => st_val hS486 rfl rfl rfl (r_assign hS486 rfl rfl) fun a487 hS487 => wpList_nil (hR _ (hS487.re ⟨rfl, rfl, rfl, rfl, trivial⟩))) ?_
                clear hS
                clear a
                intro a hS
                refine ⟨k321, Nat.lt_succ_self _, ?_⟩
                exact ⟨v327, wi (m3_1 + 1), g326, H, hS.re ⟨rfl, rfl, rfl, rfl, trivial⟩, h310, h10, hF⟩
            · replace H := ite_f hb325 H
              refine wp_exit ?_
              have e := Option.some.inj H
              subst e
              exact ⟨g320, hS.re ⟨rfl, trivial⟩, h310, hF⟩
      · clear H
        clear h10 h310 hF
        clear hS
        rintro a w315 ⟨g315, hS, h310, hF⟩
        have H := Hl318
        clear Hl318
        refine c_pure [(2, .slice A308 v316.length cap309)] (fun R hR => st_val hS rfl rfl rfl (r_move hS rfl rfl) fun a488 hS488 => st_val hS488 rfl rfl rfl (r_assign hS488 rfl rfl) fun a489 hS489 => wpList_nil (hR _ (hS489.re ⟨rfl, trivial⟩))) ?_
        clear hS
        clear a
        intro a hS
        refine wp_ret ?_
        have e := Option.some.inj H
        subst e
        have F490 := Fr.recol2 w315 g315 (N + 12) r0
        replace h310 := h310.recol2 r0
        replace hF := hF.trans F490 (fun c' (hm : c' = N + 12 ∨ c' = N + 12 + 1) => by show (r0 ≤ c' ∧ c' < r0 + 2) ∨ N ≤ c'; omega)
        repeat (with_reducible first | refine then_ret ?_ | refine inBlock_ret ?_)
        exact c_ret1 hS Try.results17 rfl ⟨_, rfl, (recol2 g315 (N + 12) r0), A308, cap309, rfl, h310, hF⟩


end Go.Proofs.Ytcfcffbjdjacfaa.Sim

namespace Go.Proofs.Ytcfcffbjdjacfaa.Sim
open Go
set_option linter.unusedVariables false
set_option linter.unusedSimpArgs false

/-! ### runtimepm_Manager_Active: function 28 -/
def runtimepm_Manager_Active.f (p0 : runtimepm_Manager) (p1 : Int) : Option (Bool) := (runtimepm_Manager_has.f p0 p1).bind fun r4 => (if r4 = true then (idx p0.devices p1).bind fun x15 => some x15.active else some false).bind fun t30 => some t30
set_option maxRecDepth 100000 in
set_option maxHeartbeats 4000000 in
theorem runtimepm_Manager_Active.calls {p0 : runtimepm_Manager} {c0 : Nat}  {b_p0 : Nat} {A_devices_p0 : Option Addr} {cap_devices_p0 : Nat} {A_links_p0 : Option Addr} {cap_links_p0 : Nat} {A_order_p0 : Option Addr} {cap_order_p0 : Nat} {p1 : Int} {w : World} {g : Nat → Nat} {out : Bool} (N : Nat) (hp0 : runtimepm_Manager_At w g c0 b_p0 A_devices_p0 cap_devices_p0 A_links_p0 cap_links_p0 A_order_p0 cap_order_p0 p0) (hc0 : c0 + 7 ≤ N) (H : runtimepm_Manager_Active.f p0 p1 = some out) :
    Calls Try.prog 28 #[.pointer (some ⟨b_p0, 0, none⟩), .int .i64 p1] w (fun e w' => ∃ v, e = .returned v ∧ ∃ (g' : Nat → Nat), v = .bool out ∧ Fr (fun q => N ≤ q) w g w' g') := by
  unfold runtimepm_Manager_Active.f at H
  refine calls_enter Try.func28 rfl Try.ntmps28 rfl (fun a hS => ?_)
  replace hS : Sl 18 a [(0, .pointer (some ⟨b_p0, 0, none⟩)), (1, .int .i64 p1)] := hS
  have hF : Fr (fun q => N ≤ q) w g w g := Fr.refl _ _ _
  obtain ⟨hb0, hf0_devices, hf0_links, hf0_order⟩ := hp0
  refine c_pure [(0, .pointer (some ⟨b_p0, 0, none⟩)), (1, .int .i64 p1)] (fun R hR => st_val hS rfl rfl rfl (r_assign hS rfl rfl) fun a1 hS1 => wpList_nil (hR _ (hS1.re ⟨rfl, rfl, trivial⟩))) ?_
  clear hS
  clear a
  intro a hS
  obtain ⟨r4, hr5, H⟩ := bind_el H
  obtain ⟨t30, ht31, H⟩ := bind_el H
  refine c_region (fun K hK => ?_)
  refine st_val hS rfl rfl rfl (r_move hS rfl rfl) fun a2 hS2 => st_val hS2 rfl rfl rfl (r_move hS2 rfl rfl) fun a3 hS3 => ?_
  refine st_enter hS3 rfl rfl rfl (r_call hS3 rfl rfl (by kernel_rfl)) (runtimepm_Manager_has.calls (c0 := c0) (b_p0 := b_p0) (A_devices_p0 := A_devices_p0) (cap_devices_p0 := cap_devices_p0) (A_links_p0 := A_links_p0) (cap_links_p0 := cap_links_p0) (A_order_p0 := A_order_p0) (cap_order_p0 := cap_order_p0) (p0 := p0) (p1 := p1) (g := g) (N + 0)  ⟨hb0, hf0_devices, hf0_links, hf0_order⟩ (by omega) hr5) ?_
  rintro _ a6 w7 ⟨g7, rfl, F7⟩ hS6
  replace hb0 := hb0.fr F7 (fun (hm : N + 0 ≤ c0) => by omega)
  replace hf0_devices := OwS.fr hf0_devices F7 (fun c' hc (hm : N + 0 ≤ c') => by omega)
  replace hf0_links := OwS.fr hf0_links F7 (fun c' hc (hm : N + 0 ≤ c') => by omega)
  replace hf0_order := OwS.fr hf0_order F7 (fun c' hc (hm : N + 0 ≤ c') => by omega)
  replace hF := hF.trans F7 (fun c' (hm : N + 0 ≤ c') => by show N ≤ c'; omega)
  refine st_val hS6 rfl rfl rfl (r_move hS6 rfl rfl) fun a8 hS8 => ?_
  refine g_join (N := 18) 9 [(17, .bool t30)] ?_ (fun hk => ?_)
  rotate_left
  · rcases Bool.eq_false_or_eq_true (r4) with hb9 | hb9
    · have H := ite_t hb9 ht31
      obtain ⟨x37, hx38, H⟩ := bind_el H
      have e52 := Option.some.inj H
      refine st_valW hS8 (want_on hS8 rfl rfl rfl hb9) rfl rfl (r_move hS8 rfl rfl) fun a32 hS32 => st_valW hS32 (want_on hS32 rfl rfl rfl hb9) rfl rfl (r_nil hS32 rfl rfl) fun a33 hS33 => st_valW hS33 (want_on hS33 rfl rfl rfl hb9) rfl rfl (r_fieldB (off := 0) hS33 rfl rfl (by kernel_rfl)) fun a34 hS34 => st_valW hS34 (want_on hS34 rfl rfl rfl hb9) rfl rfl (r_load1 (n := 1) hS34 rfl rfl (by kernel_rfl) (Bx.cell hb0 rfl)) fun a35 hS35 => st_valW hS35 (want_on hS35 rfl rfl rfl hb9) rfl rfl (r_move hS35 rfl rfl) fun a36 hS36 => ?_
      obtain ⟨_, ⟨A40, cap41, A44, cap45, rfl, h42, h46⟩, hel39⟩ := El.of (OwD.rdx hf0_devices) hx38 (by decide)
      replace hel39 : El w7 g7 (fun q => q = c0 + 1) A_devices_p0 (p1.toNat * 6) [.int .u64 x37.delay, .slice A40 x37.suppliers.length cap41, .slice A44 x37.consumers.length cap45, .bool x37.active, .int .i64 x37.count, .int .u64 x37.idle] := hel39
      refine st_valW hS36 (want_on hS36 rfl rfl rfl hb9) rfl rfl (r_index (e := 88) (sz := 6) (by_ := 80) hS36 rfl rfl rfl (by kernel_rfl) (RdS.some_ (OwS.rd hf0_devices) hx38) (idx_lo hx38) (idx_hi hx38)) fun a49 hS49 => st_valW hS49 (want_on hS49 rfl rfl rfl hb9) rfl rfl (r_fieldE (off := 3) hS49 rfl rfl (by kernel_rfl)) fun a50 hS50 => st_valW hS50 (want_on hS50 rfl rfl rfl hb9) rfl rfl (r_load1 (n := 1) hS50 rfl rfl (by kernel_rfl) (El.cell (j := 3) hel39 rfl)) fun a51 hS51 => st_val hS51 rfl rfl rfl (r_pickT hS51 rfl rfl rfl hb9) fun a53 hS53 => hk _ (hS53.re ⟨(by rw [← e52]; rfl), trivial⟩)
    · have H := ite_f hb9 ht31
      have e54 := Option.some.inj H
      refine st_off hS8 (want_off hS8 rfl rfl rfl hb9) rfl rfl fun a55 hS55 => st_off hS55 (want_off hS55 rfl rfl rfl hb9) rfl rfl fun a56 hS56 => st_off hS56 (want_off hS56 rfl rfl rfl hb9) rfl rfl fun a57 hS57 => st_off hS57 (want_off hS57 rfl rfl rfl hb9) rfl rfl fun a58 hS58 => st_off hS58 (want_off hS58 rfl rfl rfl hb9) rfl rfl fun a59 hS59 => st_off hS59 (want_off hS59 rfl rfl rfl hb9) rfl rfl fun a60 hS60 => st_off hS60 (want_off hS60 rfl rfl rfl hb9) rfl rfl fun a61 hS61 => st_off hS61 (want_off hS61 rfl rfl rfl hb9) rfl rfl fun a62 hS62 => st_val hS62 rfl rfl rfl (r_pickF hS62 rfl rfl rfl hb9) fun a63 hS63 => hk _ (hS63.re ⟨(by rw [← e54]; rfl), trivial⟩)
  intro a64 hS64
  refine st_val hS64 rfl rfl rfl (r_assign hS64 rfl rfl) fun a65 hS65 => wpList_nil (hK _ _ ?_)
  replace hS : Sl 18 _ [(4, .bool t30)] := hS65.re ⟨rfl, trivial⟩
  clear hK K
  try clear hS2 hS3 hS6 hS8 hS64 hS65
  obtain ⟨a, ha⟩ : ∃ a', a' = a65 := ⟨_, rfl⟩
  rw [← ha] at hS ⊢; clear ha
  refine wp_ret ?_
  have e := Option.some.inj H
  subst e
  repeat (with_reducible first | refine then_ret ?_ | refine inBlock_ret ?_)
  exact c_ret1 hS Try.results28 rfl ⟨_, rfl, g7, rfl, hF⟩


end Go.Proofs.Ytcfcffbjdjacfaa.Sim

namespace Go.Proofs.Ytcfcffbjdjacfaa.Sim
open Go
set_option linter.unusedVariables false
set_option linter.unusedSimpArgs false

def Wf_api_IdleDevice (x : api_IdleDevice) : Prop := (Lit.int .i64 x.Parent).wf = true ∧ (x.Suppliers.length ≤ maxLen ∧ ∀ x' ∈ x.Suppliers, (Lit.int .i64 x').wf = true) ∧ (Lit.int .u64 x.Delay).wf = true
theorem opens_api_IdleDevice : Opens Try.prog 30 kd_api_IdleDevice Wf_api_IdleDevice := by
  intro H enc w held fuel cs x h
  have hl : cs.length = 3 := by
    obtain ⟨_, _, _, _, hl, _⟩ := DataW.trod_struct Try.underlying30 h
    rw [hl]; kernel_rfl
  match cs, hl with
  | [c0, c1, c2], _ =>
    obtain ⟨ys0, m0, _, _, _, hlen0, hf0⟩ := DataW.trod_struct Try.underlying30 h
    obtain ⟨y0_0, h0_0⟩ := trod_field hf0 hlen0 0 rfl (n := 1) (by kernel_rfl)
    obtain ⟨n1, r1, w1⟩ := (Opens.int Try.underlying3) enc w held _ _ _ h0_0
    injection (show [c0] = [.int .i64 n1] from r1) with e1; subst e1
    obtain ⟨y0_1, h0_1⟩ := trod_field hf0 hlen0 1 rfl (n := 1) (by kernel_rfl)
    obtain ⟨n2, r2, w2⟩ := (Opens.slice Try.underlying27 (by decide) (by kernel_rfl) (Opens.int Try.underlying3)) enc w held _ _ _ h0_1
    obtain ⟨A2, cap2, e2, s2⟩ := r2
    injection (show [c1] = [.slice A2 n2.length cap2] from e2) with e2; subst e2
    obtain ⟨y0_2, h0_2⟩ := trod_field hf0 hlen0 2 rfl (n := 1) (by kernel_rfl)
    obtain ⟨n3, r3, w3⟩ := (Opens.int Try.underlying28) enc w held _ _ _ h0_2
    injection (show [c2] = [.int .u64 n3] from r3) with e3; subst e3
    exact ⟨(api_IdleDevice.mk n1 n2 n3), ⟨A2, cap2, rfl, s2⟩, ⟨w1, w2, w3⟩⟩

def Wf_law28_Call (x : law28_Call) : Prop := (Lit.int .i64 x.Kind).wf = true ∧ (Lit.int .i64 x.Device).wf = true ∧ (Lit.int .u64 x.Wait).wf = true ∧ True
theorem opens_law28_Call : Opens Try.prog 54 kd_law28_Call Wf_law28_Call := by
  intro H enc w held fuel cs x h
  have hl : cs.length = 4 := by
    obtain ⟨_, _, _, _, hl, _⟩ := DataW.trod_struct Try.underlying54 h
    rw [hl]; kernel_rfl
  match cs, hl with
  | [c0, c1, c2, c3], _ =>
    obtain ⟨ys0, m0, _, _, _, hlen0, hf0⟩ := DataW.trod_struct Try.underlying54 h
    obtain ⟨y0_0, h0_0⟩ := trod_field hf0 hlen0 0 rfl (n := 1) (by kernel_rfl)
    obtain ⟨n1, r1, w1⟩ := (Opens.int Try.underlying3) enc w held _ _ _ h0_0
    injection (show [c0] = [.int .i64 n1] from r1) with e1; subst e1
    obtain ⟨y0_1, h0_1⟩ := trod_field hf0 hlen0 1 rfl (n := 1) (by kernel_rfl)
    obtain ⟨n2, r2, w2⟩ := (Opens.int Try.underlying3) enc w held _ _ _ h0_1
    injection (show [c1] = [.int .i64 n2] from r2) with e2; subst e2
    obtain ⟨y0_2, h0_2⟩ := trod_field hf0 hlen0 2 rfl (n := 1) (by kernel_rfl)
    obtain ⟨n3, r3, w3⟩ := (Opens.int Try.underlying28) enc w held _ _ _ h0_2
    injection (show [c2] = [.int .u64 n3] from r3) with e3; subst e3
    obtain ⟨y0_3, h0_3⟩ := trod_field hf0 hlen0 3 rfl (n := 1) (by kernel_rfl)
    obtain ⟨n4, r4, w4⟩ := (Opens.bool Try.underlying4) enc w held _ _ _ h0_3
    injection (show [c3] = [.bool n4] from r4) with e4; subst e4
    exact ⟨(law28_Call.mk n1 n2 n3 n4), rfl, ⟨w1, w2, w3, w4⟩⟩


end Go.Proofs.Ytcfcffbjdjacfaa.Sim
