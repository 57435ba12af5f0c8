/-
  Texts of this session, part 4 of 6: the words of the walk, plain functions with the same answers as the Go functions and the proofs of it, plain lemmas. No condition.
  They are, one behind the other: QLaw31Awake Op SimL LwResumeMoreWorkersOnIndependentDevices.
-/
import Derived.Test.YthmjgadmadlpkaaProg
import Derived.Test.YthmjgadmadlpkaaZResumeMoreWorkersOnIndependentDevices3

namespace Go.Proofs.Ythmjgadmadlpkaa.Sim
open Go
set_option linter.unusedVariables false
set_option linter.unusedSimpArgs false

/-! ### law31_awake: function 14 -/
def law31_awake.f  : Option (Bool) := (resume_Schedule.f 3 [(api_Link.mk 2 0)] [3, 2, 4] 2).bind fun r17 => (resume_CriticalPath.f 3 [(api_Link.mk 2 0)] [3, 2, 4]).bind fun r32 => (if (((r17.2 == 0) && (r32.2 == 0)) && (r32.1 == 7)) = true then (resume_Makespan.f r17.1).bind fun r68 => some (r68 == 7) else some false).bind fun t73 => (if t73 = true then (help_Equal_api_Slot.f r17.1 [(api_Slot.mk 0 0 0 3), (api_Slot.mk 1 1 0 2), (api_Slot.mk 2 0 3 7)]).bind fun r101 => some r101 else some false).bind fun t105 => (if t105 = true then (resume_Verify.f 3 [(api_Link.mk 2 0)] [3, 2, 4] 1 r17.1).bind fun r137 => some (r137 == 1) else some false).bind fun t142 => some t142
set_option maxRecDepth 100000 in
set_option maxHeartbeats 4000000 in
theorem law31_awake.calls  {w : World} {g : Nat → Nat} {out : Bool} (N : Nat)  (H : law31_awake.f  = some out) :
    Calls Try.prog 14 #[] w (fun e w' => ∃ v, e = .returned v ∧ ∃ (g' : Nat → Nat), v = .bool out ∧ Fr (fun q => N ≤ q) w g w' g') := by
  unfold law31_awake.f at H
  refine calls_enter Try.func14 rfl Try.ntmps14 rfl (fun a hS => ?_)
  replace hS : Sl 52 a [] := hS
  have hF : Fr (fun q => N ≤ q) w g w g := Fr.refl _ _ _
  refine c_pure [] (fun R hR => st_val hS rfl rfl rfl (r_assign hS rfl rfl) fun a1 hS1 => wpList_nil (hR _ (hS1.re trivial))) ?_
  clear hS
  clear a
  intro a hS
  refine c_region (fun K hK => ?_)
  refine st_val hS rfl rfl rfl (r_build (parts := [(0, .int .i64 2), (1, .int .i64 0)]) (u := .agg #[.int .i64 2, .int .i64 0]) hS rfl rfl (fun _ => by kernel_rfl)) fun a2 hS2 => ?_
  refine st_eff hS2 rfl rfl rfl (e_lit (e := 43) (parts := [(0, .agg #[.int .i64 2, .int .i64 0])]) (cs := [.int .i64 2, .int .i64 0]) kd_api_Link [(api_Link.mk 2 0)] (N + 0) g hS2 rfl rfl (fun _ => by kernel_rfl) rfl (by decide) (Rows.cons (cs := [.int .i64 2, .int .i64 0]) rfl Rows.nil)) ?_
  rintro _ a6 w7 g7 ⟨⟨A3, rfl, h4⟩, F7⟩ hS6
  replace hF := hF.trans F7 (fun _ h => h.elim)
  refine st_eff hS6 rfl rfl rfl (e_lit (e := 33) (parts := [(0, .int .u64 3), (1, .int .u64 2), (2, .int .u64 4)]) (cs := [.int .u64 3, .int .u64 2, .int .u64 4]) (kint .u64) [3, 2, 4] (N + 2) g7 hS6 rfl rfl (fun _ => by kernel_rfl) rfl (by decide) (Rows.cons (cs := [.int .u64 3]) rfl (Rows.cons (cs := [.int .u64 2]) rfl (Rows.cons (cs := [.int .u64 4]) rfl Rows.nil)))) ?_
  rintro _ a11 w12 g12 ⟨⟨A8, rfl, h9⟩, F12⟩ hS11
  replace h4 := OwS.fr h4 F12 (fun _ _ h => h)
  replace hF := hF.trans F12 (fun _ h => h.elim)
  refine st_val hS11 rfl rfl rfl (r_assign hS11 rfl rfl) fun a13 hS13 => st_val hS13 rfl rfl rfl (r_assign hS13 rfl rfl) fun a14 hS14 => wpList_nil (hK _ _ ?_)
  replace hS : Sl 52 _ [(1, .slice A3 [(api_Link.mk 2 0)].length 1), (2, .slice A8 [3, 2, 4].length 3)] := hS14.re ⟨rfl, rfl, trivial⟩
  clear hK K
  try clear hS2 hS6 hS11 hS13 hS14
  obtain ⟨a, ha⟩ : ∃ a', a' = a14 := ⟨_, rfl⟩
  rw [← ha] at hS ⊢; clear ha
  obtain ⟨r17, hr18, H⟩ := bind_el H
  refine c_region (fun K hK => ?_)
  refine st_val hS rfl rfl rfl (r_move hS rfl rfl) fun a15 hS15 => st_val hS15 rfl rfl rfl (r_move hS15 rfl rfl) fun a16 hS16 => ?_
  refine st_enter hS16 rfl rfl rfl (r_call hS16 rfl rfl (by kernel_rfl)) (resume_Schedule.calls (C1 := (fun q => q = N + 0)) (C2 := (fun q => q = N + 2)) (p0 := 3) (p1 := [(api_Link.mk 2 0)]) (p2 := [3, 2, 4]) (p3 := 2) (g := g12) (N + 8) (N + 4) (OwD.rdf (fun _ _ _ _ _ _ h => h) h4) (fun q (hq : q = N + 0) => by omega) (OwD.rdf (fun _ _ _ _ _ _ h => h) h9) (fun q (hq : q = N + 2) => by omega) (by omega) hr18) ?_
  rintro _ a23 w24 ⟨g24, A19, cap20, rfl, h21, F24⟩ hS23
  replace h9 := OwS.fr h9 F24 (fun c' hc (hm : (N + 4 ≤ c' ∧ c' < N + 4 + 2) ∨ N + 8 ≤ c') => by omega)
  replace h4 := OwS.fr h4 F24 (fun c' hc (hm : (N + 4 ≤ c' ∧ c' < N + 4 + 2) ∨ N + 8 ≤ c') => by omega)
  replace hF := hF.trans F24 (fun c' (hm : (N + 4 ≤ c' ∧ c' < N + 4 + 2) ∨ N + 8 ≤ c') => by show N ≤ c'; omega)
  refine st_val hS23 rfl rfl rfl (r_move hS23 rfl rfl) fun a25 hS25 => st_val hS25 rfl rfl rfl (r_extract hS25 rfl rfl rfl) fun a26 hS26 => st_val hS26 rfl rfl rfl (r_extract hS26 rfl rfl rfl) fun a27 hS27 => st_val hS27 rfl rfl rfl (r_assign hS27 rfl rfl) fun a28 hS28 => st_val hS28 rfl rfl rfl (r_assign hS28 rfl rfl) fun a29 hS29 => wpList_nil (hK _ _ ?_)
  replace hS : Sl 52 _ [(1, .slice A3 [(api_Link.mk 2 0)].length 1), (2, .slice A8 [3, 2, 4].length 3), (3, .slice A19 r17.1.length cap20), (4, .int .i64 r17.2)] := hS29.re ⟨rfl, rfl, rfl, rfl, trivial⟩
  clear hK K
  try clear hS15 hS16 hS23 hS25 hS26 hS27 hS28 hS29
  obtain ⟨a, ha⟩ : ∃ a', a' = a29 := ⟨_, rfl⟩
  rw [← ha] at hS ⊢; clear ha
  obtain ⟨r32, hr33, H⟩ := bind_el H
  refine c_region (fun K hK => ?_)
  refine st_val hS rfl rfl rfl (r_move hS rfl rfl) fun a30 hS30 => st_val hS30 rfl rfl rfl (r_move hS30 rfl rfl) fun a31 hS31 => ?_
  refine st_enter hS31 rfl rfl rfl (r_call hS31 rfl rfl (by kernel_rfl)) (resume_CriticalPath.calls (C1 := (fun q => q = N + 0)) (C2 := (fun q => q = N + 2)) (p0 := 3) (p1 := [(api_Link.mk 2 0)]) (p2 := [3, 2, 4]) (g := g24) (N + 8)  (OwD.rdf (fun _ _ _ _ _ _ h => h) h4) (fun q (hq : q = N + 0) => by omega) (OwD.rdf (fun _ _ _ _ _ _ h => h) h9) (fun q (hq : q = N + 2) => by omega) hr33) ?_
  rintro _ a34 w35 ⟨g35, rfl, F35⟩ hS34
  replace h9 := OwS.fr h9 F35 (fun c' hc (hm : N + 8 ≤ c') => by omega)
  replace h21 := OwS.fr h21 F35 (fun c' hc (hm : N + 8 ≤ c') => by omega)
  replace h4 := OwS.fr h4 F35 (fun c' hc (hm : N + 8 ≤ c') => by omega)
  replace hF := hF.trans F35 (fun c' (hm : N + 8 ≤ c') => by show N ≤ c'; omega)
  refine st_val hS34 rfl rfl rfl (r_move hS34 rfl rfl) fun a36 hS36 => st_val hS36 rfl rfl rfl (r_extract hS36 rfl rfl rfl) fun a37 hS37 => st_val hS37 rfl rfl rfl (r_extract hS37 rfl rfl rfl) fun a38 hS38 => st_val hS38 rfl rfl rfl (r_assign hS38 rfl rfl) fun a39 hS39 => st_val hS39 rfl rfl rfl (r_assign hS39 rfl rfl) fun a40 hS40 => wpList_nil (hK _ _ ?_)
  replace hS : Sl 52 _ [(1, .slice A3 [(api_Link.mk 2 0)].length 1), (2, .slice A8 [3, 2, 4].length 3), (3, .slice A19 r17.1.length cap20), (4, .int .i64 r17.2), (5, .int .u64 r32.1), (6, .int .i64 r32.2)] := hS40.re ⟨rfl, rfl, rfl, rfl, rfl, rfl, trivial⟩
  clear hK K
  try clear hS30 hS31 hS34 hS36 hS37 hS38 hS39 hS40
  obtain ⟨a, ha⟩ : ∃ a', a' = a40 := ⟨_, rfl⟩
  rw [← ha] at hS ⊢; clear ha
  obtain ⟨t73, ht74, H⟩ := bind_el H
  obtain ⟨t105, ht106, H⟩ := bind_el H
  obtain ⟨t142, ht143, H⟩ := bind_el H
  refine c_region (fun K hK => ?_)
  refine st_val hS rfl rfl rfl (r_move hS rfl rfl) fun a41 hS41 => st_val hS41 rfl rfl rfl (r_bin hS41 rfl rfl rfl b_eql) fun a42 hS42 => st_val hS42 rfl rfl rfl (r_move hS42 rfl rfl) fun a43 hS43 => ?_
  refine g_join (N := 52) 3 [(1, .slice A3 [(api_Link.mk 2 0)].length 1), (2, .slice A8 [3, 2, 4].length 3), (3, .slice A19 r17.1.length cap20), (5, .int .u64 r32.1), (27, .bool ((r17.2 == 0) && (r32.2 == 0)))] ?_ (fun hk => ?_)
  rotate_left
  · rcases Bool.eq_false_or_eq_true ((r17.2 == 0)) with hb44 | hb44
    · refine st_valW hS43 (want_on hS43 rfl rfl rfl hb44) rfl rfl (r_move hS43 rfl rfl) fun a47 hS47 => st_valW hS47 (want_on hS47 rfl rfl rfl hb44) rfl rfl (r_bin hS47 rfl rfl rfl b_eql) fun a48 hS48 => st_val hS48 rfl rfl rfl (r_pickT hS48 rfl rfl rfl hb44) fun a49 hS49 => hk _ (hS49.re ⟨rfl, rfl, rfl, rfl, (by rw [hb44]; rfl), trivial⟩)
    · refine st_off hS43 (want_off hS43 rfl rfl rfl hb44) rfl rfl fun a50 hS50 => st_off hS50 (want_off hS50 rfl rfl rfl hb44) rfl rfl fun a51 hS51 => st_val hS51 rfl rfl rfl (r_pickF hS51 rfl rfl rfl hb44) fun a52 hS52 => hk _ (hS52.re ⟨rfl, rfl, rfl, rfl, (by rw [hb44]; rfl), trivial⟩)
  intro a53 hS53
  refine st_val hS53 rfl rfl rfl (r_move hS53 rfl rfl) fun a54 hS54 => ?_
  refine g_join (N := 52) 3 [(1, .slice A3 [(api_Link.mk 2 0)].length 1), (2, .slice A8 [3, 2, 4].length 3), (3, .slice A19 r17.1.length cap20), (31, .bool (((r17.2 == 0) && (r32.2 == 0)) && (r32.1 == 7)))] ?_ (fun hk => ?_)
  rotate_left
  · rcases Bool.eq_false_or_eq_true (((r17.2 == 0) && (r32.2 == 0))) with hb55 | hb55
    · refine st_valW hS54 (want_on hS54 rfl rfl rfl hb55) rfl rfl (r_move hS54 rfl rfl) fun a58 hS58 => st_valW hS58 (want_on hS58 rfl rfl rfl hb55) rfl rfl (r_bin hS58 rfl rfl rfl b_eql) fun a59 hS59 => st_val hS59 rfl rfl rfl (r_pickT hS59 rfl rfl rfl hb55) fun a60 hS60 => hk _ (hS60.re ⟨rfl, rfl, rfl, (by rw [hb55]; rfl), trivial⟩)
    · refine st_off hS54 (want_off hS54 rfl rfl rfl hb55) rfl rfl fun a61 hS61 => st_off hS61 (want_off hS61 rfl rfl rfl hb55) rfl rfl fun a62 hS62 => st_val hS62 rfl rfl rfl (r_pickF hS62 rfl rfl rfl hb55) fun a63 hS63 => hk _ (hS63.re ⟨rfl, rfl, rfl, (by rw [hb55]; rfl), trivial⟩)
  intro a64 hS64
  refine st_val hS64 rfl rfl rfl (r_move hS64 rfl rfl) fun a65 hS65 => ?_
  refine g_joinR 4 (fun a w75 => ∃ (g75 : Nat → Nat), Sl 52 a [(1, .slice A3 [(api_Link.mk 2 0)].length 1), (2, .slice A8 [3, 2, 4].length 3), (3, .slice A19 r17.1.length cap20), (36, .bool t73)] ∧ OwS (kint .u64) 33 w75 g75 (N + 2) A8 3 [3, 2, 4] ∧ OwS kd_api_Slot 38 w75 g75 (N + 4) A19 cap20 r17.1 ∧ OwS kd_api_Link 43 w75 g75 (N + 0) A3 1 [(api_Link.mk 2 0)] ∧ Fr (fun q => N ≤ q) w g w75 g75) ?_ (fun hk => ?_)
  rotate_left
  · rcases Bool.eq_false_or_eq_true ((((r17.2 == 0) && (r32.2 == 0)) && (r32.1 == 7))) with hb66 | hb66
    · have H := ite_t hb66 ht74
      obtain ⟨r77, hr78, H⟩ := bind_el H
      have e82 := Option.some.inj H
      refine st_valW hS65 (want_on hS65 rfl rfl rfl hb66) rfl rfl (r_move hS65 rfl rfl) fun a76 hS76 => ?_
      refine st_enterW hS76 (want_on hS76 rfl rfl rfl hb66) rfl rfl (r_call hS76 rfl rfl (by kernel_rfl)) (resume_Makespan.calls (C0 := (fun q => q = N + 4)) (p0 := r17.1) (g := g35) (N + 8)  (OwD.rdf (fun _ _ _ _ _ _ h => h) h21) (fun q (hq : q = N + 4) => by omega) hr78) ?_
      rintro _ a79 w80 ⟨g80, rfl, F80⟩ hS79
      replace h9 := OwS.fr h9 F80 (fun c' hc (hm : N + 8 ≤ c') => by omega)
      replace h21 := OwS.fr h21 F80 (fun c' hc (hm : N + 8 ≤ c') => by omega)
      replace h4 := OwS.fr h4 F80 (fun c' hc (hm : N + 8 ≤ c') => by omega)
      replace hF := hF.trans F80 (fun c' (hm : N + 8 ≤ c') => by show N ≤ c'; omega)
      refine st_valW hS79 (want_on hS79 rfl rfl rfl hb66) rfl rfl (r_bin hS79 rfl rfl rfl b_eql) fun a81 hS81 => ?_
      refine st_val hS81 rfl rfl rfl (r_pickT hS81 rfl rfl rfl hb66) fun a83 hS83 => hk _ _ ?_
      exact ⟨g80, hS83.re ⟨rfl, rfl, rfl, (by rw [← e82]; rfl), trivial⟩, h9, h21, h4, hF⟩
    · have H := ite_f hb66 ht74
      have e84 := Option.some.inj H
      refine st_off hS65 (want_off hS65 rfl rfl rfl hb66) rfl rfl fun a85 hS85 => st_off hS85 (want_off hS85 rfl rfl rfl hb66) rfl rfl fun a86 hS86 => st_off hS86 (want_off hS86 rfl rfl rfl hb66) rfl rfl fun a87 hS87 => st_val hS87 rfl rfl rfl (r_pickF hS87 rfl rfl rfl hb66) fun a88 hS88 => hk _ _ ?_
      exact ⟨g35, hS88.re ⟨rfl, rfl, rfl, (by rw [← e84]; rfl), trivial⟩, h9, h21, h4, hF⟩
  rintro a89 w75 ⟨g75, hS89, h9, h21, h4, hF⟩
  refine st_val hS89 rfl rfl rfl (r_move hS89 rfl rfl) fun a90 hS90 => ?_
  refine g_joinR 7 (fun a w107 => ∃ (g107 : Nat → Nat), Sl 52 a [(1, .slice A3 [(api_Link.mk 2 0)].length 1), (2, .slice A8 [3, 2, 4].length 3), (3, .slice A19 r17.1.length cap20), (44, .bool t105)] ∧ OwS (kint .u64) 33 w107 g107 (N + 2) A8 3 [3, 2, 4] ∧ OwS kd_api_Slot 38 w107 g107 (N + 4) A19 cap20 r17.1 ∧ OwS kd_api_Link 43 w107 g107 (N + 0) A3 1 [(api_Link.mk 2 0)] ∧ Fr (fun q => N ≤ q) w g w107 g107) ?_ (fun hk => ?_)
  rotate_left
  · rcases Bool.eq_false_or_eq_true (t73) with hb91 | hb91
    · have H := ite_t hb91 ht106
      obtain ⟨r117, hr118, H⟩ := bind_el H
      have e121 := Option.some.inj H
      refine st_valW hS90 (want_on hS90 rfl rfl rfl hb91) rfl rfl (r_move hS90 rfl rfl) fun a108 hS108 => st_valW hS108 (want_on hS108 rfl rfl rfl hb91) rfl rfl (r_build (parts := [(0, .int .i64 0), (1, .int .i64 0), (3, .int .u64 3)]) (u := .agg #[.int .i64 0, .int .i64 0, .int .u64 0, .int .u64 3]) hS108 rfl rfl (fun _ => by kernel_rfl)) fun a109 hS109 => st_valW hS109 (want_on hS109 rfl rfl rfl hb91) rfl rfl (r_build (parts := [(0, .int .i64 1), (1, .int .i64 1), (3, .int .u64 2)]) (u := .agg #[.int .i64 1, .int .i64 1, .int .u64 0, .int .u64 2]) hS109 rfl rfl (fun _ => by kernel_rfl)) fun a110 hS110 => st_valW hS110 (want_on hS110 rfl rfl rfl hb91) rfl rfl (r_build (parts := [(0, .int .i64 2), (1, .int .i64 0), (2, .int .u64 3), (3, .int .u64 7)]) (u := .agg #[.int .i64 2, .int .i64 0, .int .u64 3, .int .u64 7]) hS110 rfl rfl (fun _ => by kernel_rfl)) fun a111 hS111 => ?_
      refine st_effW hS111 (want_on hS111 rfl rfl rfl hb91) rfl rfl (e_lit (e := 38) (parts := [(0, .agg #[.int .i64 0, .int .i64 0, .int .u64 0, .int .u64 3]), (1, .agg #[.int .i64 1, .int .i64 1, .int .u64 0, .int .u64 2]), (2, .agg #[.int .i64 2, .int .i64 0, .int .u64 3, .int .u64 7])]) (cs := [.int .i64 0, .int .i64 0, .int .u64 0, .int .u64 3, .int .i64 1, .int .i64 1, .int .u64 0, .int .u64 2, .int .i64 2, .int .i64 0, .int .u64 3, .int .u64 7]) kd_api_Slot [(api_Slot.mk 0 0 0 3), (api_Slot.mk 1 1 0 2), (api_Slot.mk 2 0 3 7)] (N + 6) g75 hS111 rfl rfl (fun _ => by kernel_rfl) rfl (by decide) (Rows.cons (cs := [.int .i64 0, .int .i64 0, .int .u64 0, .int .u64 3]) rfl (Rows.cons (cs := [.int .i64 1, .int .i64 1, .int .u64 0, .int .u64 2]) rfl (Rows.cons (cs := [.int .i64 2, .int .i64 0, .int .u64 3, .int .u64 7]) rfl Rows.nil)))) ?_
      rintro _ a115 w116 g116 ⟨⟨A112, rfl, h113⟩, F116⟩ hS115
      replace h9 := OwS.fr h9 F116 (fun _ _ h => h)
      replace h21 := OwS.fr h21 F116 (fun _ _ h => h)
      replace h4 := OwS.fr h4 F116 (fun _ _ h => h)
      replace hF := hF.trans F116 (fun _ h => h.elim)
      refine st_enterW hS115 (want_on hS115 rfl rfl rfl hb91) rfl rfl (r_call hS115 rfl rfl (by kernel_rfl)) (help_Equal_api_Slot.calls (C0 := (fun q => q = N + 4)) (C1 := (fun q => q = N + 6)) (p0 := r17.1) (p1 := [(api_Slot.mk 0 0 0 3), (api_Slot.mk 1 1 0 2), (api_Slot.mk 2 0 3 7)]) (g := g116) (N + 8)  (OwD.rdf (fun _ _ _ _ _ _ h => h) h21) (fun q (hq : q = N + 4) => by omega) (OwD.rdf (fun _ _ _ _ _ _ h => h) h113) (fun q (hq : q = N + 6) => by omega) hr118) ?_
      rintro _ a119 w120 ⟨g120, rfl, F120⟩ hS119
      replace h9 := OwS.fr h9 F120 (fun c' hc (hm : N + 8 ≤ c') => by omega)
      replace h113 := OwS.fr h113 F120 (fun c' hc (hm : N + 8 ≤ c') => by omega)
      replace h21 := OwS.fr h21 F120 (fun c' hc (hm : N + 8 ≤ c') => by omega)
      replace h4 := OwS.fr h4 F120 (fun c' hc (hm : N + 8 ≤ c') => by omega)
      replace hF := hF.trans F120 (fun c' (hm : N + 8 ≤ c') => by show N ≤ c'; omega)
      refine st_val hS119 rfl rfl rfl (r_pickT hS119 rfl rfl rfl hb91) fun a122 hS122 => hk _ _ ?_
      exact ⟨g120, hS122.re ⟨rfl, rfl, rfl, (by rw [← e121]; rfl), trivial⟩, h9, h21, h4, hF⟩
    · have H := ite_f hb91 ht106
      have e123 := Option.some.inj H
      refine st_off hS90 (want_off hS90 rfl rfl rfl hb91) rfl rfl fun a124 hS124 => st_off hS124 (want_off hS124 rfl rfl rfl hb91) rfl rfl fun a125 hS125 => st_off hS125 (want_off hS125 rfl rfl rfl hb91) rfl rfl fun a126 hS126 => st_off hS126 (want_off hS126 rfl rfl rfl hb91) rfl rfl fun a127 hS127 => st_off hS127 (want_off hS127 rfl rfl rfl hb91) rfl rfl fun a128 hS128 => st_off hS128 (want_off hS128 rfl rfl rfl hb91) rfl rfl fun a129 hS129 => st_val hS129 rfl rfl rfl (r_pickF hS129 rfl rfl rfl hb91) fun a130 hS130 => hk _ _ ?_
      exact ⟨g75, hS130.re ⟨rfl, rfl, rfl, (by rw [← e123]; rfl), trivial⟩, h9, h21, h4, hF⟩
  rintro a131 w107 ⟨g107, hS131, h9, h21, h4, hF⟩
  refine st_val hS131 rfl rfl rfl (r_move hS131 rfl rfl) fun a132 hS132 => ?_
  refine g_joinR 6 (fun a w144 => ∃ (g144 : Nat → Nat), Sl 52 a [(51, .bool t142)] ∧ Fr (fun q => N ≤ q) w g w144 g144) ?_ (fun hk => ?_)
  rotate_left
  · rcases Bool.eq_false_or_eq_true (t105) with hb133 | hb133
    · have H := ite_t hb133 ht143
      obtain ⟨r148, hr149, H⟩ := bind_el H
      have e153 := Option.some.inj H
      refine st_valW hS132 (want_on hS132 rfl rfl rfl hb133) rfl rfl (r_move hS132 rfl rfl) fun a145 hS145 => st_valW hS145 (want_on hS145 rfl rfl rfl hb133) rfl rfl (r_move hS145 rfl rfl) fun a146 hS146 => st_valW hS146 (want_on hS146 rfl rfl rfl hb133) rfl rfl (r_move hS146 rfl rfl) fun a147 hS147 => ?_
      refine st_enterW hS147 (want_on hS147 rfl rfl rfl hb133) rfl rfl (r_call hS147 rfl rfl (by kernel_rfl)) (resume_Verify.calls (C1 := (fun q => q = N + 0)) (C2 := (fun q => q = N + 2)) (C4 := (fun q => q = N + 4)) (p0 := 3) (p1 := [(api_Link.mk 2 0)]) (p2 := [3, 2, 4]) (p3 := 1) (p4 := r17.1) (g := g107) (N + 8)  (OwD.rdf (fun _ _ _ _ _ _ h => h) h4) (fun q (hq : q = N + 0) => by omega) (OwD.rdf (fun _ _ _ _ _ _ h => h) h9) (fun q (hq : q = N + 2) => by omega) (OwD.rdf (fun _ _ _ _ _ _ h => h) h21) (fun q (hq : q = N + 4) => by omega) hr149) ?_
      rintro _ a150 w151 ⟨g151, rfl, F151⟩ hS150
      replace h9 := OwS.fr h9 F151 (fun c' hc (hm : N + 8 ≤ c') => by omega)
      replace h21 := OwS.fr h21 F151 (fun c' hc (hm : N + 8 ≤ c') => by omega)
      replace h4 := OwS.fr h4 F151 (fun c' hc (hm : N + 8 ≤ c') => by omega)
      replace hF := hF.trans F151 (fun c' (hm : N + 8 ≤ c') => by show N ≤ c'; omega)
      refine st_valW hS150 (want_on hS150 rfl rfl rfl hb133) rfl rfl (r_bin hS150 rfl rfl rfl b_eql) fun a152 hS152 => ?_
      refine st_val hS152 rfl rfl rfl (r_pickT hS152 rfl rfl rfl hb133) fun a154 hS154 => hk _ _ ?_
      exact ⟨g151, hS154.re ⟨(by rw [← e153]; rfl), trivial⟩, hF⟩
    · have H := ite_f hb133 ht143
      have e155 := Option.some.inj H
      refine st_off hS132 (want_off hS132 rfl rfl rfl hb133) rfl rfl fun a156 hS156 => st_off hS156 (want_off hS156 rfl rfl rfl hb133) rfl rfl fun a157 hS157 => st_off hS157 (want_off hS157 rfl rfl rfl hb133) rfl rfl fun a158 hS158 => st_off hS158 (want_off hS158 rfl rfl rfl hb133) rfl rfl fun a159 hS159 => st_off hS159 (want_off hS159 rfl rfl rfl hb133) rfl rfl fun a160 hS160 => st_val hS160 rfl rfl rfl (r_pickF hS160 rfl rfl rfl hb133) fun a161 hS161 => hk _ _ ?_
      exact ⟨g107, hS161.re ⟨(by rw [← e155]; rfl), trivial⟩, hF⟩
  rintro a162 w144 ⟨g144, hS162, hF⟩
  refine st_val hS162 rfl rfl rfl (r_assign hS162 rfl rfl) fun a163 hS163 => wpList_nil (hK _ _ ?_)
  replace hS : Sl 52 _ [(0, .bool t142)] := hS163.re ⟨rfl, trivial⟩
  clear hK K
  try clear hS41 hS42 hS43 hS53 hS54 hS64 hS65 hS89 hS90 hS131 hS132 hS162 hS163
  obtain ⟨a, ha⟩ : ∃ a', a' = a163 := ⟨_, rfl⟩
  rw [← ha] at hS ⊢; clear ha
  refine wp_ret ?_
  have e := Option.some.inj H
  subst e
  repeat (with_reducible first | refine then_ret ?_ | refine inBlock_ret ?_)
  exact c_ret1 hS Try.results14 rfl ⟨_, rfl, g144, rfl, hF⟩


end Go.Proofs.Ythmjgadmadlpkaa.Sim

namespace Go.Proofs.Ythmjgadmadlpkaa.Sim
open Go
set_option linter.unusedVariables false
set_option linter.unusedSimpArgs false

end Go.Proofs.Ythmjgadmadlpkaa.Sim

namespace Go.Proofs.Ythmjgadmadlpkaa.Sim
open Go Go.Proofs.YthmjgadmadlpkaaW.PrintLast

section
variable {P : Program} {ops : Array Oper} {Q : Exit → Act → World → Prop} {a : Act} {w w1 : World} {o : Oper} {N : Nat} {S : List (Nat × Value)} {d : Nat} {v : Value} {M : Nat → Prop} {g g1 : Nat → Nat} {ds : List Nat} {fuel i : Nat} {l l' : Array Bool}

theorem armW_call {f : FuncId} {args : Array Value} {R : Value → World → Prop} (hS : Sl N a S) (hg : Region.wanted o (yielded ops a.tmps) = true) (hd : o.dst = some d) (hN : Nat.blt d N = true)
    (hr : (execOp a.eval o).run P w = .ok (.enter f args) w) (hc : Calls P f args w (fun e w' => ∃ v, e = .returned v ∧ R v w')) (hM : ∀ v w', R v w' → Cls M w1 g1 w → Cls M w1 g1 w')
    (k : ∀ v a' w', R v w' → Sl N a' ((d, v) :: S) → AnyD P ops Q M w1 g1 ds fuel l' a' w') : Arm P ops Q M w1 g1 ds fuel l' o i a w := by
  intro K hK
  rw [if_pos hg]
  unfold Oper.wp
  rw [hr, Oper.upon_enter]
  refine hc.mono fun e w' h => ?_
  obtain ⟨v, rfl, h⟩ := h
  rw [hd]
  exact hK _ _ (fun _ => hM v w' h) (k v _ w' h (hS.put hN v))

theorem d_joinR (fuel' : Nat) (l' : Array Bool) (R : Act → World → Prop) (k : ∀ a' w', R a' w' → AnyD P ops Q M w1 g1 ds fuel' l' a' w') (h : (∀ a' w', R a' w' → AnyD P ops Q M w1 g1 ds fuel' l' a' w') → AnyD P ops Q M w1 g1 ds fuel l a w) : AnyD P ops Q M w1 g1 ds fuel l a w := h k
end
end Go.Proofs.Ythmjgadmadlpkaa.Sim

namespace Go.Proofs.Ythmjgadmadlpkaa.Sim
open Go
set_option linter.unusedVariables false
set_option linter.unusedSimpArgs false

/-! ### law31_ResumeMoreWorkersOnIndependentDevices: function 9 -/
def law31_ResumeMoreWorkersOnIndependentDevices.l0 (p2 : Int) (r3 : Int) : Nat → (List Int) → Int → Option ((List Int))
  | 0, _, _ => none
  | k31 + 1, m0_0, m0_1 => if decide (m0_1 < r3) = true then ((idx m0_0 m0_1).bind fun x41 => law31_ResumeMoreWorkersOnIndependentDevices.l0 p2 r3 k31 (upd m0_0 m0_1 (wu (1 + (Int.tmod p2 50)))) (wi (m0_1 + 1))) else (some m0_0)
def law31_ResumeMoreWorkersOnIndependentDevices.f (p0 : Int) (p1 : Int) (p2 : Int) : Option (Bool) := (help_Mod.f p0 40).bind fun r3 => (help_Mod.f p1 15).bind fun r9 => (mk r3 0).bind fun y16 => (law31_ResumeMoreWorkersOnIndependentDevices.l0 p2 r3 FUEL y16 0 : Option ((List Int))).bind fun v26 => (resume_Schedule.f r3 ([] : List api_Link) v26 (wi (1 + r9))).bind fun r52 => (resume_Schedule.f r3 ([] : List api_Link) v26 (wi ((wi (1 + r9)) + 1))).bind fun r69 => (if ((r52.2 == 0) && (r69.2 == 0)) = true then (resume_Makespan.f r69.1).bind fun r97 => (resume_Makespan.f r52.1).bind fun r99 => some (decide (r97 ≤ r99)) else some false).bind fun t102 => (if t102 = true then (resume_Makespan.f r52.1).bind fun r129 => if (wi (1 + r9)) = 0 then none else some (r129 == (wu ((wu (wi (Int.tdiv (wi ((wi (r3 + (wi (1 + r9)))) - 1)) (wi (1 + r9))))) * (wu (1 + (Int.tmod p2 50)))))) else some false).bind fun t133 => (if t133 = true then (law31_awake.f ).bind fun r176 => some r176 else some false).bind fun t179 => some t179
set_option maxRecDepth 100000 in
set_option maxHeartbeats 4000000 in
theorem law31_ResumeMoreWorkersOnIndependentDevices.calls {p0 : Int} {p1 : Int} {p2 : Int} {w : World} {g : Nat → Nat} {out : Bool} (N : Nat)  (H : law31_ResumeMoreWorkersOnIndependentDevices.f p0 p1 p2 = some out) :
    Calls Try.prog 9 #[.int .i64 p0, .int .i64 p1, .int .u64 p2] w (fun e w' => ∃ v, e = .returned v ∧ ∃ (g' : Nat → Nat), v = .bool out ∧ Fr (fun q => N ≤ q) w g w' g') := by
  unfold law31_ResumeMoreWorkersOnIndependentDevices.f at H
  refine calls_enter Try.func9 rfl Try.ntmps9 rfl (fun a hS => ?_)
  replace hS : Sl 80 a [(0, .int .i64 p0), (1, .int .i64 p1), (2, .int .u64 p2)] := hS
  have hF : Fr (fun q => N ≤ q) w g w g := Fr.refl _ _ _
  refine c_pure [(0, .int .i64 p0), (1, .int .i64 p1), (2, .int .u64 p2)] (fun R hR => st_val hS rfl rfl rfl (r_assign hS rfl rfl) fun a1 hS1 => wpList_nil (hR _ (hS1.re ⟨rfl, rfl, rfl, trivial⟩))) ?_
  clear hS
  clear a
  intro a hS
  obtain ⟨r3, hr4, H⟩ := bind_el H
  refine c_region (fun K hK => ?_)
  refine st_val hS rfl rfl rfl (r_move hS rfl rfl) fun a2 hS2 => ?_
  refine st_enter hS2 rfl rfl rfl (r_call hS2 rfl rfl (by kernel_rfl)) (help_Mod.calls (p0 := p0) (p1 := 40) (g := g) (N + 6)   hr4) ?_
  rintro _ a5 w6 ⟨g6, rfl, F6⟩ hS5
  replace hF := hF.trans F6 (fun c' (hm : N + 6 ≤ c') => by show N ≤ c'; omega)
  refine st_val hS5 rfl rfl rfl (r_assign hS5 rfl rfl) fun a7 hS7 => wpList_nil (hK _ _ ?_)
  replace hS : Sl 80 _ [(1, .int .i64 p1), (2, .int .u64 p2), (7, .int .i64 r3)] := hS7.re ⟨rfl, rfl, rfl, trivial⟩
  clear hK K
  try clear hS2 hS5 hS7
  obtain ⟨a, ha⟩ : ∃ a', a' = a7 := ⟨_, rfl⟩
  rw [← ha] at hS ⊢; clear ha
  obtain ⟨r9, hr10, H⟩ := bind_el H
  refine c_region (fun K hK => ?_)
  refine st_val hS rfl rfl rfl (r_move hS rfl rfl) fun a8 hS8 => ?_
  refine st_enter hS8 rfl rfl rfl (r_call hS8 rfl rfl (by kernel_rfl)) (help_Mod.calls (p0 := p1) (p1 := 15) (g := g6) (N + 6)   hr10) ?_
  rintro _ a11 w12 ⟨g12, rfl, F12⟩ hS11
  replace hF := hF.trans F12 (fun c' (hm : N + 6 ≤ c') => by show N ≤ c'; omega)
  refine st_val hS11 rfl rfl rfl (r_bin hS11 rfl rfl rfl b_add) fun a13 hS13 => st_val hS13 rfl rfl rfl (r_assign hS13 rfl rfl) fun a14 hS14 => wpList_nil (hK _ _ ?_)
  replace hS : Sl 80 _ [(2, .int .u64 p2), (7, .int .i64 r3), (8, .int .i64 (wi (1 + r9)))] := hS14.re ⟨rfl, rfl, rfl, trivial⟩
  clear hK K
  try clear hS8 hS11 hS13 hS14
  obtain ⟨a, ha⟩ : ∃ a', a' = a14 := ⟨_, rfl⟩
  rw [← ha] at hS ⊢; clear ha
  obtain ⟨y16, hy17, H⟩ := bind_el H
  refine c_region (fun K hK => ?_)
  refine st_val hS rfl rfl rfl (r_move hS rfl rfl) fun a15 hS15 => ?_
  refine st_eff hS15 rfl rfl rfl (e_make (e := 33) (sz := 1) (by_ := 8) (z := [.int .u64 0]) (kd := (kint .u64)) (N + 0) g12 hS15 rfl rfl (by kernel_rfl) (by kernel_rfl) rfl rfl rfl (fun _ _ _ => by exact rfl) hy17) ?_
  rintro _ a22 w23 g23 ⟨⟨A18, cap19, rfl, h20⟩, F23⟩ hS22
  replace hF := hF.trans F23 (fun _ h => h.elim)
  refine st_val hS22 rfl rfl rfl (r_assign hS22 rfl rfl) fun a24 hS24 => wpList_nil (hK _ _ ?_)
  replace hS : Sl 80 _ [(2, .int .u64 p2), (7, .int .i64 r3), (8, .int .i64 (wi (1 + r9))), (9, .slice A18 y16.length cap19)] := hS24.re ⟨rfl, rfl, rfl, rfl, trivial⟩
  clear hK K
  try clear hS15 hS22 hS24
  obtain ⟨a, ha⟩ : ∃ a', a' = a24 := ⟨_, rfl⟩
  rw [← ha] at hS ⊢; clear ha
  obtain ⟨v26, H, Hl28⟩ := bind_el H
  refine c_cut (fun a w25 => ∃ (g25 : Nat → Nat), Sl 80 a [(2, .int .u64 p2), (7, .int .i64 r3), (8, .int .i64 (wi (1 + r9))), (9, .slice A18 v26.length cap19)] ∧ OwS (kint .u64) 33 w25 g25 (N + 0) A18 cap19 v26 ∧ Fr (fun q => N ≤ q) w g w25 g25) ?_ ?_
  · refine c_pure [(2, .int .u64 p2), (7, .int .i64 r3), (8, .int .i64 (wi (1 + r9))), (9, .slice A18 y16.length cap19), (10, .int .i64 0)] (fun R hR => st_val hS rfl rfl rfl (r_assign hS rfl rfl) fun a29 hS29 => wpList_nil (hR _ (hS29.re ⟨rfl, rfl, rfl, rfl, rfl, trivial⟩))) ?_
    clear hS
    clear a
    intro a hS
    refine wp_block ?_
    refine wp_loop_ghost (fun kq => fun a w30 => ∃ (m0_0 : List Int), ∃ (m0_1 : Int), ∃ (g30 : Nat → Nat), law31_ResumeMoreWorkersOnIndependentDevices.l0 p2 r3 kq m0_0 m0_1 = some v26 ∧ Sl 80 a [(2, .int .u64 p2), (7, .int .i64 r3), (8, .int .i64 (wi (1 + r9))), (9, .slice A18 m0_0.length cap19), (10, .int .i64 m0_1)] ∧ OwS (kint .u64) 33 w30 g30 (N + 0) A18 cap19 m0_0 ∧ Fr (fun q => N ≤ q) w g w30 g30) FUEL ?_ ?_
    · exact ⟨y16, 0, g23, H, hS.re ⟨rfl, rfl, rfl, rfl, rfl, trivial⟩, h20, hF⟩
    · clear H
      clear h20 hF
      clear hS
      rintro k31 a w30 ⟨m0_0, m0_1, g30, hpre0, hS, h20, hF⟩
      have H := hpre0
      clear hpre0
      cases k31 with
      | zero => exact absurd H (by simp [law31_ResumeMoreWorkersOnIndependentDevices.l0])
      | succ k31 =>
        rw [law31_ResumeMoreWorkersOnIndependentDevices.l0] at H
        refine wp_seq ?_
        refine c_pure [(2, .int .u64 p2), (7, .int .i64 r3), (8, .int .i64 (wi (1 + r9))), (9, .slice A18 m0_0.length cap19), (10, .int .i64 m0_1), (24, .bool (decide (m0_1 < r3)))] (fun R hR => st_val hS rfl rfl rfl (r_move hS rfl rfl) fun a32 hS32 => st_val hS32 rfl rfl rfl (r_move hS32 rfl rfl) fun a33 hS33 => st_val hS33 rfl rfl rfl (r_bin hS33 rfl rfl rfl b_lss) fun a34 hS34 => wpList_nil (hR _ (hS34.re ⟨rfl, rfl, rfl, rfl, rfl, rfl, trivial⟩))) ?_
        clear hS
        clear a
        intro a hS
        refine c_cond hS rfl (fun hb35 => ?_) (fun hb35 => ?_)
        · replace H := ite_t hb35 H
          refine wp_skip ?_
          change Code.wp _ _ _ _ _
          refine wp_seq ?_
          refine wp_block ?_
          obtain ⟨x41, hx42, H⟩ := bind_el H
          refine c_region1 (fun K hK => ?_)
          refine st_val hS rfl rfl rfl (r_move hS rfl rfl) fun a36 hS36 => st_val hS36 rfl rfl rfl (r_move hS36 rfl rfl) fun a37 hS37 => st_val hS37 rfl rfl rfl (r_move hS37 rfl rfl) fun a38 hS38 => st_val hS38 rfl rfl rfl (r_bin hS38 rfl rfl rfl (b_rem (by decide))) fun a39 hS39 => st_val hS39 rfl rfl rfl (r_bin hS39 rfl rfl rfl b_add) fun a40 hS40 => st_val hS40 rfl rfl rfl (r_index (e := 33) (sz := 1) (by_ := 8) hS40 rfl rfl rfl (by kernel_rfl) (RdS.some_ (OwS.rd h20) hx42) (idx_lo hx42) (idx_hi hx42)) fun a43 hS43 => ?_
          refine st_effS hS43 rfl rfl (e_storeE (n := 1) (bb := false) (kd := (kint .u64)) (j := 0) (x' := wu (1 + (Int.tmod p2 50))) (us := [.int .u64 (wu (1 + (Int.tmod p2 50)))]) g30 hS43 rfl rfl rfl rfl (by kernel_rfl) rfl rfl (by intro v hv; simp only [List.mem_cons, List.not_mem_nil, or_false] at hv; rcases hv with rfl <;> rfl) h20 hx42 rfl (fun _ _ cs hR => by rw [show cs = _ from hR]; rfl)) ?_
          rintro a44 w45 g45 ⟨h20, F45⟩ hS44
          replace hF := hF.trans F45 (fun c' (hm : c' = N + 0) => by show N ≤ c'; omega)
          have hT : Sl 80 a44 [(2, .int .u64 p2), (7, .int .i64 r3), (8, .int .i64 (wi (1 + r9))), (9, .slice A18 m0_0.length cap19), (10, .int .i64 m0_1)] := hS44.re ⟨rfl, rfl, rfl, rfl, rfl, trivial⟩
          replace hS44 : Sl 80 a44 [(2, .int .u64 p2), (7, .int .i64 r3), (8, .int .i64 (wi (1 + r9))), (9, .slice A18 (upd m0_0 m0_1 (wu (1 + (Int.tmod p2 50)))).length cap19), (10, .int .i64 m0_1)] := by simpa only [upd_length] using hT
          clear hT
          refine wpList_nil (hK _ _ ?_)
          replace hS : Sl 80 _ [(2, .int .u64 p2), (7, .int .i64 r3), (8, .int .i64 (wi (1 + r9))), (9, .slice A18 (upd m0_0 m0_1 (wu (1 + (Int.tmod p2 50)))).length cap19), (10, .int .i64 m0_1)] := hS44.re ⟨rfl, rfl, rfl, rfl, rfl, trivial⟩
          clear hK K
          try clear hS36 hS37 hS38 hS39 hS40 hS43 hS44
          obtain ⟨a, ha⟩ : ∃ a', a' = a44 := ⟨_, rfl⟩
          rw [← ha] at hS ⊢; clear ha
          change Code.wp _ _ _ _ _
          refine c_pure1 [(2, .int .u64 p2), (7, .int .i64 r3), (8, .int .i64 (wi (1 + r9))), (9, .slice A18 (upd m0_0 m0_1 (wu (1 + (Int.tmod p2 50)))).length cap19), (10, .int .i64 (wi (m0_1 + 1)))] (fun R hR => st_val hS rfl rfl rfl (r_move hS rfl rfl) fun a46 hS46 => st_val hS46 rfl rfl rfl (r_bin hS46 rfl rfl rfl b_add) fun a47 hS47 => st_val hS47 rfl rfl rfl (r_assign hS47 rfl rfl) fun a48 hS48 => wpList_nil (hR _ (hS48.re ⟨rfl, rfl, rfl, rfl, rfl, trivial⟩))) ?_
          clear hS
          clear a
          intro a hS
          refine ⟨k31, Nat.lt_succ_self _, ?_⟩
          exact ⟨(upd m0_0 m0_1 (wu (1 + (Int.tmod p2 50)))), wi (m0_1 + 1), g45, H, hS.re ⟨rfl, rfl, rfl, rfl, rfl, trivial⟩, h20, hF⟩
        · replace H := ite_f hb35 H
          refine wp_exit ?_
          have e := Option.some.inj H
          subst e
          exact ⟨g30, hS.re ⟨rfl, rfl, rfl, rfl, trivial⟩, h20, hF⟩
  · clear H
    clear h20 hF
    clear hS
    rintro a w25 ⟨g25, hS, h20, hF⟩
    have H := Hl28
    clear Hl28
    obtain ⟨r52, hr53, H⟩ := bind_el H
    refine c_region (fun K hK => ?_)
    refine st_val hS rfl rfl rfl (r_move hS rfl rfl) fun a49 hS49 => st_val hS49 rfl rfl rfl (r_move hS49 rfl rfl) fun a50 hS50 => st_val hS50 rfl rfl rfl (r_move hS50 rfl rfl) fun a51 hS51 => ?_
    refine st_enter hS51 rfl rfl rfl (r_call hS51 rfl rfl (by kernel_rfl)) (resume_Schedule.calls (C1 := (fun _ => False)) (C2 := (fun q => q = N + 0)) (p0 := r3) (p1 := ([] : List api_Link)) (p2 := v26) (p3 := (wi (1 + r9))) (g := g25) (N + 6) (N + 2) (RdS.nil kd_api_Link w25 g25 (fun _ => False)) (fun _ h => False.elim h) (OwD.rdf (fun _ _ _ _ _ _ h => h) h20) (fun q (hq : q = N + 0) => by omega) (by omega) hr53) ?_
    rintro _ a58 w59 ⟨g59, A54, cap55, rfl, h56, F59⟩ hS58
    replace h20 := OwS.fr h20 F59 (fun c' hc (hm : (N + 2 ≤ c' ∧ c' < N + 2 + 2) ∨ N + 6 ≤ c') => by omega)
    replace hF := hF.trans F59 (fun c' (hm : (N + 2 ≤ c' ∧ c' < N + 2 + 2) ∨ N + 6 ≤ c') => by show N ≤ c'; omega)
    refine st_val hS58 rfl rfl rfl (r_move hS58 rfl rfl) fun a60 hS60 => st_val hS60 rfl rfl rfl (r_extract hS60 rfl rfl rfl) fun a61 hS61 => st_val hS61 rfl rfl rfl (r_extract hS61 rfl rfl rfl) fun a62 hS62 => st_val hS62 rfl rfl rfl (r_assign hS62 rfl rfl) fun a63 hS63 => st_val hS63 rfl rfl rfl (r_assign hS63 rfl rfl) fun a64 hS64 => wpList_nil (hK _ _ ?_)
    replace hS : Sl 80 _ [(2, .int .u64 p2), (7, .int .i64 r3), (8, .int .i64 (wi (1 + r9))), (9, .slice A18 v26.length cap19), (11, .slice A54 r52.1.length cap55), (12, .int .i64 r52.2)] := hS64.re ⟨rfl, rfl, rfl, rfl, rfl, rfl, trivial⟩
    clear hK K
    try clear hS49 hS50 hS51 hS58 hS60 hS61 hS62 hS63 hS64
    obtain ⟨a, ha⟩ : ∃ a', a' = a64 := ⟨_, rfl⟩
    rw [← ha] at hS ⊢; clear ha
    obtain ⟨r69, hr70, H⟩ := bind_el H
    refine c_region (fun K hK => ?_)
    refine st_val hS rfl rfl rfl (r_move hS rfl rfl) fun a65 hS65 => st_val hS65 rfl rfl rfl (r_move hS65 rfl rfl) fun a66 hS66 => st_val hS66 rfl rfl rfl (r_move hS66 rfl rfl) fun a67 hS67 => st_val hS67 rfl rfl rfl (r_bin hS67 rfl rfl rfl b_add) fun a68 hS68 => ?_
    refine st_enter hS68 rfl rfl rfl (r_call hS68 rfl rfl (by kernel_rfl)) (resume_Schedule.calls (C1 := (fun _ => False)) (C2 := (fun q => q = N + 0)) (p0 := r3) (p1 := ([] : List api_Link)) (p2 := v26) (p3 := (wi ((wi (1 + r9)) + 1))) (g := g59) (N + 6) (N + 4) (RdS.nil kd_api_Link w59 g59 (fun _ => False)) (fun _ h => False.elim h) (OwD.rdf (fun _ _ _ _ _ _ h => h) h20) (fun q (hq : q = N + 0) => by omega) (by omega) hr70) ?_
    rintro _ a75 w76 ⟨g76, A71, cap72, rfl, h73, F76⟩ hS75
    replace h20 := OwS.fr h20 F76 (fun c' hc (hm : (N + 4 ≤ c' ∧ c' < N + 4 + 2) ∨ N + 6 ≤ c') => by omega)
    replace h56 := OwS.fr h56 F76 (fun c' hc (hm : (N + 4 ≤ c' ∧ c' < N + 4 + 2) ∨ N + 6 ≤ c') => by omega)
    replace hF := hF.trans F76 (fun c' (hm : (N + 4 ≤ c' ∧ c' < N + 4 + 2) ∨ N + 6 ≤ c') => by show N ≤ c'; omega)
    refine st_val hS75 rfl rfl rfl (r_move hS75 rfl rfl) fun a77 hS77 => st_val hS77 rfl rfl rfl (r_extract hS77 rfl rfl rfl) fun a78 hS78 => st_val hS78 rfl rfl rfl (r_extract hS78 rfl rfl rfl) fun a79 hS79 => st_val hS79 rfl rfl rfl (r_assign hS79 rfl rfl) fun a80 hS80 => st_val hS80 rfl rfl rfl (r_assign hS80 rfl rfl) fun a81 hS81 => wpList_nil (hK _ _ ?_)
    replace hS : Sl 80 _ [(2, .int .u64 p2), (7, .int .i64 r3), (8, .int .i64 (wi (1 + r9))), (11, .slice A54 r52.1.length cap55), (12, .int .i64 r52.2), (13, .slice A71 r69.1.length cap72), (14, .int .i64 r69.2)] := hS81.re ⟨rfl, rfl, rfl, rfl, rfl, rfl, rfl, trivial⟩
    clear hK K
    try clear hS65 hS66 hS67 hS68 hS75 hS77 hS78 hS79 hS80 hS81
    obtain ⟨a, ha⟩ : ∃ a', a' = a81 := ⟨_, rfl⟩
    rw [← ha] at hS ⊢; clear ha
    obtain ⟨t102, ht103, H⟩ := bind_el H
    obtain ⟨t133, ht134, H⟩ := bind_el H
    obtain ⟨t179, ht180, H⟩ := bind_el H
    refine c_draw (fun K hK => d_start (fun q => N + 6 ≤ q) g76 [] 33 #[false, false, false, false, false, false, false, false, false, false, false, false, false, false, false, false, false, false, false, false, false, false, false, false, false, false, false, false, false, false, false, false, false] (by kernel_rfl) rfl rfl (fun w82 hw82 => ?_))
    have F82 : Fr (fun _ => False) w76 g76 w82 g76 := by rw [hw82]; exact Fr.drew _ _ _
    replace h56 := OwS.fr h56 F82 (fun _ _ h => h)
    replace h73 := OwS.fr h73 F82 (fun _ _ h => h)
    replace hF := hF.trans F82 (fun _ h => h.elim)
    have hC : Fr (fun q => N + 6 ≤ q) w82 g76 w82 g76 := Fr.refl _ _ _
    refine d_pure hS 0 #[true, false, false, false, false, false, false, false, false, false, false, false, false, false, false, false, false, false, false, false, false, false, false, false, false, false, false, false, false, false, false, false, false] rfl rfl rfl rfl (by kernel_rfl) (fun _ _ _ h => h) (fun _ => (r_move hS rfl rfl)) fun a83 hS83 => d_pure hS83 1 #[true, true, false, false, false, false, false, false, false, false, false, false, false, false, false, false, false, false, false, false, false, false, false, false, false, false, false, false, false, false, false, false, false] rfl rfl rfl rfl (by kernel_rfl) (fun _ _ _ h => h) (fun _ => (r_bin hS83 rfl rfl rfl b_eql)) fun a84 hS84 => d_pure hS84 2 #[true, true, true, false, false, false, false, false, false, false, false, false, false, false, false, false, false, false, false, false, false, false, false, false, false, false, false, false, false, false, false, false, false] rfl rfl rfl rfl (by kernel_rfl) (fun _ _ _ h => h) (fun _ => (r_move hS84 rfl rfl)) fun a85 hS85 => ?_
    refine d_join (N := 80) 27 #[true, true, true, true, true, true, false, false, false, false, false, false, false, false, false, false, false, false, false, false, false, false, false, false, false, false, false, false, false, false, false, false, false] [(2, .int .u64 p2), (7, .int .i64 r3), (8, .int .i64 (wi (1 + r9))), (11, .slice A54 r52.1.length cap55), (13, .slice A71 r69.1.length cap72), (53, .bool ((r52.2 == 0) && (r69.2 == 0)))] ?_ (fun hk => ?_)
    rotate_left
    · rcases Bool.eq_false_or_eq_true ((r52.2 == 0)) with hb86 | hb86
      · refine d_pureW hS85 3 #[true, true, true, true, false, false, false, false, false, false, false, false, false, false, false, false, false, false, false, false, false, false, false, false, false, false, false, false, false, false, false, false, false] rfl (want_on hS85 rfl rfl rfl hb86) rfl rfl (by kernel_rfl) (fun _ _ _ h => h) (fun _ => (r_move hS85 rfl rfl)) fun a89 hS89 => d_pureW hS89 4 #[true, true, true, true, true, false, false, false, false, false, false, false, false, false, false, false, false, false, false, false, false, false, false, false, false, false, false, false, false, false, false, false, false] rfl (want_on hS89 rfl rfl rfl hb86) rfl rfl (by kernel_rfl) (fun _ _ _ h => h) (fun _ => (r_bin hS89 rfl rfl rfl b_eql)) fun a90 hS90 => d_pure hS90 5 #[true, true, true, true, true, true, false, false, false, false, false, false, false, false, false, false, false, false, false, false, false, false, false, false, false, false, false, false, false, false, false, false, false] rfl rfl rfl rfl (by kernel_rfl) (fun _ _ _ h => h) (fun _ => (r_pickT hS90 rfl rfl rfl hb86)) fun a91 hS91 => hk _ (hS91.re ⟨rfl, rfl, rfl, rfl, rfl, (by rw [hb86]; rfl), trivial⟩)
      · refine d_off hS85 3 #[true, true, true, true, false, false, false, false, false, false, false, false, false, false, false, false, false, false, false, false, false, false, false, false, false, false, false, false, false, false, false, false, false] rfl (want_off hS85 rfl rfl rfl hb86) rfl rfl (by kernel_rfl) (fun _ _ _ h => h) fun a92 hS92 => d_off hS92 4 #[true, true, true, true, true, false, false, false, false, false, false, false, false, false, false, false, false, false, false, false, false, false, false, false, false, false, false, false, false, false, false, false, false] rfl (want_off hS92 rfl rfl rfl hb86) rfl rfl (by kernel_rfl) (fun _ _ _ h => h) fun a93 hS93 => d_pure hS93 5 #[true, true, true, true, true, true, false, false, false, false, false, false, false, false, false, false, false, false, false, false, false, false, false, false, false, false, false, false, false, false, false, false, false] rfl rfl rfl rfl (by kernel_rfl) (fun _ _ _ h => h) (fun _ => (r_pickF hS93 rfl rfl rfl hb86)) fun a94 hS94 => hk _ (hS94.re ⟨rfl, rfl, rfl, rfl, rfl, (by rw [hb86]; rfl), trivial⟩)
    intro a95 hS95
    refine d_pure hS95 6 #[true, true, true, true, true, true, true, false, false, false, false, false, false, false, false, false, false, false, false, false, false, false, false, false, false, false, false, false, false, false, false, false, false] rfl rfl rfl rfl (by kernel_rfl) (fun _ _ _ h => h) (fun _ => (r_move hS95 rfl rfl)) fun a96 hS96 => ?_
    refine d_joinR 20 #[true, true, true, true, true, true, true, true, true, true, true, true, true, false, false, false, false, false, false, false, false, false, false, false, false, false, false, false, false, false, false, false, false] (fun a w105 => ∃ (g105 : Nat → Nat), Fr (fun q => N + 6 ≤ q) w82 g76 w105 g105 ∧ Sl 80 a [(2, .int .u64 p2), (7, .int .i64 r3), (8, .int .i64 (wi (1 + r9))), (11, .slice A54 r52.1.length cap55), (60, .bool t102)] ∧ OwS kd_api_Slot 38 w105 g105 (N + 2) A54 cap55 r52.1 ∧ Fr (fun q => N ≤ q) w g w105 g105) ?_ (fun hk => ?_)
    rotate_left
    · rcases Bool.eq_false_or_eq_true (((r52.2 == 0) && (r69.2 == 0))) with hb101 | hb101
      · have H := ite_t hb101 ht103
        obtain ⟨r107, hr108, H⟩ := bind_el H
        obtain ⟨r109, hr110, H⟩ := bind_el H
        have e106 := Option.some.inj H
        refine d_pureW hS96 7 #[true, true, true, true, true, true, true, true, false, false, false, false, false, false, false, false, false, false, false, false, false, false, false, false, false, false, false, false, false, false, false, false, false] rfl (want_on hS96 rfl rfl rfl hb101) rfl rfl (by kernel_rfl) (fun _ _ _ h => h) (fun _ => (r_move hS96 rfl rfl)) fun a111 hS111 => d_pureW hS111 9 #[true, true, true, true, true, true, true, true, false, true, false, false, false, false, false, false, false, false, false, false, false, false, false, false, false, false, false, false, false, false, false, false, false] rfl (want_on hS111 rfl rfl rfl hb101) rfl rfl (by kernel_rfl) (fun _ _ _ h => h) (fun _ => (r_move hS111 rfl rfl)) fun a112 hS112 => ?_
        refine d_one 8 #[true, true, true, true, true, true, true, true, true, true, false, false, false, false, false, false, false, false, false, false, false, false, false, false, false, false, false, false, false, false, false, false, false] rfl (by kernel_rfl) (armW_call hS112 (want_on hS112 rfl rfl rfl hb101) rfl rfl (r_call hS112 rfl rfl (by kernel_rfl)) (resume_Makespan.calls (C0 := (fun q => q = N + 4)) (p0 := r69.1) (g := g76) (N + 6)  (OwD.rdf (fun _ _ _ _ _ _ h => h) h73) (fun q (hq : q = N + 4) => by omega) hr108) (fun _ _ ⟨g', _, Fz⟩ _ => ⟨g', hC.trans Fz (fun c' (hm : N + 6 ≤ c') => by show N + 6 ≤ c'; omega)⟩) ?_)
        rintro _ a113 w114 ⟨g114, rfl, F114⟩ hS113
        have hC114 := hC.trans F114 (fun c' (hm : N + 6 ≤ c') => by show N + 6 ≤ c'; omega)
        replace h56 := OwS.fr h56 F114 (fun c' hc (hm : N + 6 ≤ c') => by omega)
        replace h73 := OwS.fr h73 F114 (fun c' hc (hm : N + 6 ≤ c') => by omega)
        replace hF := hF.trans F114 (fun c' (hm : N + 6 ≤ c') => by show N ≤ c'; omega)
        refine d_one 10 #[true, true, true, true, true, true, true, true, true, true, true, false, false, false, false, false, false, false, false, false, false, false, false, false, false, false, false, false, false, false, false, false, false] rfl (by kernel_rfl) (armW_call hS113 (want_on hS113 rfl rfl rfl hb101) rfl rfl (r_call hS113 rfl rfl (by kernel_rfl)) (resume_Makespan.calls (C0 := (fun q => q = N + 2)) (p0 := r52.1) (g := g114) (N + 6)  (OwD.rdf (fun _ _ _ _ _ _ h => h) h56) (fun q (hq : q = N + 2) => by omega) hr110) (fun _ _ ⟨g', _, Fz⟩ _ => ⟨g', hC114.trans Fz (fun c' (hm : N + 6 ≤ c') => by show N + 6 ≤ c'; omega)⟩) ?_)
        rintro _ a115 w116 ⟨g116, rfl, F116⟩ hS115
        have hC116 := hC114.trans F116 (fun c' (hm : N + 6 ≤ c') => by show N + 6 ≤ c'; omega)
        replace h56 := OwS.fr h56 F116 (fun c' hc (hm : N + 6 ≤ c') => by omega)
        replace h73 := OwS.fr h73 F116 (fun c' hc (hm : N + 6 ≤ c') => by omega)
        replace hF := hF.trans F116 (fun c' (hm : N + 6 ≤ c') => by show N ≤ c'; omega)
        refine d_pureW hS115 11 #[true, true, true, true, true, true, true, true, true, true, true, true, false, false, false, false, false, false, false, false, false, false, false, false, false, false, false, false, false, false, false, false, false] rfl (want_on hS115 rfl rfl rfl hb101) rfl rfl (by kernel_rfl) (fun _ _ _ h => h) (fun _ => (r_bin hS115 rfl rfl rfl b_leq)) fun a117 hS117 => d_pure hS117 12 #[true, true, true, true, true, true, true, true, true, true, true, true, true, false, false, false, false, false, false, false, false, false, false, false, false, false, false, false, false, false, false, false, false] rfl rfl rfl rfl (by kernel_rfl) (fun _ _ _ h => h) (fun _ => (r_pickT hS117 rfl rfl rfl hb101)) fun a118 hS118 => hk _ _ ?_
        exact ⟨g116, hC116, hS118.re ⟨rfl, rfl, rfl, rfl, (by rw [← e106]; rfl), trivial⟩, h56, hF⟩
      · have H := ite_f hb101 ht103
        have e119 := Option.some.inj H
        refine d_off hS96 7 #[true, true, true, true, true, true, true, true, false, false, false, false, false, false, false, false, false, false, false, false, false, false, false, false, false, false, false, false, false, false, false, false, false] rfl (want_off hS96 rfl rfl rfl hb101) rfl rfl (by kernel_rfl) (fun _ _ _ h => h) fun a120 hS120 => d_off hS120 8 #[true, true, true, true, true, true, true, true, true, false, false, false, false, false, false, false, false, false, false, false, false, false, false, false, false, false, false, false, false, false, false, false, false] rfl (want_off hS120 rfl rfl rfl hb101) rfl rfl (by kernel_rfl) (fun _ _ _ h => h) fun a121 hS121 => d_off hS121 9 #[true, true, true, true, true, true, true, true, true, true, false, false, false, false, false, false, false, false, false, false, false, false, false, false, false, false, false, false, false, false, false, false, false] rfl (want_off hS121 rfl rfl rfl hb101) rfl rfl (by kernel_rfl) (fun _ _ _ h => h) fun a122 hS122 => d_off hS122 10 #[true, true, true, true, true, true, true, true, true, true, true, false, false, false, false, false, false, false, false, false, false, false, false, false, false, false, false, false, false, false, false, false, false] rfl (want_off hS122 rfl rfl rfl hb101) rfl rfl (by kernel_rfl) (fun _ _ _ h => h) fun a123 hS123 => d_off hS123 11 #[true, true, true, true, true, true, true, true, true, true, true, true, false, false, false, false, false, false, false, false, false, false, false, false, false, false, false, false, false, false, false, false, false] rfl (want_off hS123 rfl rfl rfl hb101) rfl rfl (by kernel_rfl) (fun _ _ _ h => h) fun a124 hS124 => d_pure hS124 12 #[true, true, true, true, true, true, true, true, true, true, true, true, true, false, false, false, false, false, false, false, false, false, false, false, false, false, false, false, false, false, false, false, false] rfl rfl rfl rfl (by kernel_rfl) (fun _ _ _ h => h) (fun _ => (r_pickF hS124 rfl rfl rfl hb101)) fun a125 hS125 => hk _ _ ?_
        exact ⟨g76, hC, hS125.re ⟨rfl, rfl, rfl, rfl, (by rw [← e119]; rfl), trivial⟩, h56, hF⟩
    rintro a126 w105 ⟨g105, hC127, hS126, h56, hF⟩
    refine d_pure hS126 13 #[true, true, true, true, true, true, true, true, true, true, true, true, true, true, false, false, false, false, false, false, false, false, false, false, false, false, false, false, false, false, false, false, false] rfl rfl rfl rfl (by kernel_rfl) (fun _ _ _ h => h) (fun _ => (r_move hS126 rfl rfl)) fun a128 hS128 => ?_
    refine d_joinR 4 #[true, true, true, true, true, true, true, true, true, true, true, true, true, true, true, true, true, true, true, true, true, true, true, true, true, true, true, true, true, false, false, false, false] (fun a w136 => ∃ (g136 : Nat → Nat), Fr (fun q => N + 6 ≤ q) w82 g76 w136 g136 ∧ Sl 80 a [(76, .bool t133)] ∧ Fr (fun q => N ≤ q) w g w136 g136) ?_ (fun hk => ?_)
    rotate_left
    · rcases Bool.eq_false_or_eq_true (t102) with hb132 | hb132
      · have H := ite_t hb132 ht134
        obtain ⟨r138, hr139, H⟩ := bind_el H
        obtain ⟨hq140, H⟩ := nz_el H
        have e137 := Option.some.inj H
        refine d_pureW hS128 14 #[true, true, true, true, true, true, true, true, true, true, true, true, true, true, true, false, false, false, false, false, false, false, false, false, false, false, false, false, false, false, false, false, false] rfl (want_on hS128 rfl rfl rfl hb132) rfl rfl (by kernel_rfl) (fun _ _ _ h => h) (fun _ => (r_move hS128 rfl rfl)) fun a141 hS141 => d_pureW hS141 16 #[true, true, true, true, true, true, true, true, true, true, true, true, true, true, true, false, true, false, false, false, false, false, false, false, false, false, false, false, false, false, false, false, false] rfl (want_on hS141 rfl rfl rfl hb132) rfl rfl (by kernel_rfl) (fun _ _ _ h => h) (fun _ => (r_move hS141 rfl rfl)) fun a142 hS142 => d_pureW hS142 17 #[true, true, true, true, true, true, true, true, true, true, true, true, true, true, true, false, true, true, false, false, false, false, false, false, false, false, false, false, false, false, false, false, false] rfl (want_on hS142 rfl rfl rfl hb132) rfl rfl (by kernel_rfl) (fun _ _ _ h => h) (fun _ => (r_move hS142 rfl rfl)) fun a143 hS143 => d_pureW hS143 18 #[true, true, true, true, true, true, true, true, true, true, true, true, true, true, true, false, true, true, true, false, false, false, false, false, false, false, false, false, false, false, false, false, false] rfl (want_on hS143 rfl rfl rfl hb132) rfl rfl (by kernel_rfl) (fun _ _ _ h => h) (fun _ => (r_bin hS143 rfl rfl rfl b_add)) fun a144 hS144 => d_pureW hS144 19 #[true, true, true, true, true, true, true, true, true, true, true, true, true, true, true, false, true, true, true, true, false, false, false, false, false, false, false, false, false, false, false, false, false] rfl (want_on hS144 rfl rfl rfl hb132) rfl rfl (by kernel_rfl) (fun _ _ _ h => h) (fun _ => (r_bin hS144 rfl rfl rfl b_sub)) fun a145 hS145 => d_pureW hS145 20 #[true, true, true, true, true, true, true, true, true, true, true, true, true, true, true, false, true, true, true, true, true, false, false, false, false, false, false, false, false, false, false, false, false] rfl (want_on hS145 rfl rfl rfl hb132) rfl rfl (by kernel_rfl) (fun _ _ _ h => h) (fun _ => (r_move hS145 rfl rfl)) fun a146 hS146 => d_pureW hS146 21 #[true, true, true, true, true, true, true, true, true, true, true, true, true, true, true, false, true, true, true, true, true, true, false, false, false, false, false, false, false, false, false, false, false] rfl (want_on hS146 rfl rfl rfl hb132) rfl rfl (by kernel_rfl) (fun _ _ _ h => h) (fun _ => (r_bin hS146 rfl rfl rfl (b_quo hq140))) fun a147 hS147 => d_pureW hS147 22 #[true, true, true, true, true, true, true, true, true, true, true, true, true, true, true, false, true, true, true, true, true, true, true, false, false, false, false, false, false, false, false, false, false] rfl (want_on hS147 rfl rfl rfl hb132) rfl rfl (by kernel_rfl) (fun _ _ _ h => h) (fun _ => (r_convert (k' := .u64) hS147 rfl rfl (by kernel_rfl))) fun a148 hS148 => d_pureW hS148 23 #[true, true, true, true, true, true, true, true, true, true, true, true, true, true, true, false, true, true, true, true, true, true, true, true, false, false, false, false, false, false, false, false, false] rfl (want_on hS148 rfl rfl rfl hb132) rfl rfl (by kernel_rfl) (fun _ _ _ h => h) (fun _ => (r_move hS148 rfl rfl)) fun a149 hS149 => d_pureW hS149 24 #[true, true, true, true, true, true, true, true, true, true, true, true, true, true, true, false, true, true, true, true, true, true, true, true, true, false, false, false, false, false, false, false, false] rfl (want_on hS149 rfl rfl rfl hb132) rfl rfl (by kernel_rfl) (fun _ _ _ h => h) (fun _ => (r_bin hS149 rfl rfl rfl (b_rem (by decide)))) fun a150 hS150 => d_pureW hS150 25 #[true, true, true, true, true, true, true, true, true, true, true, true, true, true, true, false, true, true, true, true, true, true, true, true, true, true, false, false, false, false, false, false, false] rfl (want_on hS150 rfl rfl rfl hb132) rfl rfl (by kernel_rfl) (fun _ _ _ h => h) (fun _ => (r_bin hS150 rfl rfl rfl b_add)) fun a151 hS151 => d_pureW hS151 26 #[true, true, true, true, true, true, true, true, true, true, true, true, true, true, true, false, true, true, true, true, true, true, true, true, true, true, true, false, false, false, false, false, false] rfl (want_on hS151 rfl rfl rfl hb132) rfl rfl (by kernel_rfl) (fun _ _ _ h => h) (fun _ => (r_bin hS151 rfl rfl rfl b_mul)) fun a152 hS152 => ?_
        refine d_one 15 #[true, true, true, true, true, true, true, true, true, true, true, true, true, true, true, true, true, true, true, true, true, true, true, true, true, true, true, false, false, false, false, false, false] rfl (by kernel_rfl) (armW_call hS152 (want_on hS152 rfl rfl rfl hb132) rfl rfl (r_call hS152 rfl rfl (by kernel_rfl)) (resume_Makespan.calls (C0 := (fun q => q = N + 2)) (p0 := r52.1) (g := g105) (N + 6)  (OwD.rdf (fun _ _ _ _ _ _ h => h) h56) (fun q (hq : q = N + 2) => by omega) hr139) (fun _ _ ⟨g', _, Fz⟩ _ => ⟨g', hC127.trans Fz (fun c' (hm : N + 6 ≤ c') => by show N + 6 ≤ c'; omega)⟩) ?_)
        rintro _ a153 w154 ⟨g154, rfl, F154⟩ hS153
        have hC154 := hC127.trans F154 (fun c' (hm : N + 6 ≤ c') => by show N + 6 ≤ c'; omega)
        replace h56 := OwS.fr h56 F154 (fun c' hc (hm : N + 6 ≤ c') => by omega)
        replace hF := hF.trans F154 (fun c' (hm : N + 6 ≤ c') => by show N ≤ c'; omega)
        refine d_pureW hS153 27 #[true, true, true, true, true, true, true, true, true, true, true, true, true, true, true, true, true, true, true, true, true, true, true, true, true, true, true, true, false, false, false, false, false] rfl (want_on hS153 rfl rfl rfl hb132) rfl rfl (by kernel_rfl) (fun _ _ _ h => h) (fun _ => (r_bin hS153 rfl rfl rfl b_eql)) fun a155 hS155 => d_pure hS155 28 #[true, true, true, true, true, true, true, true, true, true, true, true, true, true, true, true, true, true, true, true, true, true, true, true, true, true, true, true, true, false, false, false, false] rfl rfl rfl rfl (by kernel_rfl) (fun _ _ _ h => h) (fun _ => (r_pickT hS155 rfl rfl rfl hb132)) fun a156 hS156 => hk _ _ ?_
        exact ⟨g154, hC154, hS156.re ⟨(by rw [← e137]; rfl), trivial⟩, hF⟩
      · have H := ite_f hb132 ht134
        have e157 := Option.some.inj H
        refine d_off hS128 14 #[true, true, true, true, true, true, true, true, true, true, true, true, true, true, true, false, false, false, false, false, false, false, false, false, false, false, false, false, false, false, false, false, false] rfl (want_off hS128 rfl rfl rfl hb132) rfl rfl (by kernel_rfl) (fun _ _ _ h => h) fun a158 hS158 => d_off hS158 15 #[true, true, true, true, true, true, true, true, true, true, true, true, true, true, true, true, false, false, false, false, false, false, false, false, false, false, false, false, false, false, false, false, false] rfl (want_off hS158 rfl rfl rfl hb132) rfl rfl (by kernel_rfl) (fun _ _ _ h => h) fun a159 hS159 => d_off hS159 16 #[true, true, true, true, true, true, true, true, true, true, true, true, true, true, true, true, true, false, false, false, false, false, false, false, false, false, false, false, false, false, false, false, false] rfl (want_off hS159 rfl rfl rfl hb132) rfl rfl (by kernel_rfl) (fun _ _ _ h => h) fun a160 hS160 => d_off hS160 17 #[true, true, true, true, true, true, true, true, true, true, true, true, true, true, true, true, true, true, false, false, false, false, false, false, false, false, false, false, false, false, false, false, false] rfl (want_off hS160 rfl rfl rfl hb132) rfl rfl (by kernel_rfl) (fun _ _ _ h => h) fun a161 hS161 => d_off hS161 18 #[true, true, true, true, true, true, true, true, true, true, true, true, true, true, true, true, true, true, true, false, false, false, false, false, false, false, false, false, false, false, false, false, false] rfl (want_off hS161 rfl rfl rfl hb132) rfl rfl (by kernel_rfl) (fun _ _ _ h => h) fun a162 hS162 => d_off hS162 19 #[true, true, true, true, true, true, true, true, true, true, true, true, true, true, true, true, true, true, true, true, false, false, false, false, false, false, false, false, false, false, false, false, false] rfl (want_off hS162 rfl rfl rfl hb132) rfl rfl (by kernel_rfl) (fun _ _ _ h => h) fun a163 hS163 => d_off hS163 20 #[true, true, true, true, true, true, true, true, true, true, true, true, true, true, true, true, true, true, true, true, true, false, false, false, false, false, false, false, false, false, false, false, false] rfl (want_off hS163 rfl rfl rfl hb132) rfl rfl (by kernel_rfl) (fun _ _ _ h => h) fun a164 hS164 => d_off hS164 21 #[true, true, true, true, true, true, true, true, true, true, true, true, true, true, true, true, true, true, true, true, true, true, false, false, false, false, false, false, false, false, false, false, false] rfl (want_off hS164 rfl rfl rfl hb132) rfl rfl (by kernel_rfl) (fun _ _ _ h => h) fun a165 hS165 => d_off hS165 22 #[true, true, true, true, true, true, true, true, true, true, true, true, true, true, true, true, true, true, true, true, true, true, true, false, false, false, false, false, false, false, false, false, false] rfl (want_off hS165 rfl rfl rfl hb132) rfl rfl (by kernel_rfl) (fun _ _ _ h => h) fun a166 hS166 => d_off hS166 23 #[true, true, true, true, true, true, true, true, true, true, true, true, true, true, true, true, true, true, true, true, true, true, true, true, false, false, false, false, false, false, false, false, false] rfl (want_off hS166 rfl rfl rfl hb132) rfl rfl (by kernel_rfl) (fun _ _ _ h => h) fun a167 hS167 => d_off hS167 24 #[true, true, true, true, true, true, true, true, true, true, true, true, true, true, true, true, true, true, true, true, true, true, true, true, true, false, false, false, false, false, false, false, false] rfl (want_off hS167 rfl rfl rfl hb132) rfl rfl (by kernel_rfl) (fun _ _ _ h => h) fun a168 hS168 => d_off hS168 25 #[true, true, true, true, true, true, true, true, true, true, true, true, true, true, true, true, true, true, true, true, true, true, true, true, true, true, false, false, false, false, false, false, false] rfl (want_off hS168 rfl rfl rfl hb132) rfl rfl (by kernel_rfl) (fun _ _ _ h => h) fun a169 hS169 => d_off hS169 26 #[true, true, true, true, true, true, true, true, true, true, true, true, true, true, true, true, true, true, true, true, true, true, true, true, true, true, true, false, false, false, false, false, false] rfl (want_off hS169 rfl rfl rfl hb132) rfl rfl (by kernel_rfl) (fun _ _ _ h => h) fun a170 hS170 => d_off hS170 27 #[true, true, true, true, true, true, true, true, true, true, true, true, true, true, true, true, true, true, true, true, true, true, true, true, true, true, true, true, false, false, false, false, false] rfl (want_off hS170 rfl rfl rfl hb132) rfl rfl (by kernel_rfl) (fun _ _ _ h => h) fun a171 hS171 => d_pure hS171 28 #[true, true, true, true, true, true, true, true, true, true, true, true, true, true, true, true, true, true, true, true, true, true, true, true, true, true, true, true, true, false, false, false, false] rfl rfl rfl rfl (by kernel_rfl) (fun _ _ _ h => h) (fun _ => (r_pickF hS171 rfl rfl rfl hb132)) fun a172 hS172 => hk _ _ ?_
        exact ⟨g105, hC127, hS172.re ⟨(by rw [← e157]; rfl), trivial⟩, hF⟩
    rintro a173 w136 ⟨g136, hC174, hS173, hF⟩
    refine d_pure hS173 29 #[true, true, true, true, true, true, true, true, true, true, true, true, true, true, true, true, true, true, true, true, true, true, true, true, true, true, true, true, true, true, false, false, false] rfl rfl rfl rfl (by kernel_rfl) (fun _ _ _ h => h) (fun _ => (r_move hS173 rfl rfl)) fun a175 hS175 => ?_
    refine d_joinR 1 #[true, true, true, true, true, true, true, true, true, true, true, true, true, true, true, true, true, true, true, true, true, true, true, true, true, true, true, true, true, true, true, true, false] (fun a w182 => ∃ (g182 : Nat → Nat), Fr (fun q => N + 6 ≤ q) w82 g76 w182 g182 ∧ Sl 80 a [(79, .bool t179)] ∧ Fr (fun q => N ≤ q) w g w182 g182) ?_ (fun hk => ?_)
    rotate_left
    · rcases Bool.eq_false_or_eq_true (t133) with hb178 | hb178
      · have H := ite_t hb178 ht180
        obtain ⟨r184, hr185, H⟩ := bind_el H
        have e183 := Option.some.inj H
        refine d_one 30 #[true, true, true, true, true, true, true, true, true, true, true, true, true, true, true, true, true, true, true, true, true, true, true, true, true, true, true, true, true, true, true, false, false] rfl (by kernel_rfl) (armW_call hS175 (want_on hS175 rfl rfl rfl hb178) rfl rfl (r_call hS175 rfl rfl (by kernel_rfl)) (law31_awake.calls (g := g136) (N + 6)   hr185) (fun _ _ ⟨g', _, Fz⟩ _ => ⟨g', hC174.trans Fz (fun c' (hm : N + 6 ≤ c') => by show N + 6 ≤ c'; omega)⟩) ?_)
        rintro _ a186 w187 ⟨g187, rfl, F187⟩ hS186
        have hC187 := hC174.trans F187 (fun c' (hm : N + 6 ≤ c') => by show N + 6 ≤ c'; omega)
        replace hF := hF.trans F187 (fun c' (hm : N + 6 ≤ c') => by show N ≤ c'; omega)
        refine d_pure hS186 31 #[true, true, true, true, true, true, true, true, true, true, true, true, true, true, true, true, true, true, true, true, true, true, true, true, true, true, true, true, true, true, true, true, false] rfl rfl rfl rfl (by kernel_rfl) (fun _ _ _ h => h) (fun _ => (r_pickT hS186 rfl rfl rfl hb178)) fun a188 hS188 => hk _ _ ?_
        exact ⟨g187, hC187, hS188.re ⟨(by rw [← e183]; rfl), trivial⟩, hF⟩
      · have H := ite_f hb178 ht180
        have e189 := Option.some.inj H
        refine d_off hS175 30 #[true, true, true, true, true, true, true, true, true, true, true, true, true, true, true, true, true, true, true, true, true, true, true, true, true, true, true, true, true, true, true, false, false] rfl (want_off hS175 rfl rfl rfl hb178) rfl rfl (by kernel_rfl) (fun _ _ _ h => h) fun a190 hS190 => d_pure hS190 31 #[true, true, true, true, true, true, true, true, true, true, true, true, true, true, true, true, true, true, true, true, true, true, true, true, true, true, true, true, true, true, true, true, false] rfl rfl rfl rfl (by kernel_rfl) (fun _ _ _ h => h) (fun _ => (r_pickF hS190 rfl rfl rfl hb178)) fun a191 hS191 => hk _ _ ?_
        exact ⟨g136, hC174, hS191.re ⟨(by rw [← e189]; rfl), trivial⟩, hF⟩
    rintro a192 w182 ⟨g182, hC193, hS192, hF⟩
    refine d_pure hS192 32 #[true, true, true, true, true, true, true, true, true, true, true, true, true, true, true, true, true, true, true, true, true, true, true, true, true, true, true, true, true, true, true, true, true] rfl rfl rfl rfl (by kernel_rfl) (fun _ _ _ h => h) (fun _ => (r_assign hS192 rfl rfl)) fun a194 hS194 => d_done (by kernel_rfl) (hK _ _ ?_)
    replace hS : Sl 80 _ [(6, .bool t179)] := hS194.re ⟨rfl, trivial⟩
    clear hK K hC193
    try clear hS83 hS84 hS85 hS95 hS96 hS126 hS128 hS173 hS175 hS192 hS194
    obtain ⟨a, ha⟩ : ∃ a', a' = a194 := ⟨_, rfl⟩
    rw [← ha] at hS ⊢; clear ha
    refine wp_ret ?_
    have e := Option.some.inj H
    subst e
    repeat (with_reducible first | refine then_ret ?_ | refine inBlock_ret ?_)
    exact c_ret1 hS Try.results9 rfl ⟨_, rfl, g182, rfl, hF⟩

/-- What is left of law31_ResumeMoreWorkersOnIndependentDevices: about plain values alone. -/
def law31_ResumeMoreWorkersOnIndependentDevices.Pure : Prop := ∀ (p0 : Int) (p1 : Int) (p2 : Int), (Lit.int .i64 p0).wf = true → (Lit.int .i64 p1).wf = true → (Lit.int .u64 p2).wf = true → law31_ResumeMoreWorkersOnIndependentDevices.f p0 p1 p2 = some true

end Go.Proofs.Ythmjgadmadlpkaa.Sim
