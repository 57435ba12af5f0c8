/-
  Texts of this session, part 5 of 8: the words of the walk, plain functions with the same answers as the Go functions and the proofs of it, plain lemmas. No condition.
  They are, one behind the other: QLaw27Awake QLaw27CallAt QLaw27Large QLaw27Ascending QLaw27Some Op.
-/
import Derived.Test.YtfhhklkmbcnhnaaProg
import Derived.Test.YtfhhklkmbcnhnaaZDeviceHierarchy4

namespace Go.Proofs.Ytfhhklkmbcnhnaa.Sim
open Go
set_option linter.unusedVariables false
set_option linter.unusedSimpArgs false

/-! ### law27_awake: function 14 -/
def law27_awake.f  : Option (Bool) := (device_Change.f (api_PowerDevice.mk (-1) (Ar4.mk [0, 2] ([] : List Int) ([] : List Int) [2]) (Ar6.mk 0 3 3 4 4 4) 2 3) 4 0).bind fun r23 => (device_Change.f (api_PowerDevice.mk (-1) (Ar4.mk [0, 2] ([] : List Int) ([] : List Int) [2]) (Ar6.mk 0 3 3 4 4 4) 2 3) 0 3).bind fun r43 => (device_Target.f (api_PowerDevice.mk (-1) (Ar4.mk [0, 2] ([] : List Int) ([] : List Int) [2]) (Ar6.mk 0 3 3 4 4 4) 2 3) 3 true).bind fun r63 => (device_Target.f (api_PowerDevice.mk (-1) (Ar4.mk [0, 2] ([] : List Int) ([] : List Int) [2]) (Ar6.mk 0 3 3 4 4 4) 2 3) 4 true).bind fun r73 => (if ((r23.2.2 == 0) && (r43.2.2 == 0)) = true then (help_Equal_int.f r23.1 [0, 2]).bind fun r103 => some r103 else some false).bind fun t107 => (if ((t107 && ((r23.2.1.length : Int) == 0)) && ((r43.1.length : Int) == 0)) = true then (help_Equal_int.f r43.2.1 [0]).bind fun r164 => some r164 else some false).bind fun t168 => (if (((t168 && (r63.1 == 2)) && (r63.2 == 0)) && (r73.2 == 13)) = true then (device_Check.f [(api_PowerDevice.mk (-1) (Ar4.mk [0, 2] ([] : List Int) ([] : List Int) [2]) (Ar6.mk 0 3 3 4 4 4) 2 3)] 3).bind fun r230 => some (r230 == 0) else some false).bind fun t235 => (if t235 = true then (device_Check.f [(api_PowerDevice.mk (-1) (Ar4.mk [0, 2] ([] : List Int) ([] : List Int) [2]) (Ar6.mk 0 3 3 4 4 4) 2 3)] 2).bind fun r266 => some (r266 == 1) else some false).bind fun t271 => some t271
set_option maxRecDepth 100000 in
set_option maxHeartbeats 4000000 in
theorem law27_awake.calls  {w : World} {g : Nat → Nat} {out : Bool} (N : Nat)  (H : law27_awake.f  = some out) :
    Calls Try.prog 14 #[] w (fun e w' => ∃ v, e = .returned v ∧ ∃ (g' : Nat → Nat), v = .bool out ∧ Fr (fun q => N ≤ q) w g w' g') := by
  unfold law27_awake.f at H
  refine calls_enter Try.func14 rfl Try.ntmps14 rfl (fun a hS => ?_)
  replace hS : Sl 89 a [] := hS
  have hF : Fr (fun q => N ≤ q) w g w g := Fr.refl _ _ _
  refine c_pure [] (fun R hR => st_val hS rfl rfl rfl (r_assign hS rfl rfl) fun a1 hS1 => wpList_nil (hR _ (hS1.re trivial))) ?_
  clear hS
  clear a
  intro a hS
  refine c_region (fun K hK => ?_)
  refine st_eff hS rfl rfl rfl (e_lit (e := 3) (parts := [(0, .int .i64 0), (1, .int .i64 2)]) (cs := [.int .i64 0, .int .i64 2]) (kint .i64) [0, 2] (N + 0) g hS rfl rfl (fun _ => by kernel_rfl) rfl (by decide) (Rows.cons (cs := [.int .i64 0]) rfl (Rows.cons (cs := [.int .i64 2]) rfl Rows.nil))) ?_
  rintro _ a5 w6 g6 ⟨⟨A2, rfl, h3⟩, F6⟩ hS5
  replace hF := hF.trans F6 (fun _ h => h.elim)
  refine st_eff hS5 rfl rfl rfl (e_lit (e := 3) (parts := [(0, .int .i64 2)]) (cs := [.int .i64 2]) (kint .i64) [2] (N + 2) g6 hS5 rfl rfl (fun _ => by kernel_rfl) rfl (by decide) (Rows.cons (cs := [.int .i64 2]) rfl Rows.nil)) ?_
  rintro _ a10 w11 g11 ⟨⟨A7, rfl, h8⟩, F11⟩ hS10
  replace h3 := OwS.fr h3 F11 (fun _ _ h => h)
  replace hF := hF.trans F11 (fun _ h => h.elim)
  refine st_val hS10 rfl rfl rfl (r_build (parts := [(0, .slice A2 [0, 2].length 2), (1, .slice none 0 0), (2, .slice none 0 0), (3, .slice A7 [2].length 1)]) (u := .agg #[.slice A2 [0, 2].length 2, .slice none 0 0, .slice none 0 0, .slice A7 [2].length 1]) hS10 rfl rfl (fun _ => by kernel_rfl)) fun a12 hS12 => st_val hS12 rfl rfl rfl (r_build (parts := [(0, .int .i64 0), (1, .int .i64 3), (2, .int .i64 3), (3, .int .i64 4), (4, .int .i64 4), (5, .int .i64 4)]) (u := .agg #[.int .i64 0, .int .i64 3, .int .i64 3, .int .i64 4, .int .i64 4, .int .i64 4]) hS12 rfl rfl (fun _ => by kernel_rfl)) fun a13 hS13 => st_val hS13 rfl rfl rfl (r_build (parts := [(0, .int .i64 (-1)), (1, .agg #[.slice A2 [0, 2].length 2, .slice none 0 0, .slice none 0 0, .slice A7 [2].length 1]), (2, .agg #[.int .i64 0, .int .i64 3, .int .i64 3, .int .i64 4, .int .i64 4, .int .i64 4]), (4, .int .i64 3), (3, .int .i64 2)]) (u := .agg #[.int .i64 (-1), .slice A2 [0, 2].length 2, .slice none 0 0, .slice none 0 0, .slice A7 [2].length 1, .int .i64 0, .int .i64 3, .int .i64 3, .int .i64 4, .int .i64 4, .int .i64 4, .int .i64 2, .int .i64 3]) hS13 rfl rfl (fun _ => by kernel_rfl)) fun a14 hS14 => ?_
  refine st_eff hS14 rfl rfl rfl (e_alloc (cs := [.int .i64 0, .slice none 0 0, .slice none 0 0, .slice none 0 0, .slice none 0 0, .int .i64 0, .int .i64 0, .int .i64 0, .int .i64 0, .int .i64 0, .int .i64 0, .int .i64 0, .int .i64 0]) (N + 4) g11 hS14 rfl (by kernel_rfl)) ?_
  rintro _ a18 w19 g19 ⟨⟨b15, rfl, h16⟩, F19⟩ hS18
  replace h3 := OwS.fr h3 F19 (fun _ _ h => h)
  replace h8 := OwS.fr h8 F19 (fun _ _ h => h)
  replace hF := hF.trans F19 (fun _ h => h.elim)
  refine st_effS hS18 rfl rfl (e_storeB (n := 13) (bb := true) (cs' := [.int .i64 (-1), .slice A2 [0, 2].length 2, .slice none 0 0, .slice none 0 0, .slice A7 [2].length 1, .int .i64 0, .int .i64 3, .int .i64 3, .int .i64 4, .int .i64 4, .int .i64 4, .int .i64 2, .int .i64 3]) g19 hS18 rfl rfl rfl (by kernel_rfl) rfl rfl rfl h16 rfl rfl) ?_
  rintro a20 w21 g21 ⟨h16, F21⟩ hS20
  replace h3 := OwS.fr h3 F21 (fun c' hc (hm : c' = N + 4) => by omega)
  replace h8 := OwS.fr h8 F21 (fun c' hc (hm : c' = N + 4) => by omega)
  replace hF := hF.trans F21 (fun c' (hm : c' = N + 4) => by show N ≤ c'; omega)
  refine wpList_nil (hK _ _ ?_)
  replace hS : Sl 89 _ [(1, .pointer (some ⟨b15, 0, none⟩))] := hS20.re ⟨rfl, trivial⟩
  clear hK K
  try clear hS5 hS10 hS12 hS13 hS14 hS18 hS20
  obtain ⟨a, ha⟩ : ∃ a', a' = a20 := ⟨_, rfl⟩
  rw [← ha] at hS ⊢; clear ha
  obtain ⟨r23, hr24, H⟩ := bind_el H
  refine c_region (fun K hK => ?_)
  refine st_val hS rfl rfl rfl (r_loadN (n := 13) (cs := [.int .i64 (-1), .slice A2 [0, 2].length 2, .slice none 0 0, .slice none 0 0, .slice A7 [2].length 1, .int .i64 0, .int .i64 3, .int .i64 3, .int .i64 4, .int .i64 4, .int .i64 4, .int .i64 2, .int .i64 3]) hS rfl rfl (by kernel_rfl) rfl (Bx.cells_off h16 0 13)) fun a22 hS22 => ?_
  refine st_enter hS22 rfl rfl rfl (r_call hS22 rfl rfl (by kernel_rfl)) (device_Change.calls (C0 := (fun q => q = N + 0 ∨ q = N + 2)) (p0 := (api_PowerDevice.mk (-1) (Ar4.mk [0, 2] ([] : List Int) ([] : List Int) [2]) (Ar6.mk 0 3 3 4 4 4) 2 3)) (p1 := 4) (p2 := 0) (g := g21) (N + 22) (N + 6) (N + 8) (RdS.weak (OwD.rdf (fun _ _ _ _ _ _ h => h) h3) (fun _ h => (Or.inl h))) (RdS.nil (kint .i64) w21 g21 (fun q => q = N + 0 ∨ q = N + 2)) (RdS.nil (kint .i64) w21 g21 (fun q => q = N + 0 ∨ q = N + 2)) (RdS.weak (OwD.rdf (fun _ _ _ _ _ _ h => h) h8) (fun _ h => (Or.inr h))) (fun q (hq : q = N + 0 ∨ q = N + 2) => by rcases hq with hq | hq; all_goals first | (omega; done) | (omega; done)) (by omega) (by omega) (by omega) hr24) ?_
  rintro _ a33 w34 ⟨g34, A25, cap26, A29, cap30, rfl, h27, h31, F34⟩ hS33
  replace h16 := h16.fr F34 (fun (hm : (N + 6 ≤ N + 4 ∧ N + 4 < N + 6 + 2) ∨ (N + 8 ≤ N + 4 ∧ N + 4 < N + 8 + 2) ∨ N + 22 ≤ N + 4) => by omega)
  replace h3 := OwS.fr h3 F34 (fun c' hc (hm : (N + 6 ≤ c' ∧ c' < N + 6 + 2) ∨ (N + 8 ≤ c' ∧ c' < N + 8 + 2) ∨ N + 22 ≤ c') => by omega)
  replace h8 := OwS.fr h8 F34 (fun c' hc (hm : (N + 6 ≤ c' ∧ c' < N + 6 + 2) ∨ (N + 8 ≤ c' ∧ c' < N + 8 + 2) ∨ N + 22 ≤ c') => by omega)
  replace hF := hF.trans F34 (fun c' (hm : (N + 6 ≤ c' ∧ c' < N + 6 + 2) ∨ (N + 8 ≤ c' ∧ c' < N + 8 + 2) ∨ N + 22 ≤ c') => by show N ≤ c'; omega)
  refine st_val hS33 rfl rfl rfl (r_move hS33 rfl rfl) fun a35 hS35 => st_val hS35 rfl rfl rfl (r_extract hS35 rfl rfl rfl) fun a36 hS36 => st_val hS36 rfl rfl rfl (r_extract hS36 rfl rfl rfl) fun a37 hS37 => st_val hS37 rfl rfl rfl (r_extract hS37 rfl rfl rfl) fun a38 hS38 => st_val hS38 rfl rfl rfl (r_assign hS38 rfl rfl) fun a39 hS39 => st_val hS39 rfl rfl rfl (r_assign hS39 rfl rfl) fun a40 hS40 => st_val hS40 rfl rfl rfl (r_assign hS40 rfl rfl) fun a41 hS41 => wpList_nil (hK _ _ ?_)
  replace hS : Sl 89 _ [(1, .pointer (some ⟨b15, 0, none⟩)), (2, .slice A25 r23.1.length cap26), (3, .slice A29 r23.2.1.length cap30), (4, .int .i64 r23.2.2)] := hS41.re ⟨rfl, rfl, rfl, rfl, trivial⟩
  clear hK K
  try clear hS22 hS33 hS35 hS36 hS37 hS38 hS39 hS40 hS41
  obtain ⟨a, ha⟩ : ∃ a', a' = a41 := ⟨_, rfl⟩
  rw [← ha] at hS ⊢; clear ha
  obtain ⟨r43, hr44, H⟩ := bind_el H
  refine c_region (fun K hK => ?_)
  refine st_val hS rfl rfl rfl (r_loadN (n := 13) (cs := [.int .i64 (-1), .slice A2 [0, 2].length 2, .slice none 0 0, .slice none 0 0, .slice A7 [2].length 1, .int .i64 0, .int .i64 3, .int .i64 3, .int .i64 4, .int .i64 4, .int .i64 4, .int .i64 2, .int .i64 3]) hS rfl rfl (by kernel_rfl) rfl (Bx.cells_off h16 0 13)) fun a42 hS42 => ?_
  refine st_enter hS42 rfl rfl rfl (r_call hS42 rfl rfl (by kernel_rfl)) (device_Change.calls (C0 := (fun q => q = N + 0 ∨ q = N + 2)) (p0 := (api_PowerDevice.mk (-1) (Ar4.mk [0, 2] ([] : List Int) ([] : List Int) [2]) (Ar6.mk 0 3 3 4 4 4) 2 3)) (p1 := 0) (p2 := 3) (g := g34) (N + 22) (N + 10) (N + 12) (RdS.weak (OwD.rdf (fun _ _ _ _ _ _ h => h) h3) (fun _ h => (Or.inl h))) (RdS.nil (kint .i64) w34 g34 (fun q => q = N + 0 ∨ q = N + 2)) (RdS.nil (kint .i64) w34 g34 (fun q => q = N + 0 ∨ q = N + 2)) (RdS.weak (OwD.rdf (fun _ _ _ _ _ _ h => h) h8) (fun _ h => (Or.inr h))) (fun q (hq : q = N + 0 ∨ q = N + 2) => by rcases hq with hq | hq; all_goals first | (omega; done) | (omega; done)) (by omega) (by omega) (by omega) hr44) ?_
  rintro _ a53 w54 ⟨g54, A45, cap46, A49, cap50, rfl, h47, h51, F54⟩ hS53
  replace h16 := h16.fr F54 (fun (hm : (N + 10 ≤ N + 4 ∧ N + 4 < N + 10 + 2) ∨ (N + 12 ≤ N + 4 ∧ N + 4 < N + 12 + 2) ∨ N + 22 ≤ N + 4) => by omega)
  replace h27 := OwS.fr h27 F54 (fun c' hc (hm : (N + 10 ≤ c' ∧ c' < N + 10 + 2) ∨ (N + 12 ≤ c' ∧ c' < N + 12 + 2) ∨ N + 22 ≤ c') => by omega)
  replace h31 := OwS.fr h31 F54 (fun c' hc (hm : (N + 10 ≤ c' ∧ c' < N + 10 + 2) ∨ (N + 12 ≤ c' ∧ c' < N + 12 + 2) ∨ N + 22 ≤ c') => by omega)
  replace h3 := OwS.fr h3 F54 (fun c' hc (hm : (N + 10 ≤ c' ∧ c' < N + 10 + 2) ∨ (N + 12 ≤ c' ∧ c' < N + 12 + 2) ∨ N + 22 ≤ c') => by omega)
  replace h8 := OwS.fr h8 F54 (fun c' hc (hm : (N + 10 ≤ c' ∧ c' < N + 10 + 2) ∨ (N + 12 ≤ c' ∧ c' < N + 12 + 2) ∨ N + 22 ≤ c') => by omega)
  replace hF := hF.trans F54 (fun c' (hm : (N + 10 ≤ c' ∧ c' < N + 10 + 2) ∨ (N + 12 ≤ c' ∧ c' < N + 12 + 2) ∨ N + 22 ≤ c') => by show N ≤ c'; omega)
  refine st_val hS53 rfl rfl rfl (r_move hS53 rfl rfl) fun a55 hS55 => st_val hS55 rfl rfl rfl (r_extract hS55 rfl rfl rfl) fun a56 hS56 => st_val hS56 rfl rfl rfl (r_extract hS56 rfl rfl rfl) fun a57 hS57 => st_val hS57 rfl rfl rfl (r_extract hS57 rfl rfl rfl) fun a58 hS58 => st_val hS58 rfl rfl rfl (r_assign hS58 rfl rfl) fun a59 hS59 => st_val hS59 rfl rfl rfl (r_assign hS59 rfl rfl) fun a60 hS60 => st_val hS60 rfl rfl rfl (r_assign hS60 rfl rfl) fun a61 hS61 => wpList_nil (hK _ _ ?_)
  replace hS : Sl 89 _ [(1, .pointer (some ⟨b15, 0, none⟩)), (2, .slice A25 r23.1.length cap26), (3, .slice A29 r23.2.1.length cap30), (4, .int .i64 r23.2.2), (5, .slice A45 r43.1.length cap46), (6, .slice A49 r43.2.1.length cap50), (7, .int .i64 r43.2.2)] := hS61.re ⟨rfl, rfl, rfl, rfl, rfl, rfl, rfl, trivial⟩
  clear hK K
  try clear hS42 hS53 hS55 hS56 hS57 hS58 hS59 hS60 hS61
  obtain ⟨a, ha⟩ : ∃ a', a' = a61 := ⟨_, rfl⟩
  rw [← ha] at hS ⊢; clear ha
  obtain ⟨r63, hr64, H⟩ := bind_el H
  refine c_region (fun K hK => ?_)
  refine st_val hS rfl rfl rfl (r_loadN (n := 13) (cs := [.int .i64 (-1), .slice A2 [0, 2].length 2, .slice none 0 0, .slice none 0 0, .slice A7 [2].length 1, .int .i64 0, .int .i64 3, .int .i64 3, .int .i64 4, .int .i64 4, .int .i64 4, .int .i64 2, .int .i64 3]) hS rfl rfl (by kernel_rfl) rfl (Bx.cells_off h16 0 13)) fun a62 hS62 => ?_
  refine st_enter hS62 rfl rfl rfl (r_call hS62 rfl rfl (by kernel_rfl)) (device_Target.calls (C0 := (fun q => q = N + 0 ∨ q = N + 2)) (p0 := (api_PowerDevice.mk (-1) (Ar4.mk [0, 2] ([] : List Int) ([] : List Int) [2]) (Ar6.mk 0 3 3 4 4 4) 2 3)) (p1 := 3) (p2 := true) (g := g54) (N + 22)  (RdS.weak (OwD.rdf (fun _ _ _ _ _ _ h => h) h3) (fun _ h => (Or.inl h))) (RdS.nil (kint .i64) w54 g54 (fun q => q = N + 0 ∨ q = N + 2)) (RdS.nil (kint .i64) w54 g54 (fun q => q = N + 0 ∨ q = N + 2)) (RdS.weak (OwD.rdf (fun _ _ _ _ _ _ h => h) h8) (fun _ h => (Or.inr h))) (fun q (hq : q = N + 0 ∨ q = N + 2) => by rcases hq with hq | hq; all_goals first | (omega; done) | (omega; done)) hr64) ?_
  rintro _ a65 w66 ⟨g66, rfl, F66⟩ hS65
  replace h16 := h16.fr F66 (fun (hm : N + 22 ≤ N + 4) => by omega)
  replace h27 := OwS.fr h27 F66 (fun c' hc (hm : N + 22 ≤ c') => by omega)
  replace h31 := OwS.fr h31 F66 (fun c' hc (hm : N + 22 ≤ c') => by omega)
  replace h3 := OwS.fr h3 F66 (fun c' hc (hm : N + 22 ≤ c') => by omega)
  replace h47 := OwS.fr h47 F66 (fun c' hc (hm : N + 22 ≤ c') => by omega)
  replace h51 := OwS.fr h51 F66 (fun c' hc (hm : N + 22 ≤ c') => by omega)
  replace h8 := OwS.fr h8 F66 (fun c' hc (hm : N + 22 ≤ c') => by omega)
  replace hF := hF.trans F66 (fun c' (hm : N + 22 ≤ c') => by show N ≤ c'; omega)
  refine st_val hS65 rfl rfl rfl (r_move hS65 rfl rfl) fun a67 hS67 => st_val hS67 rfl rfl rfl (r_extract hS67 rfl rfl rfl) fun a68 hS68 => st_val hS68 rfl rfl rfl (r_extract hS68 rfl rfl rfl) fun a69 hS69 => st_val hS69 rfl rfl rfl (r_assign hS69 rfl rfl) fun a70 hS70 => st_val hS70 rfl rfl rfl (r_assign hS70 rfl rfl) fun a71 hS71 => wpList_nil (hK _ _ ?_)
  replace hS : Sl 89 _ [(1, .pointer (some ⟨b15, 0, none⟩)), (2, .slice A25 r23.1.length cap26), (3, .slice A29 r23.2.1.length cap30), (4, .int .i64 r23.2.2), (5, .slice A45 r43.1.length cap46), (6, .slice A49 r43.2.1.length cap50), (7, .int .i64 r43.2.2), (8, .int .i64 r63.1), (9, .int .i64 r63.2)] := hS71.re ⟨rfl, rfl, rfl, rfl, rfl, rfl, rfl, rfl, rfl, trivial⟩
  clear hK K
  try clear hS62 hS65 hS67 hS68 hS69 hS70 hS71
  obtain ⟨a, ha⟩ : ∃ a', a' = a71 := ⟨_, rfl⟩
  rw [← ha] at hS ⊢; clear ha
  obtain ⟨r73, hr74, H⟩ := bind_el H
  refine c_region (fun K hK => ?_)
  refine st_val hS rfl rfl rfl (r_loadN (n := 13) (cs := [.int .i64 (-1), .slice A2 [0, 2].length 2, .slice none 0 0, .slice none 0 0, .slice A7 [2].length 1, .int .i64 0, .int .i64 3, .int .i64 3, .int .i64 4, .int .i64 4, .int .i64 4, .int .i64 2, .int .i64 3]) hS rfl rfl (by kernel_rfl) rfl (Bx.cells_off h16 0 13)) fun a72 hS72 => ?_
  refine st_enter hS72 rfl rfl rfl (r_call hS72 rfl rfl (by kernel_rfl)) (device_Target.calls (C0 := (fun q => q = N + 0 ∨ q = N + 2)) (p0 := (api_PowerDevice.mk (-1) (Ar4.mk [0, 2] ([] : List Int) ([] : List Int) [2]) (Ar6.mk 0 3 3 4 4 4) 2 3)) (p1 := 4) (p2 := true) (g := g66) (N + 22)  (RdS.weak (OwD.rdf (fun _ _ _ _ _ _ h => h) h3) (fun _ h => (Or.inl h))) (RdS.nil (kint .i64) w66 g66 (fun q => q = N + 0 ∨ q = N + 2)) (RdS.nil (kint .i64) w66 g66 (fun q => q = N + 0 ∨ q = N + 2)) (RdS.weak (OwD.rdf (fun _ _ _ _ _ _ h => h) h8) (fun _ h => (Or.inr h))) (fun q (hq : q = N + 0 ∨ q = N + 2) => by rcases hq with hq | hq; all_goals first | (omega; done) | (omega; done)) hr74) ?_
  rintro _ a75 w76 ⟨g76, rfl, F76⟩ hS75
  replace h16 := h16.fr F76 (fun (hm : N + 22 ≤ N + 4) => by omega)
  replace h27 := OwS.fr h27 F76 (fun c' hc (hm : N + 22 ≤ c') => by omega)
  replace h31 := OwS.fr h31 F76 (fun c' hc (hm : N + 22 ≤ c') => by omega)
  replace h3 := OwS.fr h3 F76 (fun c' hc (hm : N + 22 ≤ c') => by omega)
  replace h47 := OwS.fr h47 F76 (fun c' hc (hm : N + 22 ≤ c') => by omega)
  replace h51 := OwS.fr h51 F76 (fun c' hc (hm : N + 22 ≤ c') => by omega)
  replace h8 := OwS.fr h8 F76 (fun c' hc (hm : N + 22 ≤ c') => by omega)
  replace hF := hF.trans F76 (fun c' (hm : N + 22 ≤ c') => by show N ≤ c'; omega)
  refine st_val hS75 rfl rfl rfl (r_move hS75 rfl rfl) fun a77 hS77 => st_val hS77 rfl rfl rfl (r_extract hS77 rfl rfl rfl) fun a78 hS78 => st_val hS78 rfl rfl rfl (r_extract hS78 rfl rfl rfl) fun a79 hS79 => st_val hS79 rfl rfl rfl (r_assign hS79 rfl rfl) fun a80 hS80 => st_val hS80 rfl rfl rfl (r_assign hS80 rfl rfl) fun a81 hS81 => wpList_nil (hK _ _ ?_)
  replace hS : Sl 89 _ [(1, .pointer (some ⟨b15, 0, none⟩)), (2, .slice A25 r23.1.length cap26), (3, .slice A29 r23.2.1.length cap30), (4, .int .i64 r23.2.2), (5, .slice A45 r43.1.length cap46), (6, .slice A49 r43.2.1.length cap50), (7, .int .i64 r43.2.2), (8, .int .i64 r63.1), (9, .int .i64 r63.2), (11, .int .i64 r73.2)] := hS81.re ⟨rfl, rfl, rfl, rfl, rfl, rfl, rfl, rfl, rfl, rfl, trivial⟩
  clear hK K
  try clear hS72 hS75 hS77 hS78 hS79 hS80 hS81
  obtain ⟨a, ha⟩ : ∃ a', a' = a81 := ⟨_, rfl⟩
  rw [← ha] at hS ⊢; clear ha
  obtain ⟨t107, ht108, H⟩ := bind_el H
  obtain ⟨t168, ht169, H⟩ := bind_el H
  obtain ⟨t235, ht236, H⟩ := bind_el H
  obtain ⟨t271, ht272, H⟩ := bind_el H
  refine c_region (fun K hK => ?_)
  refine st_val hS rfl rfl rfl (r_move hS rfl rfl) fun a82 hS82 => st_val hS82 rfl rfl rfl (r_bin hS82 rfl rfl rfl b_eql) fun a83 hS83 => st_val hS83 rfl rfl rfl (r_move hS83 rfl rfl) fun a84 hS84 => ?_
  refine g_join (N := 89) 3 [(1, .pointer (some ⟨b15, 0, none⟩)), (2, .slice A25 r23.1.length cap26), (3, .slice A29 r23.2.1.length cap30), (5, .slice A45 r43.1.length cap46), (6, .slice A49 r43.2.1.length cap50), (8, .int .i64 r63.1), (9, .int .i64 r63.2), (11, .int .i64 r73.2), (44, .bool ((r23.2.2 == 0) && (r43.2.2 == 0)))] ?_ (fun hk => ?_)
  rotate_left
  · rcases Bool.eq_false_or_eq_true ((r23.2.2 == 0)) with hb85 | hb85
    · refine st_valW hS84 (want_on hS84 rfl rfl rfl hb85) rfl rfl (r_move hS84 rfl rfl) fun a88 hS88 => st_valW hS88 (want_on hS88 rfl rfl rfl hb85) rfl rfl (r_bin hS88 rfl rfl rfl b_eql) fun a89 hS89 => st_val hS89 rfl rfl rfl (r_pickT hS89 rfl rfl rfl hb85) fun a90 hS90 => hk _ (hS90.re ⟨rfl, rfl, rfl, rfl, rfl, rfl, rfl, rfl, (by rw [hb85]; rfl), trivial⟩)
    · refine st_off hS84 (want_off hS84 rfl rfl rfl hb85) rfl rfl fun a91 hS91 => st_off hS91 (want_off hS91 rfl rfl rfl hb85) rfl rfl fun a92 hS92 => st_val hS92 rfl rfl rfl (r_pickF hS92 rfl rfl rfl hb85) fun a93 hS93 => hk _ (hS93.re ⟨rfl, rfl, rfl, rfl, rfl, rfl, rfl, rfl, (by rw [hb85]; rfl), trivial⟩)
  intro a94 hS94
  refine st_val hS94 rfl rfl rfl (r_move hS94 rfl rfl) fun a95 hS95 => ?_
  refine g_joinR 4 (fun a w109 => ∃ (g109 : Nat → Nat), Sl 89 a [(1, .pointer (some ⟨b15, 0, none⟩)), (3, .slice A29 r23.2.1.length cap30), (5, .slice A45 r43.1.length cap46), (6, .slice A49 r43.2.1.length cap50), (8, .int .i64 r63.1), (9, .int .i64 r63.2), (11, .int .i64 r73.2), (49, .bool t107)] ∧ Bx w109 g109 (N + 4) b15 33 [.int .i64 (-1), .slice A2 [0, 2].length 2, .slice none 0 0, .slice none 0 0, .slice A7 [2].length 1, .int .i64 0, .int .i64 3, .int .i64 3, .int .i64 4, .int .i64 4, .int .i64 4, .int .i64 2, .int .i64 3] ∧ OwS (kint .i64) 3 w109 g109 (N + 8) A29 cap30 r23.2.1 ∧ OwS (kint .i64) 3 w109 g109 (N + 0) A2 2 [0, 2] ∧ OwS (kint .i64) 3 w109 g109 (N + 10) A45 cap46 r43.1 ∧ OwS (kint .i64) 3 w109 g109 (N + 12) A49 cap50 r43.2.1 ∧ OwS (kint .i64) 3 w109 g109 (N + 2) A7 1 [2] ∧ Fr (fun q => N ≤ q) w g w109 g109) ?_ (fun hk => ?_)
  rotate_left
  · rcases Bool.eq_false_or_eq_true (((r23.2.2 == 0) && (r43.2.2 == 0))) with hb96 | hb96
    · have H := ite_t hb96 ht108
      obtain ⟨r116, hr117, H⟩ := bind_el H
      have e120 := Option.some.inj H
      refine st_valW hS95 (want_on hS95 rfl rfl rfl hb96) rfl rfl (r_move hS95 rfl rfl) fun a110 hS110 => ?_
      refine st_effW hS110 (want_on hS110 rfl rfl rfl hb96) rfl rfl (e_lit (e := 3) (parts := [(0, .int .i64 0), (1, .int .i64 2)]) (cs := [.int .i64 0, .int .i64 2]) (kint .i64) [0, 2] (N + 14) g76 hS110 rfl rfl (fun _ => by kernel_rfl) rfl (by decide) (Rows.cons (cs := [.int .i64 0]) rfl (Rows.cons (cs := [.int .i64 2]) rfl Rows.nil))) ?_
      rintro _ a114 w115 g115 ⟨⟨A111, rfl, h112⟩, F115⟩ hS114
      replace h16 := h16.fr F115 (fun h => h)
      replace h27 := OwS.fr h27 F115 (fun _ _ h => h)
      replace h31 := OwS.fr h31 F115 (fun _ _ h => h)
      replace h3 := OwS.fr h3 F115 (fun _ _ h => h)
      replace h47 := OwS.fr h47 F115 (fun _ _ h => h)
      replace h51 := OwS.fr h51 F115 (fun _ _ h => h)
      replace h8 := OwS.fr h8 F115 (fun _ _ h => h)
      replace hF := hF.trans F115 (fun _ h => h.elim)
      refine st_enterW hS114 (want_on hS114 rfl rfl rfl hb96) rfl rfl (r_call hS114 rfl rfl (by kernel_rfl)) (help_Equal_int.calls (C0 := (fun q => q = N + 6)) (C1 := (fun q => q = N + 14)) (p0 := r23.1) (p1 := [0, 2]) (g := g115) (N + 22)  (OwD.rdf (fun _ _ _ _ _ _ h => h) h27) (fun q (hq : q = N + 6) => by omega) (OwD.rdf (fun _ _ _ _ _ _ h => h) h112) (fun q (hq : q = N + 14) => by omega) hr117) ?_
      rintro _ a118 w119 ⟨g119, rfl, F119⟩ hS118
      replace h112 := OwS.fr h112 F119 (fun c' hc (hm : N + 22 ≤ c') => by omega)
      replace h16 := h16.fr F119 (fun (hm : N + 22 ≤ N + 4) => by omega)
      replace h27 := OwS.fr h27 F119 (fun c' hc (hm : N + 22 ≤ c') => by omega)
      replace h31 := OwS.fr h31 F119 (fun c' hc (hm : N + 22 ≤ c') => by omega)
      replace h3 := OwS.fr h3 F119 (fun c' hc (hm : N + 22 ≤ c') => by omega)
      replace h47 := OwS.fr h47 F119 (fun c' hc (hm : N + 22 ≤ c') => by omega)
      replace h51 := OwS.fr h51 F119 (fun c' hc (hm : N + 22 ≤ c') => by omega)
      replace h8 := OwS.fr h8 F119 (fun c' hc (hm : N + 22 ≤ c') => by omega)
      replace hF := hF.trans F119 (fun c' (hm : N + 22 ≤ c') => by show N ≤ c'; omega)
      refine st_val hS118 rfl rfl rfl (r_pickT hS118 rfl rfl rfl hb96) fun a121 hS121 => hk _ _ ?_
      exact ⟨g119, hS121.re ⟨rfl, rfl, rfl, rfl, rfl, rfl, rfl, (by rw [← e120]; rfl), trivial⟩, h16, h31, h3, h47, h51, h8, hF⟩
    · have H := ite_f hb96 ht108
      have e122 := Option.some.inj H
      refine st_off hS95 (want_off hS95 rfl rfl rfl hb96) rfl rfl fun a123 hS123 => st_off hS123 (want_off hS123 rfl rfl rfl hb96) rfl rfl fun a124 hS124 => st_off hS124 (want_off hS124 rfl rfl rfl hb96) rfl rfl fun a125 hS125 => st_val hS125 rfl rfl rfl (r_pickF hS125 rfl rfl rfl hb96) fun a126 hS126 => hk _ _ ?_
      exact ⟨g76, hS126.re ⟨rfl, rfl, rfl, rfl, rfl, rfl, rfl, (by rw [← e122]; rfl), trivial⟩, h16, h31, h3, h47, h51, h8, hF⟩
  rintro a127 w109 ⟨g109, hS127, h16, h31, h3, h47, h51, h8, hF⟩
  refine st_val hS127 rfl rfl rfl (r_move hS127 rfl rfl) fun a128 hS128 => ?_
  refine g_join (N := 89) 4 [(1, .pointer (some ⟨b15, 0, none⟩)), (5, .slice A45 r43.1.length cap46), (6, .slice A49 r43.2.1.length cap50), (8, .int .i64 r63.1), (9, .int .i64 r63.2), (11, .int .i64 r73.2), (54, .bool (t107 && ((r23.2.1.length : Int) == 0)))] ?_ (fun hk => ?_)
  rotate_left
  · rcases Bool.eq_false_or_eq_true (t107) with hb129 | hb129
    · refine st_valW hS128 (want_on hS128 rfl rfl rfl hb129) rfl rfl (r_move hS128 rfl rfl) fun a133 hS133 => st_valW hS133 (want_on hS133 rfl rfl rfl hb129) rfl rfl (r_len (e := 3) (sz := 1) (by_ := 8) hS133 rfl rfl (by kernel_rfl)) fun a134 hS134 => st_valW hS134 (want_on hS134 rfl rfl rfl hb129) rfl rfl (r_bin hS134 rfl rfl rfl b_eql) fun a135 hS135 => st_val hS135 rfl rfl rfl (r_pickT hS135 rfl rfl rfl hb129) fun a136 hS136 => hk _ (hS136.re ⟨rfl, rfl, rfl, rfl, rfl, rfl, (by rw [hb129]; rfl), trivial⟩)
    · refine st_off hS128 (want_off hS128 rfl rfl rfl hb129) rfl rfl fun a137 hS137 => st_off hS137 (want_off hS137 rfl rfl rfl hb129) rfl rfl fun a138 hS138 => st_off hS138 (want_off hS138 rfl rfl rfl hb129) rfl rfl fun a139 hS139 => st_val hS139 rfl rfl rfl (r_pickF hS139 rfl rfl rfl hb129) fun a140 hS140 => hk _ (hS140.re ⟨rfl, rfl, rfl, rfl, rfl, rfl, (by rw [hb129]; rfl), trivial⟩)
  intro a141 hS141
  refine st_val hS141 rfl rfl rfl (r_move hS141 rfl rfl) fun a142 hS142 => ?_
  refine g_join (N := 89) 4 [(1, .pointer (some ⟨b15, 0, none⟩)), (6, .slice A49 r43.2.1.length cap50), (8, .int .i64 r63.1), (9, .int .i64 r63.2), (11, .int .i64 r73.2), (59, .bool ((t107 && ((r23.2.1.length : Int) == 0)) && ((r43.1.length : Int) == 0)))] ?_ (fun hk => ?_)
  rotate_left
  · rcases Bool.eq_false_or_eq_true ((t107 && ((r23.2.1.length : Int) == 0))) with hb143 | hb143
    · refine st_valW hS142 (want_on hS142 rfl rfl rfl hb143) rfl rfl (r_move hS142 rfl rfl) fun a147 hS147 => st_valW hS147 (want_on hS147 rfl rfl rfl hb143) rfl rfl (r_len (e := 3) (sz := 1) (by_ := 8) hS147 rfl rfl (by kernel_rfl)) fun a148 hS148 => st_valW hS148 (want_on hS148 rfl rfl rfl hb143) rfl rfl (r_bin hS148 rfl rfl rfl b_eql) fun a149 hS149 => st_val hS149 rfl rfl rfl (r_pickT hS149 rfl rfl rfl hb143) fun a150 hS150 => hk _ (hS150.re ⟨rfl, rfl, rfl, rfl, rfl, (by rw [hb143]; rfl), trivial⟩)
    · refine st_off hS142 (want_off hS142 rfl rfl rfl hb143) rfl rfl fun a151 hS151 => st_off hS151 (want_off hS151 rfl rfl rfl hb143) rfl rfl fun a152 hS152 => st_off hS152 (want_off hS152 rfl rfl rfl hb143) rfl rfl fun a153 hS153 => st_val hS153 rfl rfl rfl (r_pickF hS153 rfl rfl rfl hb143) fun a154 hS154 => hk _ (hS154.re ⟨rfl, rfl, rfl, rfl, rfl, (by rw [hb143]; rfl), trivial⟩)
  intro a155 hS155
  refine st_val hS155 rfl rfl rfl (r_move hS155 rfl rfl) fun a156 hS156 => ?_
  refine g_joinR 4 (fun a w170 => ∃ (g170 : Nat → Nat), Sl 89 a [(1, .pointer (some ⟨b15, 0, none⟩)), (8, .int .i64 r63.1), (9, .int .i64 r63.2), (11, .int .i64 r73.2), (64, .bool t168)] ∧ Bx w170 g170 (N + 4) b15 33 [.int .i64 (-1), .slice A2 [0, 2].length 2, .slice none 0 0, .slice none 0 0, .slice A7 [2].length 1, .int .i64 0, .int .i64 3, .int .i64 3, .int .i64 4, .int .i64 4, .int .i64 4, .int .i64 2, .int .i64 3] ∧ OwS (kint .i64) 3 w170 g170 (N + 0) A2 2 [0, 2] ∧ OwS (kint .i64) 3 w170 g170 (N + 2) A7 1 [2] ∧ Fr (fun q => N ≤ q) w g w170 g170) ?_ (fun hk => ?_)
  rotate_left
  · rcases Bool.eq_false_or_eq_true (((t107 && ((r23.2.1.length : Int) == 0)) && ((r43.1.length : Int) == 0))) with hb157 | hb157
    · have H := ite_t hb157 ht169
      obtain ⟨r177, hr178, H⟩ := bind_el H
      have e181 := Option.some.inj H
      refine st_valW hS156 (want_on hS156 rfl rfl rfl hb157) rfl rfl (r_move hS156 rfl rfl) fun a171 hS171 => ?_
      refine st_effW hS171 (want_on hS171 rfl rfl rfl hb157) rfl rfl (e_lit (e := 3) (parts := [(0, .int .i64 0)]) (cs := [.int .i64 0]) (kint .i64) [0] (N + 16) g109 hS171 rfl rfl (fun _ => by kernel_rfl) rfl (by decide) (Rows.cons (cs := [.int .i64 0]) rfl Rows.nil)) ?_
      rintro _ a175 w176 g176 ⟨⟨A172, rfl, h173⟩, F176⟩ hS175
      replace h16 := h16.fr F176 (fun h => h)
      replace h31 := OwS.fr h31 F176 (fun _ _ h => h)
      replace h3 := OwS.fr h3 F176 (fun _ _ h => h)
      replace h47 := OwS.fr h47 F176 (fun _ _ h => h)
      replace h51 := OwS.fr h51 F176 (fun _ _ h => h)
      replace h8 := OwS.fr h8 F176 (fun _ _ h => h)
      replace hF := hF.trans F176 (fun _ h => h.elim)
      refine st_enterW hS175 (want_on hS175 rfl rfl rfl hb157) rfl rfl (r_call hS175 rfl rfl (by kernel_rfl)) (help_Equal_int.calls (C0 := (fun q => q = N + 12)) (C1 := (fun q => q = N + 16)) (p0 := r43.2.1) (p1 := [0]) (g := g176) (N + 22)  (OwD.rdf (fun _ _ _ _ _ _ h => h) h51) (fun q (hq : q = N + 12) => by omega) (OwD.rdf (fun _ _ _ _ _ _ h => h) h173) (fun q (hq : q = N + 16) => by omega) hr178) ?_
      rintro _ a179 w180 ⟨g180, rfl, F180⟩ hS179
      replace h16 := h16.fr F180 (fun (hm : N + 22 ≤ N + 4) => by omega)
      replace h173 := OwS.fr h173 F180 (fun c' hc (hm : N + 22 ≤ c') => by omega)
      replace h31 := OwS.fr h31 F180 (fun c' hc (hm : N + 22 ≤ c') => by omega)
      replace h3 := OwS.fr h3 F180 (fun c' hc (hm : N + 22 ≤ c') => by omega)
      replace h47 := OwS.fr h47 F180 (fun c' hc (hm : N + 22 ≤ c') => by omega)
      replace h51 := OwS.fr h51 F180 (fun c' hc (hm : N + 22 ≤ c') => by omega)
      replace h8 := OwS.fr h8 F180 (fun c' hc (hm : N + 22 ≤ c') => by omega)
      replace hF := hF.trans F180 (fun c' (hm : N + 22 ≤ c') => by show N ≤ c'; omega)
      refine st_val hS179 rfl rfl rfl (r_pickT hS179 rfl rfl rfl hb157) fun a182 hS182 => hk _ _ ?_
      exact ⟨g180, hS182.re ⟨rfl, rfl, rfl, rfl, (by rw [← e181]; rfl), trivial⟩, h16, h3, h8, hF⟩
    · have H := ite_f hb157 ht169
      have e183 := Option.some.inj H
      refine st_off hS156 (want_off hS156 rfl rfl rfl hb157) rfl rfl fun a184 hS184 => st_off hS184 (want_off hS184 rfl rfl rfl hb157) rfl rfl fun a185 hS185 => st_off hS185 (want_off hS185 rfl rfl rfl hb157) rfl rfl fun a186 hS186 => st_val hS186 rfl rfl rfl (r_pickF hS186 rfl rfl rfl hb157) fun a187 hS187 => hk _ _ ?_
      exact ⟨g109, hS187.re ⟨rfl, rfl, rfl, rfl, (by rw [← e183]; rfl), trivial⟩, h16, h3, h8, hF⟩
  rintro a188 w170 ⟨g170, hS188, h16, h3, h8, hF⟩
  refine st_val hS188 rfl rfl rfl (r_move hS188 rfl rfl) fun a189 hS189 => ?_
  refine g_join (N := 89) 3 [(1, .pointer (some ⟨b15, 0, none⟩)), (9, .int .i64 r63.2), (11, .int .i64 r73.2), (68, .bool (t168 && (r63.1 == 2)))] ?_ (fun hk => ?_)
  rotate_left
  · rcases Bool.eq_false_or_eq_true (t168) with hb190 | hb190
    · refine st_valW hS189 (want_on hS189 rfl rfl rfl hb190) rfl rfl (r_move hS189 rfl rfl) fun a193 hS193 => st_valW hS193 (want_on hS193 rfl rfl rfl hb190) rfl rfl (r_bin hS193 rfl rfl rfl b_eql) fun a194 hS194 => st_val hS194 rfl rfl rfl (r_pickT hS194 rfl rfl rfl hb190) fun a195 hS195 => hk _ (hS195.re ⟨rfl, rfl, rfl, (by rw [hb190]; rfl), trivial⟩)
    · refine st_off hS189 (want_off hS189 rfl rfl rfl hb190) rfl rfl fun a196 hS196 => st_off hS196 (want_off hS196 rfl rfl rfl hb190) rfl rfl fun a197 hS197 => st_val hS197 rfl rfl rfl (r_pickF hS197 rfl rfl rfl hb190) fun a198 hS198 => hk _ (hS198.re ⟨rfl, rfl, rfl, (by rw [hb190]; rfl), trivial⟩)
  intro a199 hS199
  refine st_val hS199 rfl rfl rfl (r_move hS199 rfl rfl) fun a200 hS200 => ?_
  refine g_join (N := 89) 3 [(1, .pointer (some ⟨b15, 0, none⟩)), (11, .int .i64 r73.2), (72, .bool ((t168 && (r63.1 == 2)) && (r63.2 == 0)))] ?_ (fun hk => ?_)
  rotate_left
  · rcases Bool.eq_false_or_eq_true ((t168 && (r63.1 == 2))) with hb201 | hb201
    · refine st_valW hS200 (want_on hS200 rfl rfl rfl hb201) rfl rfl (r_move hS200 rfl rfl) fun a204 hS204 => st_valW hS204 (want_on hS204 rfl rfl rfl hb201) rfl rfl (r_bin hS204 rfl rfl rfl b_eql) fun a205 hS205 => st_val hS205 rfl rfl rfl (r_pickT hS205 rfl rfl rfl hb201) fun a206 hS206 => hk _ (hS206.re ⟨rfl, rfl, (by rw [hb201]; rfl), trivial⟩)
    · refine st_off hS200 (want_off hS200 rfl rfl rfl hb201) rfl rfl fun a207 hS207 => st_off hS207 (want_off hS207 rfl rfl rfl hb201) rfl rfl fun a208 hS208 => st_val hS208 rfl rfl rfl (r_pickF hS208 rfl rfl rfl hb201) fun a209 hS209 => hk _ (hS209.re ⟨rfl, rfl, (by rw [hb201]; rfl), trivial⟩)
  intro a210 hS210
  refine st_val hS210 rfl rfl rfl (r_move hS210 rfl rfl) fun a211 hS211 => ?_
  refine g_join (N := 89) 3 [(1, .pointer (some ⟨b15, 0, none⟩)), (76, .bool (((t168 && (r63.1 == 2)) && (r63.2 == 0)) && (r73.2 == 13)))] ?_ (fun hk => ?_)
  rotate_left
  · rcases Bool.eq_false_or_eq_true (((t168 && (r63.1 == 2)) && (r63.2 == 0))) with hb212 | hb212
    · refine st_valW hS211 (want_on hS211 rfl rfl rfl hb212) rfl rfl (r_move hS211 rfl rfl) fun a215 hS215 => st_valW hS215 (want_on hS215 rfl rfl rfl hb212) rfl rfl (r_bin hS215 rfl rfl rfl b_eql) fun a216 hS216 => st_val hS216 rfl rfl rfl (r_pickT hS216 rfl rfl rfl hb212) fun a217 hS217 => hk _ (hS217.re ⟨rfl, (by rw [hb212]; rfl), trivial⟩)
    · refine st_off hS211 (want_off hS211 rfl rfl rfl hb212) rfl rfl fun a218 hS218 => st_off hS218 (want_off hS218 rfl rfl rfl hb212) rfl rfl fun a219 hS219 => st_val hS219 rfl rfl rfl (r_pickF hS219 rfl rfl rfl hb212) fun a220 hS220 => hk _ (hS220.re ⟨rfl, (by rw [hb212]; rfl), trivial⟩)
  intro a221 hS221
  refine st_val hS221 rfl rfl rfl (r_move hS221 rfl rfl) fun a222 hS222 => ?_
  refine g_joinR 5 (fun a w237 => ∃ (g237 : Nat → Nat), Sl 89 a [(1, .pointer (some ⟨b15, 0, none⟩)), (82, .bool t235)] ∧ Bx w237 g237 (N + 4) b15 33 [.int .i64 (-1), .slice A2 [0, 2].length 2, .slice none 0 0, .slice none 0 0, .slice A7 [2].length 1, .int .i64 0, .int .i64 3, .int .i64 3, .int .i64 4, .int .i64 4, .int .i64 4, .int .i64 2, .int .i64 3] ∧ OwS (kint .i64) 3 w237 g237 (N + 0) A2 2 [0, 2] ∧ OwS (kint .i64) 3 w237 g237 (N + 2) A7 1 [2] ∧ Fr (fun q => N ≤ q) w g w237 g237) ?_ (fun hk => ?_)
  rotate_left
  · rcases Bool.eq_false_or_eq_true ((((t168 && (r63.1 == 2)) && (r63.2 == 0)) && (r73.2 == 13))) with hb223 | hb223
    · have H := ite_t hb223 ht236
      obtain ⟨r244, hr245, H⟩ := bind_el H
      have e249 := Option.some.inj H
      refine st_valW hS222 (want_on hS222 rfl rfl rfl hb223) rfl rfl (r_loadN (n := 13) (cs := [.int .i64 (-1), .slice A2 [0, 2].length 2, .slice none 0 0, .slice none 0 0, .slice A7 [2].length 1, .int .i64 0, .int .i64 3, .int .i64 3, .int .i64 4, .int .i64 4, .int .i64 4, .int .i64 2, .int .i64 3]) hS222 rfl rfl (by kernel_rfl) rfl (Bx.cells_off h16 0 13)) fun a238 hS238 => ?_
      refine st_effW hS238 (want_on hS238 rfl rfl rfl hb223) rfl rfl (e_litD (D := (fun q => q = N + 0 ∨ q = N + 2)) (e := 33) (parts := [(0, .agg #[.int .i64 (-1), .slice A2 [0, 2].length 2, .slice none 0 0, .slice none 0 0, .slice A7 [2].length 1, .int .i64 0, .int .i64 3, .int .i64 3, .int .i64 4, .int .i64 4, .int .i64 4, .int .i64 2, .int .i64 3])]) (cs := [.int .i64 (-1), .slice A2 [0, 2].length 2, .slice none 0 0, .slice none 0 0, .slice A7 [2].length 1, .int .i64 0, .int .i64 3, .int .i64 3, .int .i64 4, .int .i64 4, .int .i64 4, .int .i64 2, .int .i64 3]) kd_api_PowerDevice [(api_PowerDevice.mk (-1) (Ar4.mk [0, 2] ([] : List Int) ([] : List Int) [2]) (Ar6.mk 0 3 3 4 4 4) 2 3)] (N + 18) g170 hS238 rfl rfl (fun _ => by kernel_rfl) rfl (by decide) (Rows.cons (cs := [.int .i64 (-1), .slice A2 [0, 2].length 2, .slice none 0 0, .slice none 0 0, .slice A7 [2].length 1, .int .i64 0, .int .i64 3, .int .i64 3, .int .i64 4, .int .i64 4, .int .i64 4, .int .i64 2, .int .i64 3]) ⟨A2, 2, none, 0, none, 0, A7, 1, rfl, (RdS.weak (OwD.rdf (fun _ _ _ _ _ _ h => h) h3) (fun _ h => (Or.inl h))), RdS.nil (kint .i64) w170 g170 (fun q => q = N + 0 ∨ q = N + 2), RdS.nil (kint .i64) w170 g170 (fun q => q = N + 0 ∨ q = N + 2), (RdS.weak (OwD.rdf (fun _ _ _ _ _ _ h => h) h8) (fun _ h => (Or.inr h)))⟩ Rows.nil)) ?_
      rintro _ a242 w243 g243 ⟨⟨A239, rfl, h240⟩, F243⟩ hS242
      replace h16 := h16.fr F243 (fun h => h)
      replace h3 := OwS.fr h3 F243 (fun _ _ h => h)
      replace h8 := OwS.fr h8 F243 (fun _ _ h => h)
      replace hF := hF.trans F243 (fun _ h => h.elim)
      refine st_enterW hS242 (want_on hS242 rfl rfl rfl hb223) rfl rfl (r_call hS242 rfl rfl (by kernel_rfl)) (device_Check.calls (C0 := (fun q => q = N + 18 ∨ q = N + 0 ∨ q = N + 2)) (p0 := [(api_PowerDevice.mk (-1) (Ar4.mk [0, 2] ([] : List Int) ([] : List Int) [2]) (Ar6.mk 0 3 3 4 4 4) 2 3)]) (p1 := 3) (g := g243) (N + 22)  (OwD.rd h240) (fun q (hq : q = N + 18 ∨ q = N + 0 ∨ q = N + 2) => by rcases hq with hq | hq | hq; all_goals first | (omega; done) | (omega; done) | (omega; done)) hr245) ?_
      rintro _ a246 w247 ⟨g247, rfl, F247⟩ hS246
      replace h16 := h16.fr F247 (fun (hm : N + 22 ≤ N + 4) => by omega)
      replace h240 := OwD.fr h240 F247 (fun (hm : N + 22 ≤ N + 18) => by omega) (fun q (hq : q = N + 0 ∨ q = N + 2) (hm : N + 22 ≤ q) => by rcases hq with hq | hq; all_goals first | (omega; done) | (omega; done))
      replace h3 := OwS.fr h3 F247 (fun c' hc (hm : N + 22 ≤ c') => by omega)
      replace h8 := OwS.fr h8 F247 (fun c' hc (hm : N + 22 ≤ c') => by omega)
      replace hF := hF.trans F247 (fun c' (hm : N + 22 ≤ c') => by show N ≤ c'; omega)
      refine st_valW hS246 (want_on hS246 rfl rfl rfl hb223) rfl rfl (r_bin hS246 rfl rfl rfl b_eql) fun a248 hS248 => ?_
      refine st_val hS248 rfl rfl rfl (r_pickT hS248 rfl rfl rfl hb223) fun a250 hS250 => hk _ _ ?_
      exact ⟨g247, hS250.re ⟨rfl, (by rw [← e249]; rfl), trivial⟩, h16, h3, h8, hF⟩
    · have H := ite_f hb223 ht236
      have e251 := Option.some.inj H
      refine st_off hS222 (want_off hS222 rfl rfl rfl hb223) rfl rfl fun a252 hS252 => st_off hS252 (want_off hS252 rfl rfl rfl hb223) rfl rfl fun a253 hS253 => st_off hS253 (want_off hS253 rfl rfl rfl hb223) rfl rfl fun a254 hS254 => st_off hS254 (want_off hS254 rfl rfl rfl hb223) rfl rfl fun a255 hS255 => st_val hS255 rfl rfl rfl (r_pickF hS255 rfl rfl rfl hb223) fun a256 hS256 => hk _ _ ?_
      exact ⟨g170, hS256.re ⟨rfl, (by rw [← e251]; rfl), trivial⟩, h16, h3, h8, hF⟩
  rintro a257 w237 ⟨g237, hS257, h16, h3, h8, hF⟩
  refine st_val hS257 rfl rfl rfl (r_move hS257 rfl rfl) fun a258 hS258 => ?_
  refine g_joinR 5 (fun a w273 => ∃ (g273 : Nat → Nat), Sl 89 a [(88, .bool t271)] ∧ Fr (fun q => N ≤ q) w g w273 g273) ?_ (fun hk => ?_)
  rotate_left
  · rcases Bool.eq_false_or_eq_true (t235) with hb259 | hb259
    · have H := ite_t hb259 ht272
      obtain ⟨r280, hr281, H⟩ := bind_el H
      have e285 := Option.some.inj H
      refine st_valW hS258 (want_on hS258 rfl rfl rfl hb259) rfl rfl (r_loadN (n := 13) (cs := [.int .i64 (-1), .slice A2 [0, 2].length 2, .slice none 0 0, .slice none 0 0, .slice A7 [2].length 1, .int .i64 0, .int .i64 3, .int .i64 3, .int .i64 4, .int .i64 4, .int .i64 4, .int .i64 2, .int .i64 3]) hS258 rfl rfl (by kernel_rfl) rfl (Bx.cells_off h16 0 13)) fun a274 hS274 => ?_
      refine st_effW hS274 (want_on hS274 rfl rfl rfl hb259) rfl rfl (e_litD (D := (fun q => q = N + 0 ∨ q = N + 2)) (e := 33) (parts := [(0, .agg #[.int .i64 (-1), .slice A2 [0, 2].length 2, .slice none 0 0, .slice none 0 0, .slice A7 [2].length 1, .int .i64 0, .int .i64 3, .int .i64 3, .int .i64 4, .int .i64 4, .int .i64 4, .int .i64 2, .int .i64 3])]) (cs := [.int .i64 (-1), .slice A2 [0, 2].length 2, .slice none 0 0, .slice none 0 0, .slice A7 [2].length 1, .int .i64 0, .int .i64 3, .int .i64 3, .int .i64 4, .int .i64 4, .int .i64 4, .int .i64 2, .int .i64 3]) kd_api_PowerDevice [(api_PowerDevice.mk (-1) (Ar4.mk [0, 2] ([] : List Int) ([] : List Int) [2]) (Ar6.mk 0 3 3 4 4 4) 2 3)] (N + 20) g237 hS274 rfl rfl (fun _ => by kernel_rfl) rfl (by decide) (Rows.cons (cs := [.int .i64 (-1), .slice A2 [0, 2].length 2, .slice none 0 0, .slice none 0 0, .slice A7 [2].length 1, .int .i64 0, .int .i64 3, .int .i64 3, .int .i64 4, .int .i64 4, .int .i64 4, .int .i64 2, .int .i64 3]) ⟨A2, 2, none, 0, none, 0, A7, 1, rfl, (RdS.weak (OwD.rdf (fun _ _ _ _ _ _ h => h) h3) (fun _ h => (Or.inl h))), RdS.nil (kint .i64) w237 g237 (fun q => q = N + 0 ∨ q = N + 2), RdS.nil (kint .i64) w237 g237 (fun q => q = N + 0 ∨ q = N + 2), (RdS.weak (OwD.rdf (fun _ _ _ _ _ _ h => h) h8) (fun _ h => (Or.inr h)))⟩ Rows.nil)) ?_
      rintro _ a278 w279 g279 ⟨⟨A275, rfl, h276⟩, F279⟩ hS278
      replace h16 := h16.fr F279 (fun h => h)
      replace h3 := OwS.fr h3 F279 (fun _ _ h => h)
      replace h8 := OwS.fr h8 F279 (fun _ _ h => h)
      replace hF := hF.trans F279 (fun _ h => h.elim)
      refine st_enterW hS278 (want_on hS278 rfl rfl rfl hb259) rfl rfl (r_call hS278 rfl rfl (by kernel_rfl)) (device_Check.calls (C0 := (fun q => q = N + 20 ∨ q = N + 0 ∨ q = N + 2)) (p0 := [(api_PowerDevice.mk (-1) (Ar4.mk [0, 2] ([] : List Int) ([] : List Int) [2]) (Ar6.mk 0 3 3 4 4 4) 2 3)]) (p1 := 2) (g := g279) (N + 22)  (OwD.rd h276) (fun q (hq : q = N + 20 ∨ q = N + 0 ∨ q = N + 2) => by rcases hq with hq | hq | hq; all_goals first | (omega; done) | (omega; done) | (omega; done)) hr281) ?_
      rintro _ a282 w283 ⟨g283, rfl, F283⟩ hS282
      replace h16 := h16.fr F283 (fun (hm : N + 22 ≤ N + 4) => by omega)
      replace h276 := OwD.fr h276 F283 (fun (hm : N + 22 ≤ N + 20) => by omega) (fun q (hq : q = N + 0 ∨ q = N + 2) (hm : N + 22 ≤ q) => by rcases hq with hq | hq; all_goals first | (omega; done) | (omega; done))
      replace h3 := OwS.fr h3 F283 (fun c' hc (hm : N + 22 ≤ c') => by omega)
      replace h8 := OwS.fr h8 F283 (fun c' hc (hm : N + 22 ≤ c') => by omega)
      replace hF := hF.trans F283 (fun c' (hm : N + 22 ≤ c') => by show N ≤ c'; omega)
      refine st_valW hS282 (want_on hS282 rfl rfl rfl hb259) rfl rfl (r_bin hS282 rfl rfl rfl b_eql) fun a284 hS284 => ?_
      refine st_val hS284 rfl rfl rfl (r_pickT hS284 rfl rfl rfl hb259) fun a286 hS286 => hk _ _ ?_
      exact ⟨g283, hS286.re ⟨(by rw [← e285]; rfl), trivial⟩, hF⟩
    · have H := ite_f hb259 ht272
      have e287 := Option.some.inj H
      refine st_off hS258 (want_off hS258 rfl rfl rfl hb259) rfl rfl fun a288 hS288 => st_off hS288 (want_off hS288 rfl rfl rfl hb259) rfl rfl fun a289 hS289 => st_off hS289 (want_off hS289 rfl rfl rfl hb259) rfl rfl fun a290 hS290 => st_off hS290 (want_off hS290 rfl rfl rfl hb259) rfl rfl fun a291 hS291 => st_val hS291 rfl rfl rfl (r_pickF hS291 rfl rfl rfl hb259) fun a292 hS292 => hk _ _ ?_
      exact ⟨g237, hS292.re ⟨(by rw [← e287]; rfl), trivial⟩, hF⟩
  rintro a293 w273 ⟨g273, hS293, hF⟩
  refine st_val hS293 rfl rfl rfl (r_assign hS293 rfl rfl) fun a294 hS294 => wpList_nil (hK _ _ ?_)
  replace hS : Sl 89 _ [(0, .bool t271)] := hS294.re ⟨rfl, trivial⟩
  clear hK K
  try clear hS82 hS83 hS84 hS94 hS95 hS127 hS128 hS141 hS142 hS155 hS156 hS188 hS189 hS199 hS200 hS210 hS211 hS221 hS222 hS257 hS258 hS293 hS294
  obtain ⟨a, ha⟩ : ∃ a', a' = a294 := ⟨_, rfl⟩
  rw [← ha] at hS ⊢; clear ha
  refine wp_ret ?_
  have e := Option.some.inj H
  subst e
  repeat (with_reducible first | refine then_ret ?_ | refine inBlock_ret ?_)
  exact c_ret1 hS Try.results14 rfl ⟨_, rfl, g273, rfl, hF⟩


end Go.Proofs.Ytfhhklkmbcnhnaa.Sim

namespace Go.Proofs.Ytfhhklkmbcnhnaa.Sim
open Go
set_option linter.unusedVariables false
set_option linter.unusedSimpArgs false

/-! ### law27_Call_at: function 27 -/
def law27_Call_at.f (p0 : law27_Call) (p1 : Int) (p2 : Int) : Option (Int × Int × Int) := if (p0.Raw || (p1 == 0)) = true then (some (p0.Device, p0.State, p0.Wait)) else ((help_Mod.f p0.Device p1).bind fun r33 => (help_Mod.f p0.State 5).bind fun r35 => some (r33, r35, wu (p2 + (Int.tmod p0.Wait 20))))
set_option maxRecDepth 100000 in
set_option maxHeartbeats 4000000 in
theorem law27_Call_at.calls {p0 : law27_Call} {p1 : Int} {p2 : Int} {w : World} {g : Nat → Nat} {out : Int × Int × Int} (N : Nat)  (H : law27_Call_at.f p0 p1 p2 = some out) :
    Calls Try.prog 27 #[.agg #[.int .i64 p0.Device, .int .i64 p0.State, .int .u64 p0.Wait, .bool p0.Raw], .int .i64 p1, .int .u64 p2] w (fun e w' => ∃ v, e = .returned v ∧ ∃ (g' : Nat → Nat), v = .tuple #[.int .i64 out.1, .int .i64 out.2.1, .int .u64 out.2.2] ∧ Fr (fun q => N ≤ q) w g w' g') := by
  unfold law27_Call_at.f at H
  refine calls_enter Try.func27 rfl Try.ntmps27 rfl (fun a hS => ?_)
  replace hS : Sl 33 a [(0, .agg #[.int .i64 p0.Device, .int .i64 p0.State, .int .u64 p0.Wait, .bool p0.Raw]), (1, .int .i64 p1), (2, .int .u64 p2)] := hS
  have hF : Fr (fun q => N ≤ q) w g w g := Fr.refl _ _ _
  refine c_region (fun K hK => ?_)
  refine st_eff hS rfl rfl rfl (e_box (cs := [.int .i64 p0.Device, .int .i64 p0.State, .int .u64 p0.Wait, .bool p0.Raw]) (N + 0) g hS rfl rfl rfl) ?_
  rintro _ a4 w5 g5 ⟨⟨b1, rfl, h2⟩, F5⟩ hS4
  replace hF := hF.trans F5 (fun _ h => h.elim)
  refine st_val hS4 rfl rfl rfl (r_assign hS4 rfl rfl) fun a6 hS6 => st_val hS6 rfl rfl rfl (r_assign hS6 rfl rfl) fun a7 hS7 => st_val hS7 rfl rfl rfl (r_assign hS7 rfl rfl) fun a8 hS8 => wpList_nil (hK _ _ ?_)
  replace hS : Sl 33 _ [(1, .int .i64 p1), (2, .int .u64 p2), (3, .pointer (some ⟨b1, 0, none⟩))] := hS8.re ⟨rfl, rfl, rfl, trivial⟩
  clear hK K
  try clear hS4 hS6 hS7 hS8
  obtain ⟨a, ha⟩ : ∃ a', a' = a8 := ⟨_, rfl⟩
  rw [← ha] at hS ⊢; clear ha
  refine wp_seq ?_
  refine c_region (fun K hK => ?_)
  refine st_val hS rfl rfl rfl (r_fieldB (off := 3) hS rfl rfl (by kernel_rfl)) fun a9 hS9 => st_val hS9 rfl rfl rfl (r_load1 (n := 1) hS9 rfl rfl (by kernel_rfl) (Bx.cell h2 rfl)) fun a10 hS10 => st_val hS10 rfl rfl rfl (r_move hS10 rfl rfl) fun a11 hS11 => ?_
  refine g_join (N := 33) 3 [(1, .int .i64 p1), (2, .int .u64 p2), (3, .pointer (some ⟨b1, 0, none⟩)), (14, .bool (p0.Raw || (p1 == 0)))] ?_ (fun hk => ?_)
  rotate_left
  · rcases Bool.eq_false_or_eq_true (p0.Raw) with hb12 | hb12
    · refine st_off hS11 (want_off hS11 rfl rfl rfl hb12) rfl rfl fun a15 hS15 => st_off hS15 (want_off hS15 rfl rfl rfl hb12) rfl rfl fun a16 hS16 => st_val hS16 rfl rfl rfl (r_pickT hS16 rfl rfl rfl hb12) fun a17 hS17 => hk _ (hS17.re ⟨rfl, rfl, rfl, (by rw [hb12]; rfl), trivial⟩)
    · refine st_valW hS11 (want_on hS11 rfl rfl rfl hb12) rfl rfl (r_move hS11 rfl rfl) fun a18 hS18 => st_valW hS18 (want_on hS18 rfl rfl rfl hb12) rfl rfl (r_bin hS18 rfl rfl rfl b_eql) fun a19 hS19 => st_val hS19 rfl rfl rfl (r_pickF hS19 rfl rfl rfl hb12) fun a20 hS20 => hk _ (hS20.re ⟨rfl, rfl, rfl, (by rw [hb12]; rfl), trivial⟩)
  intro a21 hS21
  refine wpList_nil (hK _ _ ?_)
  replace hS : Sl 33 _ [(1, .int .i64 p1), (2, .int .u64 p2), (3, .pointer (some ⟨b1, 0, none⟩)), (14, .bool (p0.Raw || (p1 == 0)))] := hS21.re ⟨rfl, rfl, rfl, rfl, trivial⟩
  clear hK K
  try clear hS9 hS10 hS11 hS21
  obtain ⟨a, ha⟩ : ∃ a', a' = a21 := ⟨_, rfl⟩
  rw [← ha] at hS ⊢; clear ha
  refine c_cond hS rfl (fun hb22 => ?_) (fun hb22 => ?_)
  · replace H := ite_t hb22 H
    refine c_draw (fun K hK => d_start (fun q => False) g5 [] 9 #[false, false, false, false, false, false, false, false, false] (by kernel_rfl) rfl rfl (fun w23 hw23 => ?_))
    have F23 : Fr (fun _ => False) w5 g5 w23 g5 := by rw [hw23]; exact Fr.drew _ _ _
    replace h2 := h2.fr F23 (fun h => h)
    replace hF := hF.trans F23 (fun _ h => h.elim)
    have hC : Fr (fun q => False) w23 g5 w23 g5 := Fr.refl _ _ _
    refine d_pure hS 0 #[true, false, false, false, false, false, false, false, false] rfl rfl rfl rfl (by kernel_rfl) (fun _ _ _ h => h) (fun _ => (r_fieldB (off := 0) hS rfl rfl (by kernel_rfl))) fun a24 hS24 => d_take hS24 1 #[true, true, false, false, false, false, false, false, false] rfl rfl rfl rfl (by kernel_rfl) (fun _ _ _ h => h) ⟨_, hC⟩ (fun w' g' Fz => (r_load1 (n := 1) hS24 rfl rfl (by kernel_rfl) (Bx.cell (h2.fr Fz (fun h => h)) rfl))) fun a25 hS25 => d_pure hS25 2 #[true, true, true, false, false, false, false, false, false] rfl rfl rfl rfl (by kernel_rfl) (fun _ _ _ h => h) (fun _ => (r_fieldB (off := 1) hS25 rfl rfl (by kernel_rfl))) fun a26 hS26 => d_take hS26 3 #[true, true, true, true, false, false, false, false, false] rfl rfl rfl rfl (by kernel_rfl) (fun _ _ _ h => h) ⟨_, hC⟩ (fun w' g' Fz => (r_load1 (n := 1) hS26 rfl rfl (by kernel_rfl) (Bx.cell (h2.fr Fz (fun h => h)) rfl))) fun a27 hS27 => d_pure hS27 4 #[true, true, true, true, true, false, false, false, false] rfl rfl rfl rfl (by kernel_rfl) (fun _ _ _ h => h) (fun _ => (r_fieldB (off := 2) hS27 rfl rfl (by kernel_rfl))) fun a28 hS28 => d_take hS28 5 #[true, true, true, true, true, true, false, false, false] rfl rfl rfl rfl (by kernel_rfl) (fun _ _ _ h => h) ⟨_, hC⟩ (fun w' g' Fz => (r_load1 (n := 1) hS28 rfl rfl (by kernel_rfl) (Bx.cell (h2.fr Fz (fun h => h)) rfl))) fun a29 hS29 => d_pure hS29 6 #[true, true, true, true, true, true, true, false, false] rfl rfl rfl rfl (by kernel_rfl) (fun _ _ _ h => h) (fun _ => (r_assign hS29 rfl rfl)) fun a30 hS30 => d_pure hS30 7 #[true, true, true, true, true, true, true, true, false] rfl rfl rfl rfl (by kernel_rfl) (fun _ _ _ h => h) (fun _ => (r_assign hS30 rfl rfl)) fun a31 hS31 => d_pure hS31 8 #[true, true, true, true, true, true, true, true, true] rfl rfl rfl rfl (by kernel_rfl) (fun _ _ _ h => h) (fun _ => (r_assign hS31 rfl rfl)) fun a32 hS32 => d_done (by kernel_rfl) (hK _ _ ?_)
    replace hS : Sl 33 _ [(6, .int .i64 p0.Device), (7, .int .i64 p0.State), (8, .int .u64 p0.Wait)] := hS32.re ⟨rfl, rfl, rfl, trivial⟩
    clear hK K hC
    try clear hS24 hS25 hS26 hS27 hS28 hS29 hS30 hS31 hS32
    obtain ⟨a, ha⟩ : ∃ a', a' = a32 := ⟨_, rfl⟩
    rw [← ha] at hS ⊢; clear ha
    refine wp_ret ?_
    have e := Option.some.inj H
    subst e
    repeat (with_reducible first | refine then_ret ?_ | refine inBlock_ret ?_)
    exact c_ret3 hS Try.results27 rfl rfl rfl ⟨_, rfl, g5, rfl, hF⟩
  · replace H := ite_f hb22 H
    refine wp_skip ?_
    change Code.wp _ _ _ _ _
    obtain ⟨r33, hr34, H⟩ := bind_el H
    obtain ⟨r35, hr36, H⟩ := bind_el H
    refine c_draw (fun K hK => d_start (fun q => N + 2 ≤ q) g5 [] 15 #[false, false, false, false, false, false, false, false, false, false, false, false, false, false, false] (by kernel_rfl) rfl rfl (fun w37 hw37 => ?_))
    have F37 : Fr (fun _ => False) w5 g5 w37 g5 := by rw [hw37]; exact Fr.drew _ _ _
    replace h2 := h2.fr F37 (fun h => h)
    replace hF := hF.trans F37 (fun _ h => h.elim)
    have hC : Fr (fun q => N + 2 ≤ q) w37 g5 w37 g5 := Fr.refl _ _ _
    refine d_pure hS 0 #[true, false, false, false, false, false, false, false, false, false, false, false, false, false, false] rfl rfl rfl rfl (by kernel_rfl) (fun _ _ _ h => h) (fun _ => (r_fieldB (off := 0) hS rfl rfl (by kernel_rfl))) fun a38 hS38 => d_take hS38 1 #[true, true, false, false, false, false, false, false, false, false, false, false, false, false, false] rfl rfl rfl rfl (by kernel_rfl) (fun _ _ _ h => h) ⟨_, hC⟩ (fun w' g' Fz => (r_load1 (n := 1) hS38 rfl rfl (by kernel_rfl) (Bx.cell (h2.fr Fz (fun (hm : N + 2 ≤ N + 0) => by omega)) rfl))) fun a39 hS39 => d_pure hS39 2 #[true, true, true, false, false, false, false, false, false, false, false, false, false, false, false] rfl rfl rfl rfl (by kernel_rfl) (fun _ _ _ h => h) (fun _ => (r_move hS39 rfl rfl)) fun a40 hS40 => d_pure hS40 4 #[true, true, true, false, true, false, false, false, false, false, false, false, false, false, false] rfl rfl rfl rfl (by kernel_rfl) (fun _ _ _ h => h) (fun _ => (r_fieldB (off := 1) hS40 rfl rfl (by kernel_rfl))) fun a41 hS41 => d_take hS41 5 #[true, true, true, false, true, true, false, false, false, false, false, false, false, false, false] rfl rfl rfl rfl (by kernel_rfl) (fun _ _ _ h => h) ⟨_, hC⟩ (fun w' g' Fz => (r_load1 (n := 1) hS41 rfl rfl (by kernel_rfl) (Bx.cell (h2.fr Fz (fun (hm : N + 2 ≤ N + 0) => by omega)) rfl))) fun a42 hS42 => d_pure hS42 7 #[true, true, true, false, true, true, false, true, false, false, false, false, false, false, false] rfl rfl rfl rfl (by kernel_rfl) (fun _ _ _ h => h) (fun _ => (r_move hS42 rfl rfl)) fun a43 hS43 => d_pure hS43 8 #[true, true, true, false, true, true, false, true, true, false, false, false, false, false, false] rfl rfl rfl rfl (by kernel_rfl) (fun _ _ _ h => h) (fun _ => (r_fieldB (off := 2) hS43 rfl rfl (by kernel_rfl))) fun a44 hS44 => d_take hS44 9 #[true, true, true, false, true, true, false, true, true, true, false, false, false, false, false] rfl rfl rfl rfl (by kernel_rfl) (fun _ _ _ h => h) ⟨_, hC⟩ (fun w' g' Fz => (r_load1 (n := 1) hS44 rfl rfl (by kernel_rfl) (Bx.cell (h2.fr Fz (fun (hm : N + 2 ≤ N + 0) => by omega)) rfl))) fun a45 hS45 => d_pure hS45 10 #[true, true, true, false, true, true, false, true, true, true, true, false, false, false, false] rfl rfl rfl rfl (by kernel_rfl) (fun _ _ _ h => h) (fun _ => (r_bin hS45 rfl rfl rfl (b_rem (by decide)))) fun a46 hS46 => d_pure hS46 11 #[true, true, true, false, true, true, false, true, true, true, true, true, false, false, false] rfl rfl rfl rfl (by kernel_rfl) (fun _ _ _ h => h) (fun _ => (r_bin hS46 rfl rfl rfl b_add)) fun a47 hS47 => ?_
    refine d_one 3 #[true, true, true, true, true, true, false, true, true, true, true, true, false, false, false] rfl (by kernel_rfl) (arm_call hS47 rfl rfl rfl (r_call hS47 rfl rfl (by kernel_rfl)) (help_Mod.calls (p0 := p0.Device) (p1 := p1) (g := g5) (N + 2)   hr34) (fun _ _ ⟨g', _, Fz⟩ _ => ⟨g', hC.trans Fz (fun c' (hm : N + 2 ≤ c') => by show N + 2 ≤ c'; omega)⟩) ?_)
    rintro _ a48 w49 ⟨g49, rfl, F49⟩ hS48
    have hC49 := hC.trans F49 (fun c' (hm : N + 2 ≤ c') => by show N + 2 ≤ c'; omega)
    replace h2 := h2.fr F49 (fun (hm : N + 2 ≤ N + 0) => by omega)
    replace hF := hF.trans F49 (fun c' (hm : N + 2 ≤ c') => by show N ≤ c'; omega)
    refine d_one 6 #[true, true, true, true, true, true, true, true, true, true, true, true, false, false, false] rfl (by kernel_rfl) (arm_call hS48 rfl rfl rfl (r_call hS48 rfl rfl (by kernel_rfl)) (help_Mod.calls (p0 := p0.State) (p1 := 5) (g := g49) (N + 2)   hr36) (fun _ _ ⟨g', _, Fz⟩ _ => ⟨g', hC49.trans Fz (fun c' (hm : N + 2 ≤ c') => by show N + 2 ≤ c'; omega)⟩) ?_)
    rintro _ a50 w51 ⟨g51, rfl, F51⟩ hS50
    have hC51 := hC49.trans F51 (fun c' (hm : N + 2 ≤ c') => by show N + 2 ≤ c'; omega)
    replace h2 := h2.fr F51 (fun (hm : N + 2 ≤ N + 0) => by omega)
    replace hF := hF.trans F51 (fun c' (hm : N + 2 ≤ c') => by show N ≤ c'; omega)
    refine d_pure hS50 12 #[true, true, true, true, true, true, true, true, true, true, true, true, true, false, false] rfl rfl rfl rfl (by kernel_rfl) (fun _ _ _ h => h) (fun _ => (r_assign hS50 rfl rfl)) fun a52 hS52 => d_pure hS52 13 #[true, true, true, true, true, true, true, true, true, true, true, true, true, true, false] rfl rfl rfl rfl (by kernel_rfl) (fun _ _ _ h => h) (fun _ => (r_assign hS52 rfl rfl)) fun a53 hS53 => d_pure hS53 14 #[true, true, true, true, true, true, true, true, true, true, true, true, true, true, true] rfl rfl rfl rfl (by kernel_rfl) (fun _ _ _ h => h) (fun _ => (r_assign hS53 rfl rfl)) fun a54 hS54 => d_done (by kernel_rfl) (hK _ _ ?_)
    replace hS : Sl 33 _ [(6, .int .i64 r33), (7, .int .i64 r35), (8, .int .u64 (wu (p2 + (Int.tmod p0.Wait 20))))] := hS54.re ⟨rfl, rfl, rfl, trivial⟩
    clear hK K hC
    try clear hS38 hS39 hS40 hS41 hS42 hS43 hS44 hS45 hS46 hS47 hS48 hS50 hS52 hS53 hS54
    obtain ⟨a, ha⟩ : ∃ a', a' = a54 := ⟨_, rfl⟩
    rw [← ha] at hS ⊢; clear ha
    refine wp_ret ?_
    have e := Option.some.inj H
    subst e
    repeat (with_reducible first | refine then_ret ?_ | refine inBlock_ret ?_)
    exact c_ret3 hS Try.results27 rfl rfl rfl ⟨_, rfl, g51, rfl, hF⟩


end Go.Proofs.Ytfhhklkmbcnhnaa.Sim

namespace Go.Proofs.Ytfhhklkmbcnhnaa.Sim
open Go
set_option linter.unusedVariables false
set_option linter.unusedSimpArgs false

/-! ### law27_large: function 13 -/
def law27_large.l1 (p0 : List api_PowerDevice) (m0_0 : Int) : Nat → Int → Option (Fl (Fl (Bool) (Unit)) (Unit))
  | 0, _ => none
  | k21 + 1, m1_0 => if decide (m1_0 < 4) = true then ((idx p0 m0_0).bind fun x28 => (idx (Ar4.l x28.Rails) m1_0).bind fun x50 => if decide (20 < (x50.length : Int)) = true then (some (.out (.out true))) else (law27_large.l1 p0 m0_0 k21 (wi (m1_0 + 1)))) else (some (.nxt ()))
def law27_large.l0 (p0 : List api_PowerDevice) : Nat → Int → Option (Fl (Bool) (Unit))
  | 0, _ => none
  | k11 + 1, m0_0 => if decide (m0_0 < (p0.length : Int)) = true then ((law27_large.l1 p0 m0_0 FUEL 0 : Option (Fl (Fl (Bool) (Unit)) (Unit))).bind fun o18 => o18.go fun _ => law27_large.l0 p0 k11 (wi (m0_0 + 1))) else (some (.nxt ()))
def law27_large.f (p0 : List api_PowerDevice) : Option (Bool) := if decide (20 < (p0.length : Int)) = true then (some true) else ((law27_large.l0 p0 FUEL 0 : Option (Fl (Bool) (Unit))).bind fun o8 => o8.go fun _ => some false)
set_option maxRecDepth 100000 in
set_option maxHeartbeats 4000000 in
theorem law27_large.calls {p0 : List api_PowerDevice} {A0 : Option Addr} {cap0 : Nat} {C0 : Nat → Prop} {w : World} {g : Nat → Nat} {out : Bool} (N : Nat) (hp0 : RdS kd_api_PowerDevice w g C0 A0 cap0 p0) (hC0 : ∀ c, C0 c → c < N) (H : law27_large.f p0 = some out) :
    Calls Try.prog 13 #[.slice A0 p0.length cap0] w (fun e w' => ∃ v, e = .returned v ∧ ∃ (g' : Nat → Nat), v = .bool out ∧ Fr (fun q => N ≤ q) w g w' g') := by
  unfold law27_large.f at H
  refine calls_enter Try.func13 rfl Try.ntmps13 rfl (fun a hS => ?_)
  replace hS : Sl 27 a [(0, .slice A0 p0.length cap0)] := hS
  have hF : Fr (fun q => N ≤ q) w g w g := Fr.refl _ _ _
  refine c_pure [(0, .slice A0 p0.length cap0)] (fun R hR => st_val hS rfl rfl rfl (r_assign hS rfl rfl) fun a1 hS1 => wpList_nil (hR _ (hS1.re ⟨rfl, trivial⟩))) ?_
  clear hS
  clear a
  intro a hS
  refine wp_seq ?_
  refine c_pure [(0, .slice A0 p0.length cap0), (7, .bool (decide (20 < (p0.length : Int))))] (fun R hR => st_val hS rfl rfl rfl (r_move hS rfl rfl) fun a2 hS2 => st_val hS2 rfl rfl rfl (r_len (e := 33) (sz := 13) (by_ := 168) hS2 rfl rfl (by kernel_rfl)) fun a3 hS3 => st_val hS3 rfl rfl rfl (r_bin hS3 rfl rfl rfl b_gtr) fun a4 hS4 => wpList_nil (hR _ (hS4.re ⟨rfl, rfl, trivial⟩))) ?_
  clear hS
  clear a
  intro a hS
  refine c_cond hS rfl (fun hb5 => ?_) (fun hb5 => ?_)
  · replace H := ite_t hb5 H
    refine c_pure [(2, .bool true)] (fun R hR => st_val hS rfl rfl rfl (r_assign hS rfl rfl) fun a6 hS6 => wpList_nil (hR _ (hS6.re ⟨rfl, trivial⟩))) ?_
    clear hS
    clear a
    intro a hS
    refine wp_ret ?_
    have e := Option.some.inj H
    subst e
    repeat (with_reducible first | refine then_ret ?_ | refine inBlock_ret ?_)
    exact c_ret1 hS Try.results13 rfl ⟨_, rfl, g, rfl, hF⟩
  · replace H := ite_f hb5 H
    refine wp_skip ?_
    change Code.wp _ _ _ _ _
    obtain ⟨o8, H, Hl9⟩ := bind_el H
    refine c_cut (fun a w' => o8 = .nxt () ∧ w = w' ∧ Sl 27 a []) ?_ ?_
    · refine c_pure [(0, .slice A0 p0.length cap0), (3, .int .i64 0)] (fun R hR => st_val hS rfl rfl rfl (r_assign hS rfl rfl) fun a10 hS10 => wpList_nil (hR _ (hS10.re ⟨rfl, rfl, trivial⟩))) ?_
      clear hS
      clear a
      intro a hS
      refine wp_block ?_
      refine wp_loop_ghost (fun kq => fun a w' => ∃ (m0_0 : Int), law27_large.l0 p0 kq m0_0 = some o8 ∧ w = w' ∧ Sl 27 a [(0, .slice A0 p0.length cap0), (3, .int .i64 m0_0)]) FUEL ?_ ?_
      · exact ⟨0, H, rfl, hS.re ⟨rfl, rfl, trivial⟩⟩
      · clear H
        clear hS
        rintro k11 a w' ⟨m0_0, hpre0, hw, hS⟩
        subst hw
        have H := hpre0
        clear hpre0
        cases k11 with
        | zero => exact absurd H (by simp [law27_large.l0])
        | succ k11 =>
          rw [law27_large.l0] at H
          refine wp_seq ?_
          refine c_pure [(0, .slice A0 p0.length cap0), (3, .int .i64 m0_0), (11, .bool (decide (m0_0 < (p0.length : Int))))] (fun R hR => st_val hS rfl rfl rfl (r_move hS rfl rfl) fun a12 hS12 => st_val hS12 rfl rfl rfl (r_move hS12 rfl rfl) fun a13 hS13 => st_val hS13 rfl rfl rfl (r_len (e := 33) (sz := 13) (by_ := 168) hS13 rfl rfl (by kernel_rfl)) fun a14 hS14 => st_val hS14 rfl rfl rfl (r_bin hS14 rfl rfl rfl b_lss) fun a15 hS15 => wpList_nil (hR _ (hS15.re ⟨rfl, rfl, rfl, trivial⟩))) ?_
          clear hS
          clear a
          intro a hS
          refine c_cond hS rfl (fun hb16 => ?_) (fun hb16 => ?_)
          · replace H := ite_t hb16 H
            refine wp_skip ?_
            change Code.wp _ _ _ _ _
            obtain ⟨o18, H, Hl19⟩ := bind_el H
            refine c_cut (fun a w' => o18 = .nxt () ∧ w = w' ∧ Sl 27 a [(0, .slice A0 p0.length cap0), (3, .int .i64 m0_0)]) ?_ ?_
            · refine wp_block ?_
              refine c_pure [(0, .slice A0 p0.length cap0), (3, .int .i64 m0_0), (4, .int .i64 0)] (fun R hR => st_val hS rfl rfl rfl (r_assign hS rfl rfl) fun a20 hS20 => wpList_nil (hR _ (hS20.re ⟨rfl, rfl, rfl, trivial⟩))) ?_
              clear hS
              clear a
              intro a hS
              refine wp_block ?_
              refine wp_loop_ghost (fun kq => fun a w' => ∃ (m1_0 : Int), law27_large.l1 p0 m0_0 kq m1_0 = some o18 ∧ w = w' ∧ Sl 27 a [(0, .slice A0 p0.length cap0), (3, .int .i64 m0_0), (4, .int .i64 m1_0)]) FUEL ?_ ?_
              · exact ⟨0, H, rfl, hS.re ⟨rfl, rfl, rfl, trivial⟩⟩
              · clear H
                clear hS
                rintro k21 a w' ⟨m1_0, hpre0, hw, hS⟩
                subst hw
                have H := hpre0
                clear hpre0
                cases k21 with
                | zero => exact absurd H (by simp [law27_large.l1])
                | succ k21 =>
                  rw [law27_large.l1] at H
                  refine wp_seq ?_
                  refine c_pure [(0, .slice A0 p0.length cap0), (3, .int .i64 m0_0), (4, .int .i64 m1_0), (15, .bool (decide (m1_0 < 4)))] (fun R hR => st_val hS rfl rfl rfl (r_move hS rfl rfl) fun a22 hS22 => st_val hS22 rfl rfl rfl (r_bin hS22 rfl rfl rfl b_lss) fun a23 hS23 => wpList_nil (hR _ (hS23.re ⟨rfl, rfl, rfl, rfl, trivial⟩))) ?_
                  clear hS
                  clear a
                  intro a hS
                  refine c_cond hS rfl (fun hb24 => ?_) (fun hb24 => ?_)
                  · replace H := ite_t hb24 H
                    refine wp_skip ?_
                    change Code.wp _ _ _ _ _
                    refine wp_seq ?_
                    refine wp_block ?_
                    obtain ⟨x28, hx29, H⟩ := bind_el H
                    obtain ⟨x50, hx51, H⟩ := bind_el H
                    refine c_region (fun K hK => ?_)
                    refine st_val hS rfl rfl rfl (r_move hS rfl rfl) fun a25 hS25 => st_val hS25 rfl rfl rfl (r_move hS25 rfl rfl) fun a26 hS26 => st_val hS26 rfl rfl rfl (r_move hS26 rfl rfl) fun a27 hS27 => ?_
                    obtain ⟨_, ⟨A31, cap32, A35, cap36, A39, cap40, A43, cap44, rfl, h33, h37, h41, h45⟩, hel30⟩ := El.of hp0 hx29 (by decide)
                    replace hel30 : El w g C0 A0 (m0_0.toNat * 13) [.int .i64 x28.Parent, .slice A31 x28.Rails.a0.length cap32, .slice A35 x28.Rails.a1.length cap36, .slice A39 x28.Rails.a2.length cap40, .slice A43 x28.Rails.a3.length cap44, .int .i64 x28.Deepest.a0, .int .i64 x28.Deepest.a1, .int .i64 x28.Deepest.a2, .int .i64 x28.Deepest.a3, .int .i64 x28.Deepest.a4, .int .i64 x28.Deepest.a5, .int .i64 x28.WakeDevice, .int .i64 x28.WakeSystem] := hel30
                    refine st_val hS27 rfl rfl rfl (r_index (e := 33) (sz := 13) (by_ := 168) hS27 rfl rfl rfl (by kernel_rfl) (RdS.some_ hp0 hx29) (idx_lo hx29) (idx_hi hx29)) fun a48 hS48 => st_val hS48 rfl rfl rfl (r_fieldE (off := 1) hS48 rfl rfl (by kernel_rfl)) fun a49 hS49 => ?_
                    obtain ⟨A53, cap54, he52, h55⟩ : ∃ (A53 : Option Addr) (cap54 : Nat), (([.int .i64 x28.Parent, .slice A31 x28.Rails.a0.length cap32, .slice A35 x28.Rails.a1.length cap36, .slice A39 x28.Rails.a2.length cap40, .slice A43 x28.Rails.a3.length cap44, .int .i64 x28.Deepest.a0, .int .i64 x28.Deepest.a1, .int .i64 x28.Deepest.a2, .int .i64 x28.Deepest.a3, .int .i64 x28.Deepest.a4, .int .i64 x28.Deepest.a5, .int .i64 x28.WakeDevice, .int .i64 x28.WakeSystem] : List Value).drop (1 + m1_0.toNat * 1)).take 1 = [.slice A53 x50.length cap54] ∧ RdS (kint .i64) w g C0 A53 cap54 x50 := by
                      rcases Ar4.cases hx51 with ⟨e, e2⟩ | ⟨e, e2⟩ | ⟨e, e2⟩ | ⟨e, e2⟩
                      · subst e2; exact ⟨A31, cap32, (by rw [e] <;> rfl), h33⟩
                      · subst e2; exact ⟨A35, cap36, (by rw [e] <;> rfl), h37⟩
                      · subst e2; exact ⟨A39, cap40, (by rw [e] <;> rfl), h41⟩
                      · subst e2; exact ⟨A43, cap44, (by rw [e] <;> rfl), h45⟩
                    refine st_val hS49 rfl rfl rfl (r_ixE (n := 4) (e := 29) (sz := 1) (bb := false) hS49 rfl rfl rfl (by kernel_rfl) (idx_lo hx51) (Ar4.lt hx51)) fun a58 hS58 => st_val hS58 rfl rfl rfl (r_load1 (n := 1) hS58 rfl rfl (by kernel_rfl) (El.at_ (j := 0) hel30 he52 rfl)) fun a59 hS59 => st_val hS59 rfl rfl rfl (r_len (e := 3) (sz := 1) (by_ := 8) hS59 rfl rfl (by kernel_rfl)) fun a60 hS60 => st_val hS60 rfl rfl rfl (r_bin hS60 rfl rfl rfl b_gtr) fun a61 hS61 => wpList_nil (hK _ _ ?_)
                    replace hS : Sl 27 _ [(0, .slice A0 p0.length cap0), (3, .int .i64 m0_0), (4, .int .i64 m1_0), (26, .bool (decide (20 < (x50.length : Int))))] := hS61.re ⟨rfl, rfl, rfl, rfl, trivial⟩
                    clear hK K
                    try clear hS25 hS26 hS27 hS48 hS49 hS58 hS59 hS60 hS61
                    obtain ⟨a, ha⟩ : ∃ a', a' = a61 := ⟨_, rfl⟩
                    rw [← ha] at hS ⊢; clear ha
                    refine c_cond hS rfl (fun hb62 => ?_) (fun hb62 => ?_)
                    · replace H := ite_t hb62 H
                      refine c_pure [(2, .bool true)] (fun R hR => st_val hS rfl rfl rfl (r_assign hS rfl rfl) fun a63 hS63 => wpList_nil (hR _ (hS63.re ⟨rfl, trivial⟩))) ?_
                      clear hS
                      clear a
                      intro a hS
                      refine wp_ret ?_
                      have e := Option.some.inj H
                      subst e
                      replace H := Fl.go_out Hl19
                      have e := Option.some.inj H
                      subst e
                      replace H := Fl.go_out Hl9
                      have e := Option.some.inj H
                      subst e
                      repeat (with_reducible first | refine then_ret ?_ | refine inBlock_ret ?_)
                      exact c_ret1 hS Try.results13 rfl ⟨_, rfl, g, rfl, hF⟩
                    · replace H := ite_f hb62 H
                      refine wp_skip ?_
                      change Code.wp _ _ _ _ _
                      refine c_pure1 [(0, .slice A0 p0.length cap0), (3, .int .i64 m0_0), (4, .int .i64 (wi (m1_0 + 1)))] (fun R hR => st_val hS rfl rfl rfl (r_move hS rfl rfl) fun a64 hS64 => st_val hS64 rfl rfl rfl (r_bin hS64 rfl rfl rfl b_add) fun a65 hS65 => st_val hS65 rfl rfl rfl (r_assign hS65 rfl rfl) fun a66 hS66 => wpList_nil (hR _ (hS66.re ⟨rfl, rfl, rfl, trivial⟩))) ?_
                      clear hS
                      clear a
                      intro a hS
                      refine ⟨k21, Nat.lt_succ_self _, ?_⟩
                      exact ⟨wi (m1_0 + 1), H, rfl, hS.re ⟨rfl, rfl, rfl, trivial⟩⟩
                  · replace H := ite_f hb24 H
                    refine wp_exit ?_
                    have e := Option.some.inj H
                    exact ⟨e.symm, rfl, hS.re ⟨rfl, rfl, trivial⟩⟩
            · clear H
              clear hS
              rintro a w' ⟨hpre0, hw, hS⟩
              subst hpre0
              subst hw
              have H := Fl.go_nxt Hl19
              clear Hl19
              refine c_pure1 [(0, .slice A0 p0.length cap0), (3, .int .i64 (wi (m0_0 + 1)))] (fun R hR => st_val hS rfl rfl rfl (r_move hS rfl rfl) fun a67 hS67 => st_val hS67 rfl rfl rfl (r_bin hS67 rfl rfl rfl b_add) fun a68 hS68 => st_val hS68 rfl rfl rfl (r_assign hS68 rfl rfl) fun a69 hS69 => wpList_nil (hR _ (hS69.re ⟨rfl, rfl, trivial⟩))) ?_
              clear hS
              clear a
              intro a hS
              refine ⟨k11, Nat.lt_succ_self _, ?_⟩
              exact ⟨wi (m0_0 + 1), H, rfl, hS.re ⟨rfl, rfl, trivial⟩⟩
          · replace H := ite_f hb16 H
            refine wp_exit ?_
            have e := Option.some.inj H
            exact ⟨e.symm, rfl, hS.re trivial⟩
    · clear H
      clear hS
      rintro a w' ⟨hpre0, hw, hS⟩
      subst hpre0
      subst hw
      have H := Fl.go_nxt Hl9
      clear Hl9
      refine c_pure [(2, .bool false)] (fun R hR => st_val hS rfl rfl rfl (r_assign hS rfl rfl) fun a70 hS70 => wpList_nil (hR _ (hS70.re ⟨rfl, trivial⟩))) ?_
      clear hS
      clear a
      intro a hS
      refine wp_ret ?_
      have e := Option.some.inj H
      subst e
      repeat (with_reducible first | refine then_ret ?_ | refine inBlock_ret ?_)
      exact c_ret1 hS Try.results13 rfl ⟨_, rfl, g, rfl, hF⟩


end Go.Proofs.Ytfhhklkmbcnhnaa.Sim

namespace Go.Proofs.Ytfhhklkmbcnhnaa.Sim
open Go
set_option linter.unusedVariables false
set_option linter.unusedSimpArgs false

/-! ### law27_ascending: function 38 -/
def law27_ascending.l1 (p0 : List Int) (p1 : Int) (m0_0 : List Int) (m0_1 : Int) : Nat → Int → Option ((List Int))
  | 0, _ => none
  | k43 + 1, m1_0 => if decide (m1_0 < (p0.length : Int)) = true then ((idx p0 m1_0).bind fun x51 => (help_Mod.f x51 p1).bind fun r56 => if (r56 == m0_1) = true then ((app m0_0 [m0_1]).bind fun y70 => some y70) else (law27_ascending.l1 p0 p1 m0_0 m0_1 k43 (wi (m1_0 + 1)))) else (some m0_0)
def law27_ascending.l0 (p0 : List Int) (p1 : Int) : Nat → (List Int) → Int → Option ((List Int))
  | 0, _, _ => none
  | k15 + 1, m0_0, m0_1 => if ((decide (m0_1 < p1)) && (decide ((m0_0.length : Int) < 3))) = true then ((law27_ascending.l1 p0 p1 m0_0 m0_1 FUEL 0 : Option ((List Int))).bind fun v38 => law27_ascending.l0 p0 p1 k15 v38 (wi (m0_1 + 1))) else (some m0_0)
def law27_ascending.f (p0 : List Int) (p1 : Int) : Option ((List Int)) := (law27_ascending.l0 p0 p1 FUEL [] 0 : Option ((List Int))).bind fun v7 => some v7
set_option maxRecDepth 100000 in
set_option maxHeartbeats 4000000 in
theorem law27_ascending.calls {p0 : List Int} {A0 : Option Addr} {cap0 : Nat} {C0 : Nat → Prop} {p1 : Int} {w : World} {g : Nat → Nat} {out : (List Int)} (N : Nat) (r0 : Nat) (hp0 : RdS (kint .i64) w g C0 A0 cap0 p0) (hC0 : ∀ c, C0 c → c < N) (hr0 : r0 + 2 ≤ N) (H : law27_ascending.f p0 p1 = some out) :
    Calls Try.prog 38 #[.slice A0 p0.length cap0, .int .i64 p1] w (fun e w' => ∃ v, e = .returned v ∧ ∃ (g' : Nat → Nat) (A_r0 : Option Addr) (cap_r0 : Nat), v = .slice A_r0 out.length cap_r0 ∧ OwS (kint .i64) 3 w' g' r0 A_r0 cap_r0 out ∧ Fr (fun q => (r0 ≤ q ∧ q < r0 + 2) ∨ N ≤ q) w g w' g') := by
  unfold law27_ascending.f at H
  refine calls_enter Try.func38 rfl Try.ntmps38 rfl (fun a hS => ?_)
  replace hS : Sl 37 a [(0, .slice A0 p0.length cap0), (1, .int .i64 p1)] := hS
  have hF : Fr (fun q => (r0 ≤ q ∧ q < r0 + 2) ∨ N ≤ q) w g w g := Fr.refl _ _ _
  refine c_pure [(0, .slice A0 p0.length cap0), (1, .int .i64 p1)] (fun R hR => st_val hS rfl rfl rfl (r_assign hS rfl rfl) fun a1 hS1 => wpList_nil (hR _ (hS1.re ⟨rfl, rfl, trivial⟩))) ?_
  clear hS
  clear a
  intro a hS
  refine c_pure [(0, .slice A0 p0.length cap0), (1, .int .i64 p1), (5, .slice none 0 0)] (fun R hR => st_val hS rfl rfl rfl (r_assign hS rfl rfl) fun a2 hS2 => wpList_nil (hR _ (hS2.re ⟨rfl, rfl, rfl, trivial⟩))) ?_
  clear hS
  clear a
  intro a hS
  obtain ⟨v7, H, Hl9⟩ := bind_el H
  refine c_cut (fun a w3 => ∃ (g3 : Nat → Nat), ∃ (A4 : Option Addr), ∃ (cap5 : Nat), Sl 37 a [(5, .slice A4 v7.length cap5)] ∧ OwS (kint .i64) 3 w3 g3 (N + 2) A4 cap5 v7 ∧ Fr (fun q => (r0 ≤ q ∧ q < r0 + 2) ∨ N ≤ q) w g w3 g3) ?_ ?_
  · refine c_pure [(0, .slice A0 p0.length cap0), (1, .int .i64 p1), (5, .slice none 0 0), (6, .int .i64 0)] (fun R hR => st_val hS rfl rfl rfl (r_assign hS rfl rfl) fun a10 hS10 => wpList_nil (hR _ (hS10.re ⟨rfl, rfl, rfl, rfl, trivial⟩))) ?_
    clear hS
    clear a
    intro a hS
    refine wp_block ?_
    refine wp_loop_ghost (fun kq => fun a w11 => ∃ (m0_0 : List Int), ∃ (m0_1 : Int), ∃ (g11 : Nat → Nat), ∃ (A12 : Option Addr), ∃ (cap13 : Nat), law27_ascending.l0 p0 p1 kq m0_0 m0_1 = some v7 ∧ Sl 37 a [(0, .slice A0 p0.length cap0), (1, .int .i64 p1), (5, .slice A12 m0_0.length cap13), (6, .int .i64 m0_1)] ∧ OwS (kint .i64) 3 w11 g11 (N + 2) A12 cap13 m0_0 ∧ RdS (kint .i64) w11 g11 C0 A0 cap0 p0 ∧ Fr (fun q => (r0 ≤ q ∧ q < r0 + 2) ∨ N ≤ q) w g w11 g11) FUEL ?_ ?_
    · exact ⟨[], 0, g, none, 0, H, hS.re ⟨rfl, rfl, rfl, rfl, trivial⟩, OwS.nil (kint .i64) 3 w g (N + 2), hp0, hF⟩
    · clear H
      clear hp0 hF
      clear hS
      rintro k15 a w11 ⟨m0_0, m0_1, g11, A12, cap13, hpre0, hS, h14, hp0, hF⟩
      have H := hpre0
      clear hpre0
      cases k15 with
      | zero => exact absurd H (by simp [law27_ascending.l0])
      | succ k15 =>
        rw [law27_ascending.l0] at H
        refine wp_seq ?_
        refine c_region (fun K hK => ?_)
        refine st_val hS rfl rfl rfl (r_move hS rfl rfl) fun a16 hS16 => st_val hS16 rfl rfl rfl (r_move hS16 rfl rfl) fun a17 hS17 => st_val hS17 rfl rfl rfl (r_bin hS17 rfl rfl rfl b_lss) fun a18 hS18 => st_val hS18 rfl rfl rfl (r_move hS18 rfl rfl) fun a19 hS19 => ?_
        refine g_join (N := 37) 4 [(0, .slice A0 p0.length cap0), (1, .int .i64 p1), (5, .slice A12 m0_0.length cap13), (6, .int .i64 m0_1), (15, .bool ((decide (m0_1 < p1)) && (decide ((m0_0.length : Int) < 3))))] ?_ (fun hk => ?_)
        rotate_left
        · rcases Bool.eq_false_or_eq_true (decide (m0_1 < p1)) with hb20 | hb20
          · refine st_valW hS19 (want_on hS19 rfl rfl rfl hb20) rfl rfl (r_move hS19 rfl rfl) fun a24 hS24 => st_valW hS24 (want_on hS24 rfl rfl rfl hb20) rfl rfl (r_len (e := 3) (sz := 1) (by_ := 8) hS24 rfl rfl (by kernel_rfl)) fun a25 hS25 => st_valW hS25 (want_on hS25 rfl rfl rfl hb20) rfl rfl (r_bin hS25 rfl rfl rfl b_lss) fun a26 hS26 => st_val hS26 rfl rfl rfl (r_pickT hS26 rfl rfl rfl hb20) fun a27 hS27 => hk _ (hS27.re ⟨rfl, rfl, rfl, rfl, (by rw [hb20]; rfl), trivial⟩)
          · refine st_off hS19 (want_off hS19 rfl rfl rfl hb20) rfl rfl fun a28 hS28 => st_off hS28 (want_off hS28 rfl rfl rfl hb20) rfl rfl fun a29 hS29 => st_off hS29 (want_off hS29 rfl rfl rfl hb20) rfl rfl fun a30 hS30 => st_val hS30 rfl rfl rfl (r_pickF hS30 rfl rfl rfl hb20) fun a31 hS31 => hk _ (hS31.re ⟨rfl, rfl, rfl, rfl, (by rw [hb20]; rfl), trivial⟩)
        intro a32 hS32
        refine wpList_nil (hK _ _ ?_)
        replace hS : Sl 37 _ [(0, .slice A0 p0.length cap0), (1, .int .i64 p1), (5, .slice A12 m0_0.length cap13), (6, .int .i64 m0_1), (15, .bool ((decide (m0_1 < p1)) && (decide ((m0_0.length : Int) < 3))))] := hS32.re ⟨rfl, rfl, rfl, rfl, rfl, trivial⟩
        clear hK K
        try clear hS16 hS17 hS18 hS19 hS32
        obtain ⟨a, ha⟩ : ∃ a', a' = a32 := ⟨_, rfl⟩
        rw [← ha] at hS ⊢; clear ha
        refine c_cond hS rfl (fun hb33 => ?_) (fun hb33 => ?_)
        · replace H := ite_t hb33 H
          refine wp_skip ?_
          change Code.wp _ _ _ _ _
          obtain ⟨v38, H, Hl40⟩ := bind_el H
          refine c_cut (fun a w34 => ∃ (g34 : Nat → Nat), ∃ (A35 : Option Addr), ∃ (cap36 : Nat), Sl 37 a [(0, .slice A0 p0.length cap0), (1, .int .i64 p1), (5, .slice A35 v38.length cap36), (6, .int .i64 m0_1)] ∧ OwS (kint .i64) 3 w34 g34 (N + 2) A35 cap36 v38 ∧ RdS (kint .i64) w34 g34 C0 A0 cap0 p0 ∧ Fr (fun q => (r0 ≤ q ∧ q < r0 + 2) ∨ N ≤ q) w g w34 g34) ?_ ?_
          · refine wp_block ?_
            refine c_pure [(0, .slice A0 p0.length cap0), (1, .int .i64 p1), (5, .slice A12 m0_0.length cap13), (6, .int .i64 m0_1), (7, .int .i64 0)] (fun R hR => st_val hS rfl rfl rfl (r_assign hS rfl rfl) fun a41 hS41 => wpList_nil (hR _ (hS41.re ⟨rfl, rfl, rfl, rfl, rfl, trivial⟩))) ?_
            clear hS
            clear a
            intro a hS
            refine wp_block ?_
            refine wp_loop_ghost (fun kq => fun a w42 => ∃ (m1_0 : Int), ∃ (g42 : Nat → Nat), law27_ascending.l1 p0 p1 m0_0 m0_1 kq m1_0 = some v38 ∧ Sl 37 a [(0, .slice A0 p0.length cap0), (1, .int .i64 p1), (5, .slice A12 m0_0.length cap13), (6, .int .i64 m0_1), (7, .int .i64 m1_0)] ∧ OwS (kint .i64) 3 w42 g42 (N + 2) A12 cap13 m0_0 ∧ RdS (kint .i64) w42 g42 C0 A0 cap0 p0 ∧ Fr (fun q => (r0 ≤ q ∧ q < r0 + 2) ∨ N ≤ q) w g w42 g42) FUEL ?_ ?_
            · exact ⟨0, g11, H, hS.re ⟨rfl, rfl, rfl, rfl, rfl, trivial⟩, h14, hp0, hF⟩
            · clear H
              clear hp0 h14 hF
              clear hS
              rintro k43 a w42 ⟨m1_0, g42, hpre0, hS, h14, hp0, hF⟩
              have H := hpre0
              clear hpre0
              cases k43 with
              | zero => exact absurd H (by simp [law27_ascending.l1])
              | succ k43 =>
                rw [law27_ascending.l1] at H
                refine wp_seq ?_
                refine c_pure [(0, .slice A0 p0.length cap0), (1, .int .i64 p1), (5, .slice A12 m0_0.length cap13), (6, .int .i64 m0_1), (7, .int .i64 m1_0), (21, .bool (decide (m1_0 < (p0.length : Int))))] (fun R hR => st_val hS rfl rfl rfl (r_move hS rfl rfl) fun a44 hS44 => st_val hS44 rfl rfl rfl (r_move hS44 rfl rfl) fun a45 hS45 => st_val hS45 rfl rfl rfl (r_len (e := 3) (sz := 1) (by_ := 8) hS45 rfl rfl (by kernel_rfl)) fun a46 hS46 => st_val hS46 rfl rfl rfl (r_bin hS46 rfl rfl rfl b_lss) fun a47 hS47 => wpList_nil (hR _ (hS47.re ⟨rfl, rfl, rfl, rfl, rfl, rfl, trivial⟩))) ?_
                clear hS
                clear a
                intro a hS
                refine c_cond hS rfl (fun hb48 => ?_) (fun hb48 => ?_)
                · replace H := ite_t hb48 H
                  refine wp_skip ?_
                  change Code.wp _ _ _ _ _
                  refine wp_seq ?_
                  refine wp_block ?_
                  obtain ⟨x51, hx52, H⟩ := bind_el H
                  obtain ⟨r56, hr57, H⟩ := bind_el H
                  refine c_region (fun K hK => ?_)
                  refine st_val hS rfl rfl rfl (r_move hS rfl rfl) fun a49 hS49 => st_val hS49 rfl rfl rfl (r_move hS49 rfl rfl) fun a50 hS50 => st_val hS50 rfl rfl rfl (r_index (e := 3) (sz := 1) (by_ := 8) hS50 rfl rfl rfl (by kernel_rfl) (RdS.some_ hp0 hx52) (idx_lo hx52) (idx_hi hx52)) fun a53 hS53 => st_val hS53 rfl rfl rfl (r_load1 (n := 1) hS53 rfl rfl (by kernel_rfl) (RdS.cell (i := m1_0) (sz := 1) (j := 0) hp0 hx52 rfl)) fun a54 hS54 => st_val hS54 rfl rfl rfl (r_move hS54 rfl rfl) fun a55 hS55 => ?_
                  refine st_enter hS55 rfl rfl rfl (r_call hS55 rfl rfl (by kernel_rfl)) (help_Mod.calls (p0 := x51) (p1 := p1) (g := g42) (N + 4)   hr57) ?_
                  rintro _ a58 w59 ⟨g59, rfl, F59⟩ hS58
                  replace h14 := OwS.fr h14 F59 (fun c' hc (hm : N + 4 ≤ c') => by omega)
                  replace hp0 := RdS.fr hp0 F59 (by decide) (fun q (hq : C0 q) (hm : N + 4 ≤ q) => by have := hC0 q hq; omega)
                  replace hF := hF.trans F59 (fun c' (hm : N + 4 ≤ c') => by show (r0 ≤ c' ∧ c' < r0 + 2) ∨ N ≤ c'; omega)
                  refine st_val hS58 rfl rfl rfl (r_move hS58 rfl rfl) fun a60 hS60 => st_val hS60 rfl rfl rfl (r_bin hS60 rfl rfl rfl b_eql) fun a61 hS61 => wpList_nil (hK _ _ ?_)
                  replace hS : Sl 37 _ [(0, .slice A0 p0.length cap0), (1, .int .i64 p1), (5, .slice A12 m0_0.length cap13), (6, .int .i64 m0_1), (7, .int .i64 m1_0), (31, .bool (r56 == m0_1))] := hS61.re ⟨rfl, rfl, rfl, rfl, rfl, rfl, trivial⟩
                  clear hK K
                  try clear hS49 hS50 hS53 hS54 hS55 hS58 hS60 hS61
                  obtain ⟨a, ha⟩ : ∃ a', a' = a61 := ⟨_, rfl⟩
                  rw [← ha] at hS ⊢; clear ha
                  refine c_cond hS rfl (fun hb62 => ?_) (fun hb62 => ?_)
                  · replace H := ite_t hb62 H
                    obtain ⟨y70, hy71, H⟩ := bind_el H
                    refine c_region (fun K hK => ?_)
                    refine st_val hS rfl rfl rfl (r_move hS rfl rfl) fun a63 hS63 => st_val hS63 rfl rfl rfl (r_move hS63 rfl rfl) fun a64 hS64 => ?_
                    refine st_eff hS64 rfl rfl rfl (e_lit (e := 3) (parts := [(0, .int .i64 m0_1)]) (cs := [.int .i64 m0_1]) (kint .i64) [m0_1] (N + 0) g59 hS64 rfl rfl (fun _ => by kernel_rfl) rfl (by decide) (Rows.cons (cs := [.int .i64 m0_1]) rfl Rows.nil)) ?_
                    rintro _ a68 w69 g69 ⟨⟨A65, rfl, h66⟩, F69⟩ hS68
                    replace h14 := OwS.fr h14 F69 (fun _ _ h => h)
                    replace hp0 := RdS.fr hp0 F69 (by decide) (fun _ _ h => h)
                    replace hF := hF.trans F69 (fun _ h => h.elim)
                    refine st_eff hS68 rfl rfl rfl (e_append (e := 3) (sz := 1) (by_ := 8) (z := [.int .i64 0]) (kd := (kint .i64)) g69 hS68 rfl rfl rfl rfl (by kernel_rfl) (by kernel_rfl) rfl rfl rfl rfl h14 (OwD.rdx h66) (fun _ _ _ h => h) hy71) ?_
                    rintro _ a76 w77 g77 ⟨⟨A72, cap73, rfl, h74⟩, F77⟩ hS76
                    replace h66 := OwS.fr h66 F77 (fun c' hc (hm : c' = N + 2) => by omega)
                    replace hp0 := RdS.fr hp0 F77 (by decide) (fun q (hq : C0 q) (hm : q = N + 2) => by have := hC0 q hq; omega)
                    replace hF := hF.trans F77 (fun c' (hm : c' = N + 2) => by show (r0 ≤ c' ∧ c' < r0 + 2) ∨ N ≤ c'; omega)
                    refine st_val hS76 rfl rfl rfl (r_assign hS76 rfl rfl) fun a78 hS78 => wpList_nil (hK _ _ ?_)
                    replace hS : Sl 37 _ [(0, .slice A0 p0.length cap0), (1, .int .i64 p1), (5, .slice A72 y70.length cap73), (6, .int .i64 m0_1)] := hS78.re ⟨rfl, rfl, rfl, rfl, trivial⟩
                    clear hK K
                    try clear hS63 hS64 hS68 hS76 hS78
                    obtain ⟨a, ha⟩ : ∃ a', a' = a78 := ⟨_, rfl⟩
                    rw [← ha] at hS ⊢; clear ha
                    refine wp_exit ?_
                    have e := Option.some.inj H
                    subst e
                    exact ⟨g77, A72, cap73, hS.re ⟨rfl, rfl, rfl, rfl, trivial⟩, h74, hp0, hF⟩
                  · replace H := ite_f hb62 H
                    refine wp_skip ?_
                    change Code.wp _ _ _ _ _
                    refine c_pure1 [(0, .slice A0 p0.length cap0), (1, .int .i64 p1), (5, .slice A12 m0_0.length cap13), (6, .int .i64 m0_1), (7, .int .i64 (wi (m1_0 + 1)))] (fun R hR => st_val hS rfl rfl rfl (r_move hS rfl rfl) fun a79 hS79 => st_val hS79 rfl rfl rfl (r_bin hS79 rfl rfl rfl b_add) fun a80 hS80 => st_val hS80 rfl rfl rfl (r_assign hS80 rfl rfl) fun a81 hS81 => wpList_nil (hR _ (hS81.re ⟨rfl, rfl, rfl, rfl, rfl, trivial⟩))) ?_
                    clear hS
                    clear a
                    intro a hS
                    refine ⟨k43, Nat.lt_succ_self _, ?_⟩
                    exact ⟨wi (m1_0 + 1), g59, H, hS.re ⟨rfl, rfl, rfl, rfl, rfl, trivial⟩, h14, hp0, hF⟩
                · replace H := ite_f hb48 H
                  refine wp_exit ?_
                  have e := Option.some.inj H
                  subst e
                  exact ⟨g42, A12, cap13, hS.re ⟨rfl, rfl, rfl, rfl, trivial⟩, h14, hp0, hF⟩
          · clear H
            clear hp0 h14 hF
            clear hS
            rintro a w34 ⟨g34, A35, cap36, hS, h37, hp0, hF⟩
            have H := Hl40
            clear Hl40
            refine c_pure1 [(0, .slice A0 p0.length cap0), (1, .int .i64 p1), (5, .slice A35 v38.length cap36), (6, .int .i64 (wi (m0_1 + 1)))] (fun R hR => st_val hS rfl rfl rfl (r_move hS rfl rfl) fun a82 hS82 => st_val hS82 rfl rfl rfl (r_bin hS82 rfl rfl rfl b_add) fun a83 hS83 => st_val hS83 rfl rfl rfl (r_assign hS83 rfl rfl) fun a84 hS84 => wpList_nil (hR _ (hS84.re ⟨rfl, rfl, rfl, rfl, trivial⟩))) ?_
            clear hS
            clear a
            intro a hS
            refine ⟨k15, Nat.lt_succ_self _, ?_⟩
            exact ⟨v38, wi (m0_1 + 1), g34, A35, cap36, H, hS.re ⟨rfl, rfl, rfl, rfl, trivial⟩, h37, hp0, hF⟩
        · replace H := ite_f hb33 H
          refine wp_exit ?_
          have e := Option.some.inj H
          subst e
          exact ⟨g11, A12, cap13, hS.re ⟨rfl, trivial⟩, h14, hF⟩
  · clear H
    clear hp0 hF
    clear hS
    rintro a w3 ⟨g3, A4, cap5, hS, h6, hF⟩
    have H := Hl9
    clear Hl9
    refine c_pure [(4, .slice A4 v7.length cap5)] (fun R hR => st_val hS rfl rfl rfl (r_move hS rfl rfl) fun a85 hS85 => st_val hS85 rfl rfl rfl (r_assign hS85 rfl rfl) fun a86 hS86 => wpList_nil (hR _ (hS86.re ⟨rfl, trivial⟩))) ?_
    clear hS
    clear a
    intro a hS
    refine wp_ret ?_
    have e := Option.some.inj H
    subst e
    have F87 := Fr.recol2 w3 g3 (N + 2) r0
    replace h6 := h6.recol2 r0
    replace hF := hF.trans F87 (fun c' (hm : c' = N + 2 ∨ c' = N + 2 + 1) => by show (r0 ≤ c' ∧ c' < r0 + 2) ∨ N ≤ c'; omega)
    repeat (with_reducible first | refine then_ret ?_ | refine inBlock_ret ?_)
    exact c_ret1 hS Try.results38 rfl ⟨_, rfl, (recol2 g3 (N + 2) r0), A4, cap5, rfl, h6, hF⟩


end Go.Proofs.Ytfhhklkmbcnhnaa.Sim

namespace Go.Proofs.Ytfhhklkmbcnhnaa.Sim
open Go
set_option linter.unusedVariables false
set_option linter.unusedSimpArgs false

/-! ### law27_Some: function 16 -/
def law27_Some.l1 (p1 : Int) (x39 : api_PowerDevice) : Nat → api_PowerDevice → Int → Option (api_PowerDevice)
  | 0, _, _ => none
  | k277 + 1, m1_0, m1_1 => if ((decide (m1_1 < 4)) && (decide (0 < p1))) = true then ((idx (Ar4.l x39.Rails) m1_1).bind fun x316 => (law27_ascending.f x316 p1).bind fun r327 => (idx (Ar4.l m1_0.Rails) m1_1).bind fun x336 => (m1_0.Rails.put m1_1 r327).bind fun y345 => law27_Some.l1 p1 x39 k277 (api_PowerDevice.mk m1_0.Parent y345 m1_0.Deepest m1_0.WakeDevice m1_0.WakeSystem) (wi (m1_1 + 1))) else (some m1_0)
def law27_Some.l2 (x39 : api_PowerDevice) : Nat → api_PowerDevice → Int → Option (api_PowerDevice)
  | 0, _, _ => none
  | k376 + 1, m2_0, m2_1 => if decide (m2_1 < 6) = true then ((idx (Ar6.l m2_0.Deepest) (wi (m2_1 - 1))).bind fun x380 => (idx (Ar6.l x39.Deepest) m2_1).bind fun x402 => (help_Mod.f x402 5).bind fun r406 => (idx (Ar6.l m2_0.Deepest) m2_1).bind fun x408 => (m2_0.Deepest.put m2_1 (max x380 r406)).bind fun y412 => law27_Some.l2 x39 k376 (api_PowerDevice.mk m2_0.Parent m2_0.Rails y412 m2_0.WakeDevice m2_0.WakeSystem) (wi (m2_1 + 1))) else (some m2_0)
def law27_Some.l0 (p0 : List api_PowerDevice) (p1 : Int) : Nat → (List api_PowerDevice) → Int → Option ((List api_PowerDevice))
  | 0, _, _ => none
  | k15 + 1, m0_0, m0_1 => if ((decide (m0_1 < (p0.length : Int))) && (decide (m0_1 < 6))) = true then (((idx p0 m0_1).bind fun x39 => (help_Mod.f x39.Parent (wi (m0_1 + 1))).bind fun r59 => (help_Mod.f x39.WakeSystem 5).bind fun r61 => (help_Mod.f x39.WakeDevice 4).bind fun r63 => (law27_Some.l1 p1 x39 FUEL (api_PowerDevice.mk (wi (r59 - 1)) (Ar4.mk ([] : List Int) ([] : List Int) ([] : List Int) ([] : List Int)) (Ar6.mk 0 0 0 0 0 0) r63 r61) 0 : Option (api_PowerDevice)).bind fun v260 => (law27_Some.l2 x39 FUEL v260 1 : Option (api_PowerDevice)).bind fun v371 => (app m0_0 [v371]).bind fun y469 => some y469 : Option ((List api_PowerDevice))).bind fun v36 => law27_Some.l0 p0 p1 k15 v36 (wi (m0_1 + 1))) else (some m0_0)
def law27_Some.f (p0 : List api_PowerDevice) (p1 : Int) : Option ((List api_PowerDevice)) := (law27_Some.l0 p0 p1 FUEL [] 0 : Option ((List api_PowerDevice))).bind fun v7 => some v7
set_option maxRecDepth 100000 in
set_option maxHeartbeats 4000000 in
theorem law27_Some.calls {p0 : List api_PowerDevice} {A0 : Option Addr} {cap0 : Nat} {C0 : Nat → Prop} {p1 : Int} {w : World} {g : Nat → Nat} {out : (List api_PowerDevice)} (N : Nat) (r0 : Nat) (hp0 : RdS kd_api_PowerDevice w g C0 A0 cap0 p0) (hC0 : ∀ c, C0 c → c < N) (hr0 : r0 + 2 ≤ N) (H : law27_Some.f p0 p1 = some out) :
    Calls Try.prog 16 #[.slice A0 p0.length cap0, .int .i64 p1] w (fun e w' => ∃ v, e = .returned v ∧ ∃ (g' : Nat → Nat) (A_r0 : Option Addr) (cap_r0 : Nat), v = .slice A_r0 out.length cap_r0 ∧ OwS kd_api_PowerDevice 33 w' g' r0 A_r0 cap_r0 out ∧ Fr (fun q => (r0 ≤ q ∧ q < r0 + 2) ∨ N ≤ q) w g w' g') := by
  unfold law27_Some.f at H
  refine calls_enter Try.func16 rfl Try.ntmps16 rfl (fun a hS => ?_)
  replace hS : Sl 88 a [(0, .slice A0 p0.length cap0), (1, .int .i64 p1)] := hS
  have hF : Fr (fun q => (r0 ≤ q ∧ q < r0 + 2) ∨ N ≤ q) w g w g := Fr.refl _ _ _
  refine c_pure [(0, .slice A0 p0.length cap0), (1, .int .i64 p1)] (fun R hR => st_val hS rfl rfl rfl (r_assign hS rfl rfl) fun a1 hS1 => wpList_nil (hR _ (hS1.re ⟨rfl, rfl, trivial⟩))) ?_
  clear hS
  clear a
  intro a hS
  refine c_pure [(0, .slice A0 p0.length cap0), (1, .int .i64 p1), (5, .slice none 0 0)] (fun R hR => st_val hS rfl rfl rfl (r_assign hS rfl rfl) fun a2 hS2 => wpList_nil (hR _ (hS2.re ⟨rfl, rfl, rfl, trivial⟩))) ?_
  clear hS
  clear a
  intro a hS
  obtain ⟨v7, H, Hl9⟩ := bind_el H
  refine c_cut (fun a w3 => ∃ (g3 : Nat → Nat), ∃ (A4 : Option Addr), ∃ (cap5 : Nat), Sl 88 a [(5, .slice A4 v7.length cap5)] ∧ OwS kd_api_PowerDevice 33 w3 g3 (N + 4) A4 cap5 v7 ∧ Fr (fun q => (r0 ≤ q ∧ q < r0 + 2) ∨ N ≤ q) w g w3 g3) ?_ ?_
  · refine c_pure [(0, .slice A0 p0.length cap0), (1, .int .i64 p1), (5, .slice none 0 0), (6, .int .i64 0)] (fun R hR => st_val hS rfl rfl rfl (r_assign hS rfl rfl) fun a10 hS10 => wpList_nil (hR _ (hS10.re ⟨rfl, rfl, rfl, rfl, trivial⟩))) ?_
    clear hS
    clear a
    intro a hS
    refine wp_block ?_
    refine wp_loop_ghost (fun kq => fun a w11 => ∃ (m0_0 : List api_PowerDevice), ∃ (m0_1 : Int), ∃ (g11 : Nat → Nat), ∃ (A12 : Option Addr), ∃ (cap13 : Nat), law27_Some.l0 p0 p1 kq m0_0 m0_1 = some v7 ∧ Sl 88 a [(0, .slice A0 p0.length cap0), (1, .int .i64 p1), (5, .slice A12 m0_0.length cap13), (6, .int .i64 m0_1)] ∧ OwS kd_api_PowerDevice 33 w11 g11 (N + 4) A12 cap13 m0_0 ∧ RdS kd_api_PowerDevice w11 g11 C0 A0 cap0 p0 ∧ Fr (fun q => (r0 ≤ q ∧ q < r0 + 2) ∨ N ≤ q) w g w11 g11) FUEL ?_ ?_
    · exact ⟨[], 0, g, none, 0, H, hS.re ⟨rfl, rfl, rfl, rfl, trivial⟩, OwS.nil kd_api_PowerDevice 33 w g (N + 4), hp0, hF⟩
    · clear H
      clear hp0 hF
      clear hS
      rintro k15 a w11 ⟨m0_0, m0_1, g11, A12, cap13, hpre0, hS, h14, hp0, hF⟩
      have H := hpre0
      clear hpre0
      cases k15 with
      | zero => exact absurd H (by simp [law27_Some.l0])
      | succ k15 =>
        rw [law27_Some.l0] at H
        refine wp_seq ?_
        refine c_region (fun K hK => ?_)
        refine st_val hS rfl rfl rfl (r_move hS rfl rfl) fun a16 hS16 => st_val hS16 rfl rfl rfl (r_move hS16 rfl rfl) fun a17 hS17 => st_val hS17 rfl rfl rfl (r_len (e := 33) (sz := 13) (by_ := 168) hS17 rfl rfl (by kernel_rfl)) fun a18 hS18 => st_val hS18 rfl rfl rfl (r_bin hS18 rfl rfl rfl b_lss) fun a19 hS19 => st_val hS19 rfl rfl rfl (r_move hS19 rfl rfl) fun a20 hS20 => ?_
        refine g_join (N := 88) 3 [(0, .slice A0 p0.length cap0), (1, .int .i64 p1), (5, .slice A12 m0_0.length cap13), (6, .int .i64 m0_1), (17, .bool ((decide (m0_1 < (p0.length : Int))) && (decide (m0_1 < 6))))] ?_ (fun hk => ?_)
        rotate_left
        · rcases Bool.eq_false_or_eq_true (decide (m0_1 < (p0.length : Int))) with hb21 | hb21
          · refine st_valW hS20 (want_on hS20 rfl rfl rfl hb21) rfl rfl (r_move hS20 rfl rfl) fun a24 hS24 => st_valW hS24 (want_on hS24 rfl rfl rfl hb21) rfl rfl (r_bin hS24 rfl rfl rfl b_lss) fun a25 hS25 => st_val hS25 rfl rfl rfl (r_pickT hS25 rfl rfl rfl hb21) fun a26 hS26 => hk _ (hS26.re ⟨rfl, rfl, rfl, rfl, (by rw [hb21]; rfl), trivial⟩)
          · refine st_off hS20 (want_off hS20 rfl rfl rfl hb21) rfl rfl fun a27 hS27 => st_off hS27 (want_off hS27 rfl rfl rfl hb21) rfl rfl fun a28 hS28 => st_val hS28 rfl rfl rfl (r_pickF hS28 rfl rfl rfl hb21) fun a29 hS29 => hk _ (hS29.re ⟨rfl, rfl, rfl, rfl, (by rw [hb21]; rfl), trivial⟩)
        intro a30 hS30
        refine wpList_nil (hK _ _ ?_)
        replace hS : Sl 88 _ [(0, .slice A0 p0.length cap0), (1, .int .i64 p1), (5, .slice A12 m0_0.length cap13), (6, .int .i64 m0_1), (17, .bool ((decide (m0_1 < (p0.length : Int))) && (decide (m0_1 < 6))))] := hS30.re ⟨rfl, rfl, rfl, rfl, rfl, trivial⟩
        clear hK K
        try clear hS16 hS17 hS18 hS19 hS20 hS30
        obtain ⟨a, ha⟩ : ∃ a', a' = a30 := ⟨_, rfl⟩
        rw [← ha] at hS ⊢; clear ha
        refine c_cond hS rfl (fun hb31 => ?_) (fun hb31 => ?_)
        · replace H := ite_t hb31 H
          refine wp_skip ?_
          change Code.wp _ _ _ _ _
          obtain ⟨v36, H, Hl38⟩ := bind_el H
          refine c_cut (fun a w32 => ∃ (g32 : Nat → Nat), ∃ (A33 : Option Addr), ∃ (cap34 : Nat), Sl 88 a [(0, .slice A0 p0.length cap0), (1, .int .i64 p1), (5, .slice A33 v36.length cap34), (6, .int .i64 m0_1)] ∧ OwS kd_api_PowerDevice 33 w32 g32 (N + 4) A33 cap34 v36 ∧ RdS kd_api_PowerDevice w32 g32 C0 A0 cap0 p0 ∧ Fr (fun q => (r0 ≤ q ∧ q < r0 + 2) ∨ N ≤ q) w g w32 g32) ?_ ?_
          · refine wp_block ?_
            obtain ⟨x39, hx40, H⟩ := bind_el H
            obtain ⟨r59, hr60, H⟩ := bind_el H
            obtain ⟨r61, hr62, H⟩ := bind_el H
            obtain ⟨r63, hr64, H⟩ := bind_el H
            refine c_cut (fun a w156 => ∃ (g156 : Nat → Nat), ∃ (b157 : Nat), Sl 88 a [(0, .slice A0 p0.length cap0), (1, .int .i64 p1), (5, .slice A12 m0_0.length cap13), (6, .int .i64 m0_1), (7, .pointer (some ⟨b157, 0, none⟩))] ∧ OwS kd_api_PowerDevice 33 w156 g156 (N + 4) A12 cap13 m0_0 ∧ Bx w156 g156 (N + 0) b157 33 [.int .i64 (wi (r59 - 1)), .slice none 0 0, .slice none 0 0, .slice none 0 0, .slice none 0 0, .int .i64 0, .int .i64 0, .int .i64 0, .int .i64 0, .int .i64 0, .int .i64 0, .int .i64 r63, .int .i64 r61] ∧ RdS kd_api_PowerDevice w156 g156 C0 A0 cap0 p0 ∧ Fr (fun q => (r0 ≤ q ∧ q < r0 + 2) ∨ N ≤ q) w g w156 g156) (d_start (fun q => N + 8 ≤ q) g11 [23] 24 #[false, false, false, false, false, false, false, false, false, false, false, false, false, false, false, false, false, false, false, false, false, false, false, false] (by kernel_rfl) rfl rfl (fun w159 hw159 => ?_)) ?_
            · have F159 : Fr (fun _ => False) w11 g11 w159 g11 := by rw [hw159]; exact Fr.drew _ _ _
              replace h14 := OwS.fr h14 F159 (fun _ _ h => h)
              replace hp0 := RdS.fr hp0 F159 (by decide) (fun _ _ h => h)
              replace hF := hF.trans F159 (fun _ h => h.elim)
              have hC : Fr (fun q => N + 8 ≤ q) w159 g11 w159 g11 := Fr.refl _ _ _
              refine d_pure hS 0 #[true, false, false, false, false, false, false, false, false, false, false, false, false, false, false, false, false, false, false, false, false, false, false, false] rfl rfl rfl rfl (by kernel_rfl) (fun _ _ _ h => h) (fun _ => (r_move hS rfl rfl)) fun a160 hS160 => d_pure hS160 1 #[true, true, false, false, false, false, false, false, false, false, false, false, false, false, false, false, false, false, false, false, false, false, false, false] rfl rfl rfl rfl (by kernel_rfl) (fun _ _ _ h => h) (fun _ => (r_move hS160 rfl rfl)) fun a161 hS161 => ?_
              obtain ⟨_, ⟨A163, cap164, A167, cap168, A171, cap172, A175, cap176, rfl, h165, h169, h173, h177⟩, hel162⟩ := El.of hp0 hx40 (by decide)
              replace hel162 : El w159 g11 C0 A0 (m0_1.toNat * 13) [.int .i64 x39.Parent, .slice A163 x39.Rails.a0.length cap164, .slice A167 x39.Rails.a1.length cap168, .slice A171 x39.Rails.a2.length cap172, .slice A175 x39.Rails.a3.length cap176, .int .i64 x39.Deepest.a0, .int .i64 x39.Deepest.a1, .int .i64 x39.Deepest.a2, .int .i64 x39.Deepest.a3, .int .i64 x39.Deepest.a4, .int .i64 x39.Deepest.a5, .int .i64 x39.WakeDevice, .int .i64 x39.WakeSystem] := hel162
              refine d_pure hS161 2 #[true, true, true, false, false, false, false, false, false, false, false, false, false, false, false, false, false, false, false, false, false, false, false, false] rfl rfl rfl rfl (by kernel_rfl) (fun _ _ _ h => h) (fun _ => (r_index (e := 33) (sz := 13) (by_ := 168) hS161 rfl rfl rfl (by kernel_rfl) (RdS.some_ hp0 hx40) (idx_lo hx40) (idx_hi hx40))) fun a180 hS180 => d_pure hS180 3 #[true, true, true, true, false, false, false, false, false, false, false, false, false, false, false, false, false, false, false, false, false, false, false, false] rfl rfl rfl rfl (by kernel_rfl) (fun _ _ _ h => h) (fun _ => (r_fieldE (off := 0) hS180 rfl rfl (by kernel_rfl))) fun a181 hS181 => d_take hS181 4 #[true, true, true, true, true, false, false, false, false, false, false, false, false, false, false, false, false, false, false, false, false, false, false, false] rfl rfl rfl rfl (by kernel_rfl) (fun _ _ _ h => h) ⟨_, hC⟩ (fun w' g' Fz => (r_load1 (n := 1) hS181 rfl rfl (by kernel_rfl) (El.cell (j := 0) (hel162.fr Fz (fun q (hq : C0 q) (hm : N + 8 ≤ q) => by have := hC0 q hq; omega)) rfl))) fun a182 hS182 => d_pure hS182 5 #[true, true, true, true, true, true, false, false, false, false, false, false, false, false, false, false, false, false, false, false, false, false, false, false] rfl rfl rfl rfl (by kernel_rfl) (fun _ _ _ h => h) (fun _ => (r_move hS182 rfl rfl)) fun a183 hS183 => d_pure hS183 6 #[true, true, true, true, true, true, true, false, false, false, false, false, false, false, false, false, false, false, false, false, false, false, false, false] rfl rfl rfl rfl (by kernel_rfl) (fun _ _ _ h => h) (fun _ => (r_bin hS183 rfl rfl rfl b_add)) fun a184 hS184 => d_pure hS184 9 #[true, true, true, true, true, true, true, false, false, true, false, false, false, false, false, false, false, false, false, false, false, false, false, false] rfl rfl rfl rfl (by kernel_rfl) (fun _ _ _ h => h) (fun _ => (r_move hS184 rfl rfl)) fun a185 hS185 => d_pure hS185 10 #[true, true, true, true, true, true, true, false, false, true, true, false, false, false, false, false, false, false, false, false, false, false, false, false] rfl rfl rfl rfl (by kernel_rfl) (fun _ _ _ h => h) (fun _ => (r_move hS185 rfl rfl)) fun a186 hS186 => d_pure hS186 11 #[true, true, true, true, true, true, true, false, false, true, true, true, false, false, false, false, false, false, false, false, false, false, false, false] rfl rfl rfl rfl (by kernel_rfl) (fun _ _ _ h => h) (fun _ => (r_index (e := 33) (sz := 13) (by_ := 168) hS186 rfl rfl rfl (by kernel_rfl) (RdS.some_ hp0 hx40) (idx_lo hx40) (idx_hi hx40))) fun a187 hS187 => d_pure hS187 12 #[true, true, true, true, true, true, true, false, false, true, true, true, true, false, false, false, false, false, false, false, false, false, false, false] rfl rfl rfl rfl (by kernel_rfl) (fun _ _ _ h => h) (fun _ => (r_fieldE (off := 12) hS187 rfl rfl (by kernel_rfl))) fun a188 hS188 => d_take hS188 13 #[true, true, true, true, true, true, true, false, false, true, true, true, true, true, false, false, false, false, false, false, false, false, false, false] rfl rfl rfl rfl (by kernel_rfl) (fun _ _ _ h => h) ⟨_, hC⟩ (fun w' g' Fz => (r_load1 (n := 1) hS188 rfl rfl (by kernel_rfl) (El.cell (j := 12) (hel162.fr Fz (fun q (hq : C0 q) (hm : N + 8 ≤ q) => by have := hC0 q hq; omega)) rfl))) fun a189 hS189 => d_pure hS189 15 #[true, true, true, true, true, true, true, false, false, true, true, true, true, true, false, true, false, false, false, false, false, false, false, false] rfl rfl rfl rfl (by kernel_rfl) (fun _ _ _ h => h) (fun _ => (r_move hS189 rfl rfl)) fun a190 hS190 => d_pure hS190 16 #[true, true, true, true, true, true, true, false, false, true, true, true, true, true, false, true, true, false, false, false, false, false, false, false] rfl rfl rfl rfl (by kernel_rfl) (fun _ _ _ h => h) (fun _ => (r_move hS190 rfl rfl)) fun a191 hS191 => d_pure hS191 17 #[true, true, true, true, true, true, true, false, false, true, true, true, true, true, false, true, true, true, false, false, false, false, false, false] rfl rfl rfl rfl (by kernel_rfl) (fun _ _ _ h => h) (fun _ => (r_index (e := 33) (sz := 13) (by_ := 168) hS191 rfl rfl rfl (by kernel_rfl) (RdS.some_ hp0 hx40) (idx_lo hx40) (idx_hi hx40))) fun a192 hS192 => d_pure hS192 18 #[true, true, true, true, true, true, true, false, false, true, true, true, true, true, false, true, true, true, true, false, false, false, false, false] rfl rfl rfl rfl (by kernel_rfl) (fun _ _ _ h => h) (fun _ => (r_fieldE (off := 11) hS192 rfl rfl (by kernel_rfl))) fun a193 hS193 => d_take hS193 19 #[true, true, true, true, true, true, true, false, false, true, true, true, true, true, false, true, true, true, true, true, false, false, false, false] rfl rfl rfl rfl (by kernel_rfl) (fun _ _ _ h => h) ⟨_, hC⟩ (fun w' g' Fz => (r_load1 (n := 1) hS193 rfl rfl (by kernel_rfl) (El.cell (j := 11) (hel162.fr Fz (fun q (hq : C0 q) (hm : N + 8 ≤ q) => by have := hC0 q hq; omega)) rfl))) fun a194 hS194 => ?_
              refine d_two 7 22 #[true, true, true, true, true, true, true, true, false, true, true, true, true, true, false, true, true, true, true, true, false, false, false, false] #[true, true, true, true, true, true, true, false, false, true, true, true, true, true, false, true, true, true, true, true, false, false, true, false] rfl rfl (by kernel_rfl) (arm_call hS194 rfl rfl rfl (r_call hS194 rfl rfl (by kernel_rfl)) (help_Mod.calls (p0 := x39.Parent) (p1 := (wi (m0_1 + 1))) (g := g11) (N + 8)   hr60) (fun _ _ ⟨g', _, Fz⟩ _ => ⟨g', hC.trans Fz (fun c' (hm : N + 8 ≤ c') => by show N + 8 ≤ c'; omega)⟩) ?_) (arm_eff hS194 rfl rfl rfl (e_alloc (cs := [.int .i64 0, .slice none 0 0, .slice none 0 0, .slice none 0 0, .slice none 0 0, .int .i64 0, .int .i64 0, .int .i64 0, .int .i64 0, .int .i64 0, .int .i64 0, .int .i64 0, .int .i64 0]) (N + 0) g11 hS194 rfl (by kernel_rfl)) (fun _ _ g' hR _ => ⟨g', hC.trans hR.2 (fun _ h => h.elim)⟩) ?_)
              · rintro _ a195 w196 ⟨g196, rfl, F196⟩ hS195
                have hC196 := hC.trans F196 (fun c' (hm : N + 8 ≤ c') => by show N + 8 ≤ c'; omega)
                replace h165 := RdS.fr h165 F196 (by decide) (fun q (hq : C0 q) (hm : N + 8 ≤ q) => by have := hC0 q hq; omega)
                replace h169 := RdS.fr h169 F196 (by decide) (fun q (hq : C0 q) (hm : N + 8 ≤ q) => by have := hC0 q hq; omega)
                replace h173 := RdS.fr h173 F196 (by decide) (fun q (hq : C0 q) (hm : N + 8 ≤ q) => by have := hC0 q hq; omega)
                replace h177 := RdS.fr h177 F196 (by decide) (fun q (hq : C0 q) (hm : N + 8 ≤ q) => by have := hC0 q hq; omega)
                replace hel162 := hel162.fr F196 (fun q (hq : C0 q) (hm : N + 8 ≤ q) => by have := hC0 q hq; omega)
                replace h14 := OwS.fr h14 F196 (fun c' hc (hm : N + 8 ≤ c') => by omega)
                replace hp0 := RdS.fr hp0 F196 (by decide) (fun q (hq : C0 q) (hm : N + 8 ≤ q) => by have := hC0 q hq; omega)
                replace hF := hF.trans F196 (fun c' (hm : N + 8 ≤ c') => by show (r0 ≤ c' ∧ c' < r0 + 2) ∨ N ≤ c'; omega)
                refine d_pure hS195 8 #[true, true, true, true, true, true, true, true, true, true, true, true, true, true, false, true, true, true, true, true, false, false, false, false] rfl rfl rfl rfl (by kernel_rfl) (fun _ _ _ h => h) (fun _ => (r_bin hS195 rfl rfl rfl b_sub)) fun a197 hS197 => ?_
                refine d_two 14 22 #[true, true, true, true, true, true, true, true, true, true, true, true, true, true, true, true, true, true, true, true, false, false, false, false] #[true, true, true, true, true, true, true, true, true, true, true, true, true, true, false, true, true, true, true, true, false, false, true, false] rfl rfl (by kernel_rfl) (arm_call hS197 rfl rfl rfl (r_call hS197 rfl rfl (by kernel_rfl)) (help_Mod.calls (p0 := x39.WakeSystem) (p1 := 5) (g := g196) (N + 8)   hr62) (fun _ _ ⟨g', _, Fz⟩ _ => ⟨g', hC196.trans Fz (fun c' (hm : N + 8 ≤ c') => by show N + 8 ≤ c'; omega)⟩) ?_) (arm_eff hS197 rfl rfl rfl (e_alloc (cs := [.int .i64 0, .slice none 0 0, .slice none 0 0, .slice none 0 0, .slice none 0 0, .int .i64 0, .int .i64 0, .int .i64 0, .int .i64 0, .int .i64 0, .int .i64 0, .int .i64 0, .int .i64 0]) (N + 0) g196 hS197 rfl (by kernel_rfl)) (fun _ _ g' hR _ => ⟨g', hC196.trans hR.2 (fun _ h => h.elim)⟩) ?_)
                · rintro _ a198 w199 ⟨g199, rfl, F199⟩ hS198
                  have hC199 := hC196.trans F199 (fun c' (hm : N + 8 ≤ c') => by show N + 8 ≤ c'; omega)
                  replace h165 := RdS.fr h165 F199 (by decide) (fun q (hq : C0 q) (hm : N + 8 ≤ q) => by have := hC0 q hq; omega)
                  replace h169 := RdS.fr h169 F199 (by decide) (fun q (hq : C0 q) (hm : N + 8 ≤ q) => by have := hC0 q hq; omega)
                  replace h173 := RdS.fr h173 F199 (by decide) (fun q (hq : C0 q) (hm : N + 8 ≤ q) => by have := hC0 q hq; omega)
                  replace h177 := RdS.fr h177 F199 (by decide) (fun q (hq : C0 q) (hm : N + 8 ≤ q) => by have := hC0 q hq; omega)
                  replace hel162 := hel162.fr F199 (fun q (hq : C0 q) (hm : N + 8 ≤ q) => by have := hC0 q hq; omega)
                  replace h14 := OwS.fr h14 F199 (fun c' hc (hm : N + 8 ≤ c') => by omega)
                  replace hp0 := RdS.fr hp0 F199 (by decide) (fun q (hq : C0 q) (hm : N + 8 ≤ q) => by have := hC0 q hq; omega)
                  replace hF := hF.trans F199 (fun c' (hm : N + 8 ≤ c') => by show (r0 ≤ c' ∧ c' < r0 + 2) ∨ N ≤ c'; omega)
                  refine d_two 20 22 #[true, true, true, true, true, true, true, true, true, true, true, true, true, true, true, true, true, true, true, true, true, false, false, false] #[true, true, true, true, true, true, true, true, true, true, true, true, true, true, true, true, true, true, true, true, false, false, true, false] rfl rfl (by kernel_rfl) (arm_call hS198 rfl rfl rfl (r_call hS198 rfl rfl (by kernel_rfl)) (help_Mod.calls (p0 := x39.WakeDevice) (p1 := 4) (g := g199) (N + 8)   hr64) (fun _ _ ⟨g', _, Fz⟩ _ => ⟨g', hC199.trans Fz (fun c' (hm : N + 8 ≤ c') => by show N + 8 ≤ c'; omega)⟩) ?_) (arm_eff hS198 rfl rfl rfl (e_alloc (cs := [.int .i64 0, .slice none 0 0, .slice none 0 0, .slice none 0 0, .slice none 0 0, .int .i64 0, .int .i64 0, .int .i64 0, .int .i64 0, .int .i64 0, .int .i64 0, .int .i64 0, .int .i64 0]) (N + 0) g199 hS198 rfl (by kernel_rfl)) (fun _ _ g' hR _ => ⟨g', hC199.trans hR.2 (fun _ h => h.elim)⟩) ?_)
                  · rintro _ a200 w201 ⟨g201, rfl, F201⟩ hS200
                    have hC201 := hC199.trans F201 (fun c' (hm : N + 8 ≤ c') => by show N + 8 ≤ c'; omega)
                    replace h165 := RdS.fr h165 F201 (by decide) (fun q (hq : C0 q) (hm : N + 8 ≤ q) => by have := hC0 q hq; omega)
                    replace h169 := RdS.fr h169 F201 (by decide) (fun q (hq : C0 q) (hm : N + 8 ≤ q) => by have := hC0 q hq; omega)
                    replace h173 := RdS.fr h173 F201 (by decide) (fun q (hq : C0 q) (hm : N + 8 ≤ q) => by have := hC0 q hq; omega)
                    replace h177 := RdS.fr h177 F201 (by decide) (fun q (hq : C0 q) (hm : N + 8 ≤ q) => by have := hC0 q hq; omega)
                    replace hel162 := hel162.fr F201 (fun q (hq : C0 q) (hm : N + 8 ≤ q) => by have := hC0 q hq; omega)
                    replace h14 := OwS.fr h14 F201 (fun c' hc (hm : N + 8 ≤ c') => by omega)
                    replace hp0 := RdS.fr hp0 F201 (by decide) (fun q (hq : C0 q) (hm : N + 8 ≤ q) => by have := hC0 q hq; omega)
                    replace hF := hF.trans F201 (fun c' (hm : N + 8 ≤ c') => by show (r0 ≤ c' ∧ c' < r0 + 2) ∨ N ≤ c'; omega)
                    refine d_pure hS200 21 #[true, true, true, true, true, true, true, true, true, true, true, true, true, true, true, true, true, true, true, true, true, true, false, false] rfl rfl rfl rfl (by kernel_rfl) (fun _ _ _ h => h) (fun _ => (r_build (parts := [(0, .int .i64 (wi (r59 - 1))), (4, .int .i64 r61), (3, .int .i64 r63)]) (u := .agg #[.int .i64 (wi (r59 - 1)), .slice none 0 0, .slice none 0 0, .slice none 0 0, .slice none 0 0, .int .i64 0, .int .i64 0, .int .i64 0, .int .i64 0, .int .i64 0, .int .i64 0, .int .i64 r63, .int .i64 r61]) hS200 rfl rfl (fun _ => by kernel_rfl))) fun a202 hS202 => ?_
                    refine d_one 22 #[true, true, true, true, true, true, true, true, true, true, true, true, true, true, true, true, true, true, true, true, true, true, true, false] rfl (by kernel_rfl) (arm_eff hS202 rfl rfl rfl (e_alloc (cs := [.int .i64 0, .slice none 0 0, .slice none 0 0, .slice none 0 0, .slice none 0 0, .int .i64 0, .int .i64 0, .int .i64 0, .int .i64 0, .int .i64 0, .int .i64 0, .int .i64 0, .int .i64 0]) (N + 0) g201 hS202 rfl (by kernel_rfl)) (fun _ _ g' hR _ => ⟨g', hC201.trans hR.2 (fun _ h => h.elim)⟩) ?_)
                    rintro _ a206 w207 g207 ⟨⟨b203, rfl, h204⟩, F207⟩ hS206
                    have hC207 := hC201.trans F207 (fun _ h => h.elim)
                    replace h165 := RdS.fr h165 F207 (by decide) (fun _ _ h => h)
                    replace h169 := RdS.fr h169 F207 (by decide) (fun _ _ h => h)
                    replace h173 := RdS.fr h173 F207 (by decide) (fun _ _ h => h)
                    replace h177 := RdS.fr h177 F207 (by decide) (fun _ _ h => h)
                    replace hel162 := hel162.fr F207 (fun _ _ h => h)
                    replace h14 := OwS.fr h14 F207 (fun _ _ h => h)
                    replace hp0 := RdS.fr hp0 F207 (by decide) (fun _ _ h => h)
                    replace hF := hF.trans F207 (fun _ h => h.elim)
                    refine d_one 23 #[true, true, true, true, true, true, true, true, true, true, true, true, true, true, true, true, true, true, true, true, true, true, true, true] rfl (by kernel_rfl) (arm_effS hS206 rfl rfl (e_storeB (n := 13) (bb := true) (cs' := [.int .i64 (wi (r59 - 1)), .slice none 0 0, .slice none 0 0, .slice none 0 0, .slice none 0 0, .int .i64 0, .int .i64 0, .int .i64 0, .int .i64 0, .int .i64 0, .int .i64 0, .int .i64 r63, .int .i64 r61]) g207 hS206 rfl rfl rfl (by kernel_rfl) rfl rfl rfl h204 rfl rfl) (.inl (by decide)) ?_)
                    rintro a208 w209 g209 ⟨h204, F209⟩ hS208
                    replace h165 := RdS.fr h165 F209 (by decide) (fun q (hq : C0 q) (hm : q = N + 0) => by have := hC0 q hq; omega)
                    replace h169 := RdS.fr h169 F209 (by decide) (fun q (hq : C0 q) (hm : q = N + 0) => by have := hC0 q hq; omega)
                    replace h173 := RdS.fr h173 F209 (by decide) (fun q (hq : C0 q) (hm : q = N + 0) => by have := hC0 q hq; omega)
                    replace h177 := RdS.fr h177 F209 (by decide) (fun q (hq : C0 q) (hm : q = N + 0) => by have := hC0 q hq; omega)
                    replace hel162 := hel162.fr F209 (fun q (hq : C0 q) (hm : q = N + 0) => by have := hC0 q hq; omega)
                    replace h14 := OwS.fr h14 F209 (fun c' hc (hm : c' = N + 0) => by omega)
                    replace hp0 := RdS.fr hp0 F209 (by decide) (fun q (hq : C0 q) (hm : q = N + 0) => by have := hC0 q hq; omega)
                    replace hF := hF.trans F209 (fun c' (hm : c' = N + 0) => by show (r0 ≤ c' ∧ c' < r0 + 2) ∨ N ≤ c'; omega)
                    refine d_done (by kernel_rfl) ?_
                    exact ⟨g209, b203, hS208.re ⟨rfl, rfl, rfl, rfl, rfl, trivial⟩, h14, h204, hp0, hF⟩
                  · rintro _ a213 w214 g214 ⟨⟨b210, rfl, h211⟩, F214⟩ hS213
                    have hC214 := hC199.trans F214 (fun _ h => h.elim)
                    replace h165 := RdS.fr h165 F214 (by decide) (fun _ _ h => h)
                    replace h169 := RdS.fr h169 F214 (by decide) (fun _ _ h => h)
                    replace h173 := RdS.fr h173 F214 (by decide) (fun _ _ h => h)
                    replace h177 := RdS.fr h177 F214 (by decide) (fun _ _ h => h)
                    replace hel162 := hel162.fr F214 (fun _ _ h => h)
                    replace h14 := OwS.fr h14 F214 (fun _ _ h => h)
                    replace hp0 := RdS.fr hp0 F214 (by decide) (fun _ _ h => h)
                    replace hF := hF.trans F214 (fun _ h => h.elim)
                    refine d_one 20 #[true, true, true, true, true, true, true, true, true, true, true, true, true, true, true, true, true, true, true, true, true, false, true, false] rfl (by kernel_rfl) (arm_call hS213 rfl rfl rfl (r_call hS213 rfl rfl (by kernel_rfl)) (help_Mod.calls (p0 := x39.WakeDevice) (p1 := 4) (g := g214) (N + 8)   hr64) (fun _ _ ⟨g', _, Fz⟩ _ => ⟨g', hC214.trans Fz (fun c' (hm : N + 8 ≤ c') => by show N + 8 ≤ c'; omega)⟩) ?_)
                    rintro _ a215 w216 ⟨g216, rfl, F216⟩ hS215
                    have hC216 := hC214.trans F216 (fun c' (hm : N + 8 ≤ c') => by show N + 8 ≤ c'; omega)
                    replace h165 := RdS.fr h165 F216 (by decide) (fun q (hq : C0 q) (hm : N + 8 ≤ q) => by have := hC0 q hq; omega)
                    replace h169 := RdS.fr h169 F216 (by decide) (fun q (hq : C0 q) (hm : N + 8 ≤ q) => by have := hC0 q hq; omega)
                    replace h173 := RdS.fr h173 F216 (by decide) (fun q (hq : C0 q) (hm : N + 8 ≤ q) => by have := hC0 q hq; omega)
                    replace h177 := RdS.fr h177 F216 (by decide) (fun q (hq : C0 q) (hm : N + 8 ≤ q) => by have := hC0 q hq; omega)
                    replace hel162 := hel162.fr F216 (fun q (hq : C0 q) (hm : N + 8 ≤ q) => by have := hC0 q hq; omega)
                    replace h211 := h211.fr F216 (fun (hm : N + 8 ≤ N + 0) => by omega)
                    replace h14 := OwS.fr h14 F216 (fun c' hc (hm : N + 8 ≤ c') => by omega)
                    replace hp0 := RdS.fr hp0 F216 (by decide) (fun q (hq : C0 q) (hm : N + 8 ≤ q) => by have := hC0 q hq; omega)
                    replace hF := hF.trans F216 (fun c' (hm : N + 8 ≤ c') => by show (r0 ≤ c' ∧ c' < r0 + 2) ∨ N ≤ c'; omega)
                    refine d_pure hS215 21 #[true, true, true, true, true, true, true, true, true, true, true, true, true, true, true, true, true, true, true, true, true, true, true, false] rfl rfl rfl rfl (by kernel_rfl) (fun _ _ _ h => h) (fun _ => (r_build (parts := [(0, .int .i64 (wi (r59 - 1))), (4, .int .i64 r61), (3, .int .i64 r63)]) (u := .agg #[.int .i64 (wi (r59 - 1)), .slice none 0 0, .slice none 0 0, .slice none 0 0, .slice none 0 0, .int .i64 0, .int .i64 0, .int .i64 0, .int .i64 0, .int .i64 0, .int .i64 0, .int .i64 r63, .int .i64 r61]) hS215 rfl rfl (fun _ => by kernel_rfl))) fun a217 hS217 => ?_
                    refine d_one 23 #[true, true, true, true, true, true, true, true, true, true, true, true, true, true, true, true, true, true, true, true, true, true, true, true] rfl (by kernel_rfl) (arm_effS hS217 rfl rfl (e_storeB (n := 13) (bb := true) (cs' := [.int .i64 (wi (r59 - 1)), .slice none 0 0, .slice none 0 0, .slice none 0 0, .slice none 0 0, .int .i64 0, .int .i64 0, .int .i64 0, .int .i64 0, .int .i64 0, .int .i64 0, .int .i64 r63, .int .i64 r61]) g216 hS217 rfl rfl rfl (by kernel_rfl) rfl rfl rfl h211 rfl rfl) (.inl (by decide)) ?_)
                    rintro a218 w219 g219 ⟨h211, F219⟩ hS218
                    replace h165 := RdS.fr h165 F219 (by decide) (fun q (hq : C0 q) (hm : q = N + 0) => by have := hC0 q hq; omega)
                    replace h169 := RdS.fr h169 F219 (by decide) (fun q (hq : C0 q) (hm : q = N + 0) => by have := hC0 q hq; omega)
                    replace h173 := RdS.fr h173 F219 (by decide) (fun q (hq : C0 q) (hm : q = N + 0) => by have := hC0 q hq; omega)
                    replace h177 := RdS.fr h177 F219 (by decide) (fun q (hq : C0 q) (hm : q = N + 0) => by have := hC0 q hq; omega)
                    replace hel162 := hel162.fr F219 (fun q (hq : C0 q) (hm : q = N + 0) => by have := hC0 q hq; omega)
                    replace h14 := OwS.fr h14 F219 (fun c' hc (hm : c' = N + 0) => by omega)
                    replace hp0 := RdS.fr hp0 F219 (by decide) (fun q (hq : C0 q) (hm : q = N + 0) => by have := hC0 q hq; omega)
                    replace hF := hF.trans F219 (fun c' (hm : c' = N + 0) => by show (r0 ≤ c' ∧ c' < r0 + 2) ∨ N ≤ c'; omega)
                    refine d_done (by kernel_rfl) ?_
                    exact ⟨g219, b210, hS218.re ⟨rfl, rfl, rfl, rfl, rfl, trivial⟩, h14, h211, hp0, hF⟩
                · rintro _ a223 w224 g224 ⟨⟨b220, rfl, h221⟩, F224⟩ hS223
                  have hC224 := hC196.trans F224 (fun _ h => h.elim)
                  replace h165 := RdS.fr h165 F224 (by decide) (fun _ _ h => h)
                  replace h169 := RdS.fr h169 F224 (by decide) (fun _ _ h => h)
                  replace h173 := RdS.fr h173 F224 (by decide) (fun _ _ h => h)
                  replace h177 := RdS.fr h177 F224 (by decide) (fun _ _ h => h)
                  replace hel162 := hel162.fr F224 (fun _ _ h => h)
                  replace h14 := OwS.fr h14 F224 (fun _ _ h => h)
                  replace hp0 := RdS.fr hp0 F224 (by decide) (fun _ _ h => h)
                  replace hF := hF.trans F224 (fun _ h => h.elim)
                  refine d_one 14 #[true, true, true, true, true, true, true, true, true, true, true, true, true, true, true, true, true, true, true, true, false, false, true, false] rfl (by kernel_rfl) (arm_call hS223 rfl rfl rfl (r_call hS223 rfl rfl (by kernel_rfl)) (help_Mod.calls (p0 := x39.WakeSystem) (p1 := 5) (g := g224) (N + 8)   hr62) (fun _ _ ⟨g', _, Fz⟩ _ => ⟨g', hC224.trans Fz (fun c' (hm : N + 8 ≤ c') => by show N + 8 ≤ c'; omega)⟩) ?_)
                  rintro _ a225 w226 ⟨g226, rfl, F226⟩ hS225
                  have hC226 := hC224.trans F226 (fun c' (hm : N + 8 ≤ c') => by show N + 8 ≤ c'; omega)
                  replace h165 := RdS.fr h165 F226 (by decide) (fun q (hq : C0 q) (hm : N + 8 ≤ q) => by have := hC0 q hq; omega)
                  replace h169 := RdS.fr h169 F226 (by decide) (fun q (hq : C0 q) (hm : N + 8 ≤ q) => by have := hC0 q hq; omega)
                  replace h173 := RdS.fr h173 F226 (by decide) (fun q (hq : C0 q) (hm : N + 8 ≤ q) => by have := hC0 q hq; omega)
                  replace h177 := RdS.fr h177 F226 (by decide) (fun q (hq : C0 q) (hm : N + 8 ≤ q) => by have := hC0 q hq; omega)
                  replace hel162 := hel162.fr F226 (fun q (hq : C0 q) (hm : N + 8 ≤ q) => by have := hC0 q hq; omega)
                  replace h221 := h221.fr F226 (fun (hm : N + 8 ≤ N + 0) => by omega)
                  replace h14 := OwS.fr h14 F226 (fun c' hc (hm : N + 8 ≤ c') => by omega)
                  replace hp0 := RdS.fr hp0 F226 (by decide) (fun q (hq : C0 q) (hm : N + 8 ≤ q) => by have := hC0 q hq; omega)
                  replace hF := hF.trans F226 (fun c' (hm : N + 8 ≤ c') => by show (r0 ≤ c' ∧ c' < r0 + 2) ∨ N ≤ c'; omega)
                  refine d_one 20 #[true, true, true, true, true, true, true, true, true, true, true, true, true, true, true, true, true, true, true, true, true, false, true, false] rfl (by kernel_rfl) (arm_call hS225 rfl rfl rfl (r_call hS225 rfl rfl (by kernel_rfl)) (help_Mod.calls (p0 := x39.WakeDevice) (p1 := 4) (g := g226) (N + 8)   hr64) (fun _ _ ⟨g', _, Fz⟩ _ => ⟨g', hC226.trans Fz (fun c' (hm : N + 8 ≤ c') => by show N + 8 ≤ c'; omega)⟩) ?_)
                  rintro _ a227 w228 ⟨g228, rfl, F228⟩ hS227
                  have hC228 := hC226.trans F228 (fun c' (hm : N + 8 ≤ c') => by show N + 8 ≤ c'; omega)
                  replace h165 := RdS.fr h165 F228 (by decide) (fun q (hq : C0 q) (hm : N + 8 ≤ q) => by have := hC0 q hq; omega)
                  replace h169 := RdS.fr h169 F228 (by decide) (fun q (hq : C0 q) (hm : N + 8 ≤ q) => by have := hC0 q hq; omega)
                  replace h173 := RdS.fr h173 F228 (by decide) (fun q (hq : C0 q) (hm : N + 8 ≤ q) => by have := hC0 q hq; omega)
                  replace h177 := RdS.fr h177 F228 (by decide) (fun q (hq : C0 q) (hm : N + 8 ≤ q) => by have := hC0 q hq; omega)
                  replace hel162 := hel162.fr F228 (fun q (hq : C0 q) (hm : N + 8 ≤ q) => by have := hC0 q hq; omega)
                  replace h221 := h221.fr F228 (fun (hm : N + 8 ≤ N + 0) => by omega)
                  replace h14 := OwS.fr h14 F228 (fun c' hc (hm : N + 8 ≤ c') => by omega)
                  replace hp0 := RdS.fr hp0 F228 (by decide) (fun q (hq : C0 q) (hm : N + 8 ≤ q) => by have := hC0 q hq; omega)
                  replace hF := hF.trans F228 (fun c' (hm : N + 8 ≤ c') => by show (r0 ≤ c' ∧ c' < r0 + 2) ∨ N ≤ c'; omega)
                  refine d_pure hS227 21 #[true, true, true, true, true, true, true, true, true, true, true, true, true, true, true, true, true, true, true, true, true, true, true, false] rfl rfl rfl rfl (by kernel_rfl) (fun _ _ _ h => h) (fun _ => (r_build (parts := [(0, .int .i64 (wi (r59 - 1))), (4, .int .i64 r61), (3, .int .i64 r63)]) (u := .agg #[.int .i64 (wi (r59 - 1)), .slice none 0 0, .slice none 0 0, .slice none 0 0, .slice none 0 0, .int .i64 0, .int .i64 0, .int .i64 0, .int .i64 0, .int .i64 0, .int .i64 0, .int .i64 r63, .int .i64 r61]) hS227 rfl rfl (fun _ => by kernel_rfl))) fun a229 hS229 => ?_
                  refine d_one 23 #[true, true, true, true, true, true, true, true, true, true, true, true, true, true, true, true, true, true, true, true, true, true, true, true] rfl (by kernel_rfl) (arm_effS hS229 rfl rfl (e_storeB (n := 13) (bb := true) (cs' := [.int .i64 (wi (r59 - 1)), .slice none 0 0, .slice none 0 0, .slice none 0 0, .slice none 0 0, .int .i64 0, .int .i64 0, .int .i64 0, .int .i64 0, .int .i64 0, .int .i64 0, .int .i64 r63, .int .i64 r61]) g228 hS229 rfl rfl rfl (by kernel_rfl) rfl rfl rfl h221 rfl rfl) (.inl (by decide)) ?_)
                  rintro a230 w231 g231 ⟨h221, F231⟩ hS230
                  replace h165 := RdS.fr h165 F231 (by decide) (fun q (hq : C0 q) (hm : q = N + 0) => by have := hC0 q hq; omega)
                  replace h169 := RdS.fr h169 F231 (by decide) (fun q (hq : C0 q) (hm : q = N + 0) => by have := hC0 q hq; omega)
                  replace h173 := RdS.fr h173 F231 (by decide) (fun q (hq : C0 q) (hm : q = N + 0) => by have := hC0 q hq; omega)
                  replace h177 := RdS.fr h177 F231 (by decide) (fun q (hq : C0 q) (hm : q = N + 0) => by have := hC0 q hq; omega)
                  replace hel162 := hel162.fr F231 (fun q (hq : C0 q) (hm : q = N + 0) => by have := hC0 q hq; omega)
                  replace h14 := OwS.fr h14 F231 (fun c' hc (hm : c' = N + 0) => by omega)
                  replace hp0 := RdS.fr hp0 F231 (by decide) (fun q (hq : C0 q) (hm : q = N + 0) => by have := hC0 q hq; omega)
                  replace hF := hF.trans F231 (fun c' (hm : c' = N + 0) => by show (r0 ≤ c' ∧ c' < r0 + 2) ∨ N ≤ c'; omega)
                  refine d_done (by kernel_rfl) ?_
                  exact ⟨g231, b220, hS230.re ⟨rfl, rfl, rfl, rfl, rfl, trivial⟩, h14, h221, hp0, hF⟩
              · rintro _ a235 w236 g236 ⟨⟨b232, rfl, h233⟩, F236⟩ hS235
                have hC236 := hC.trans F236 (fun _ h => h.elim)
                replace h165 := RdS.fr h165 F236 (by decide) (fun _ _ h => h)
                replace h169 := RdS.fr h169 F236 (by decide) (fun _ _ h => h)
                replace h173 := RdS.fr h173 F236 (by decide) (fun _ _ h => h)
                replace h177 := RdS.fr h177 F236 (by decide) (fun _ _ h => h)
                replace hel162 := hel162.fr F236 (fun _ _ h => h)
                replace h14 := OwS.fr h14 F236 (fun _ _ h => h)
                replace hp0 := RdS.fr hp0 F236 (by decide) (fun _ _ h => h)
                replace hF := hF.trans F236 (fun _ h => h.elim)
                refine d_one 7 #[true, true, true, true, true, true, true, true, false, true, true, true, true, true, false, true, true, true, true, true, false, false, true, false] rfl (by kernel_rfl) (arm_call hS235 rfl rfl rfl (r_call hS235 rfl rfl (by kernel_rfl)) (help_Mod.calls (p0 := x39.Parent) (p1 := (wi (m0_1 + 1))) (g := g236) (N + 8)   hr60) (fun _ _ ⟨g', _, Fz⟩ _ => ⟨g', hC236.trans Fz (fun c' (hm : N + 8 ≤ c') => by show N + 8 ≤ c'; omega)⟩) ?_)
                rintro _ a237 w238 ⟨g238, rfl, F238⟩ hS237
                have hC238 := hC236.trans F238 (fun c' (hm : N + 8 ≤ c') => by show N + 8 ≤ c'; omega)
                replace h165 := RdS.fr h165 F238 (by decide) (fun q (hq : C0 q) (hm : N + 8 ≤ q) => by have := hC0 q hq; omega)
                replace h169 := RdS.fr h169 F238 (by decide) (fun q (hq : C0 q) (hm : N + 8 ≤ q) => by have := hC0 q hq; omega)
                replace h173 := RdS.fr h173 F238 (by decide) (fun q (hq : C0 q) (hm : N + 8 ≤ q) => by have := hC0 q hq; omega)
                replace h177 := RdS.fr h177 F238 (by decide) (fun q (hq : C0 q) (hm : N + 8 ≤ q) => by have := hC0 q hq; omega)
                replace hel162 := hel162.fr F238 (fun q (hq : C0 q) (hm : N + 8 ≤ q) => by have := hC0 q hq; omega)
                replace h233 := h233.fr F238 (fun (hm : N + 8 ≤ N + 0) => by omega)
                replace h14 := OwS.fr h14 F238 (fun c' hc (hm : N + 8 ≤ c') => by omega)
                replace hp0 := RdS.fr hp0 F238 (by decide) (fun q (hq : C0 q) (hm : N + 8 ≤ q) => by have := hC0 q hq; omega)
                replace hF := hF.trans F238 (fun c' (hm : N + 8 ≤ c') => by show (r0 ≤ c' ∧ c' < r0 + 2) ∨ N ≤ c'; omega)
                refine d_pure hS237 8 #[true, true, true, true, true, true, true, true, true, true, true, true, true, true, false, true, true, true, true, true, false, false, true, false] rfl rfl rfl rfl (by kernel_rfl) (fun _ _ _ h => h) (fun _ => (r_bin hS237 rfl rfl rfl b_sub)) fun a239 hS239 => ?_
                refine d_one 14 #[true, true, true, true, true, true, true, true, true, true, true, true, true, true, true, true, true, true, true, true, false, false, true, false] rfl (by kernel_rfl) (arm_call hS239 rfl rfl rfl (r_call hS239 rfl rfl (by kernel_rfl)) (help_Mod.calls (p0 := x39.WakeSystem) (p1 := 5) (g := g238) (N + 8)   hr62) (fun _ _ ⟨g', _, Fz⟩ _ => ⟨g', hC238.trans Fz (fun c' (hm : N + 8 ≤ c') => by show N + 8 ≤ c'; omega)⟩) ?_)
                rintro _ a240 w241 ⟨g241, rfl, F241⟩ hS240
                have hC241 := hC238.trans F241 (fun c' (hm : N + 8 ≤ c') => by show N + 8 ≤ c'; omega)
                replace h165 := RdS.fr h165 F241 (by decide) (fun q (hq : C0 q) (hm : N + 8 ≤ q) => by have := hC0 q hq; omega)
                replace h169 := RdS.fr h169 F241 (by decide) (fun q (hq : C0 q) (hm : N + 8 ≤ q) => by have := hC0 q hq; omega)
                replace h173 := RdS.fr h173 F241 (by decide) (fun q (hq : C0 q) (hm : N + 8 ≤ q) => by have := hC0 q hq; omega)
                replace h177 := RdS.fr h177 F241 (by decide) (fun q (hq : C0 q) (hm : N + 8 ≤ q) => by have := hC0 q hq; omega)
                replace hel162 := hel162.fr F241 (fun q (hq : C0 q) (hm : N + 8 ≤ q) => by have := hC0 q hq; omega)
                replace h233 := h233.fr F241 (fun (hm : N + 8 ≤ N + 0) => by omega)
                replace h14 := OwS.fr h14 F241 (fun c' hc (hm : N + 8 ≤ c') => by omega)
                replace hp0 := RdS.fr hp0 F241 (by decide) (fun q (hq : C0 q) (hm : N + 8 ≤ q) => by have := hC0 q hq; omega)
                replace hF := hF.trans F241 (fun c' (hm : N + 8 ≤ c') => by show (r0 ≤ c' ∧ c' < r0 + 2) ∨ N ≤ c'; omega)
                refine d_one 20 #[true, true, true, true, true, true, true, true, true, true, true, true, true, true, true, true, true, true, true, true, true, false, true, false] rfl (by kernel_rfl) (arm_call hS240 rfl rfl rfl (r_call hS240 rfl rfl (by kernel_rfl)) (help_Mod.calls (p0 := x39.WakeDevice) (p1 := 4) (g := g241) (N + 8)   hr64) (fun _ _ ⟨g', _, Fz⟩ _ => ⟨g', hC241.trans Fz (fun c' (hm : N + 8 ≤ c') => by show N + 8 ≤ c'; omega)⟩) ?_)
                rintro _ a242 w243 ⟨g243, rfl, F243⟩ hS242
                have hC243 := hC241.trans F243 (fun c' (hm : N + 8 ≤ c') => by show N + 8 ≤ c'; omega)
                replace h165 := RdS.fr h165 F243 (by decide) (fun q (hq : C0 q) (hm : N + 8 ≤ q) => by have := hC0 q hq; omega)
                replace h169 := RdS.fr h169 F243 (by decide) (fun q (hq : C0 q) (hm : N + 8 ≤ q) => by have := hC0 q hq; omega)
                replace h173 := RdS.fr h173 F243 (by decide) (fun q (hq : C0 q) (hm : N + 8 ≤ q) => by have := hC0 q hq; omega)
                replace h177 := RdS.fr h177 F243 (by decide) (fun q (hq : C0 q) (hm : N + 8 ≤ q) => by have := hC0 q hq; omega)
                replace hel162 := hel162.fr F243 (fun q (hq : C0 q) (hm : N + 8 ≤ q) => by have := hC0 q hq; omega)
                replace h233 := h233.fr F243 (fun (hm : N + 8 ≤ N + 0) => by omega)
                replace h14 := OwS.fr h14 F243 (fun c' hc (hm : N + 8 ≤ c') => by omega)
                replace hp0 := RdS.fr hp0 F243 (by decide) (fun q (hq : C0 q) (hm : N + 8 ≤ q) => by have := hC0 q hq; omega)
                replace hF := hF.trans F243 (fun c' (hm : N + 8 ≤ c') => by show (r0 ≤ c' ∧ c' < r0 + 2) ∨ N ≤ c'; omega)
                refine d_pure hS242 21 #[true, true, true, true, true, true, true, true, true, true, true, true, true, true, true, true, true, true, true, true, true, true, true, false] rfl rfl rfl rfl (by kernel_rfl) (fun _ _ _ h => h) (fun _ => (r_build (parts := [(0, .int .i64 (wi (r59 - 1))), (4, .int .i64 r61), (3, .int .i64 r63)]) (u := .agg #[.int .i64 (wi (r59 - 1)), .slice none 0 0, .slice none 0 0, .slice none 0 0, .slice none 0 0, .int .i64 0, .int .i64 0, .int .i64 0, .int .i64 0, .int .i64 0, .int .i64 0, .int .i64 r63, .int .i64 r61]) hS242 rfl rfl (fun _ => by kernel_rfl))) fun a244 hS244 => ?_
                refine d_one 23 #[true, true, true, true, true, true, true, true, true, true, true, true, true, true, true, true, true, true, true, true, true, true, true, true] rfl (by kernel_rfl) (arm_effS hS244 rfl rfl (e_storeB (n := 13) (bb := true) (cs' := [.int .i64 (wi (r59 - 1)), .slice none 0 0, .slice none 0 0, .slice none 0 0, .slice none 0 0, .int .i64 0, .int .i64 0, .int .i64 0, .int .i64 0, .int .i64 0, .int .i64 0, .int .i64 r63, .int .i64 r61]) g243 hS244 rfl rfl rfl (by kernel_rfl) rfl rfl rfl h233 rfl rfl) (.inl (by decide)) ?_)
                rintro a245 w246 g246 ⟨h233, F246⟩ hS245
                replace h165 := RdS.fr h165 F246 (by decide) (fun q (hq : C0 q) (hm : q = N + 0) => by have := hC0 q hq; omega)
                replace h169 := RdS.fr h169 F246 (by decide) (fun q (hq : C0 q) (hm : q = N + 0) => by have := hC0 q hq; omega)
                replace h173 := RdS.fr h173 F246 (by decide) (fun q (hq : C0 q) (hm : q = N + 0) => by have := hC0 q hq; omega)
                replace h177 := RdS.fr h177 F246 (by decide) (fun q (hq : C0 q) (hm : q = N + 0) => by have := hC0 q hq; omega)
                replace hel162 := hel162.fr F246 (fun q (hq : C0 q) (hm : q = N + 0) => by have := hC0 q hq; omega)
                replace h14 := OwS.fr h14 F246 (fun c' hc (hm : c' = N + 0) => by omega)
                replace hp0 := RdS.fr hp0 F246 (by decide) (fun q (hq : C0 q) (hm : q = N + 0) => by have := hC0 q hq; omega)
                replace hF := hF.trans F246 (fun c' (hm : c' = N + 0) => by show (r0 ≤ c' ∧ c' < r0 + 2) ∨ N ≤ c'; omega)
                refine d_done (by kernel_rfl) ?_
                exact ⟨g246, b232, hS245.re ⟨rfl, rfl, rfl, rfl, rfl, trivial⟩, h14, h233, hp0, hF⟩
            clear hp0 h14 hF
            clear hS
            rintro a w156 ⟨g156, b157, hS, h14, h158, hp0, hF⟩
            obtain ⟨v260, H, Hl262⟩ := bind_el H
            refine c_cut (fun a w247 => ∃ (g247 : Nat → Nat), ∃ (A248 : Option Addr), ∃ (cap249 : Nat), ∃ (A251 : Option Addr), ∃ (cap252 : Nat), ∃ (A254 : Option Addr), ∃ (cap255 : Nat), ∃ (A257 : Option Addr), ∃ (cap258 : Nat), Sl 88 a [(0, .slice A0 p0.length cap0), (1, .int .i64 p1), (5, .slice A12 m0_0.length cap13), (6, .int .i64 m0_1), (7, .pointer (some ⟨b157, 0, none⟩))] ∧ RdS (kint .i64) w247 g247 (fun q => q = N + 4 + 1) A248 cap249 v260.Rails.a0 ∧ RdS (kint .i64) w247 g247 (fun q => q = N + 4 + 1) A251 cap252 v260.Rails.a1 ∧ RdS (kint .i64) w247 g247 (fun q => q = N + 4 + 1) A254 cap255 v260.Rails.a2 ∧ RdS (kint .i64) w247 g247 (fun q => q = N + 4 + 1) A257 cap258 v260.Rails.a3 ∧ OwS kd_api_PowerDevice 33 w247 g247 (N + 4) A12 cap13 m0_0 ∧ Bx w247 g247 (N + 0) b157 33 [.int .i64 v260.Parent, .slice A248 v260.Rails.a0.length cap249, .slice A251 v260.Rails.a1.length cap252, .slice A254 v260.Rails.a2.length cap255, .slice A257 v260.Rails.a3.length cap258, .int .i64 v260.Deepest.a0, .int .i64 v260.Deepest.a1, .int .i64 v260.Deepest.a2, .int .i64 v260.Deepest.a3, .int .i64 v260.Deepest.a4, .int .i64 v260.Deepest.a5, .int .i64 v260.WakeDevice, .int .i64 v260.WakeSystem] ∧ RdS kd_api_PowerDevice w247 g247 C0 A0 cap0 p0 ∧ Fr (fun q => (r0 ≤ q ∧ q < r0 + 2) ∨ N ≤ q) w g w247 g247) ?_ ?_
            · refine c_pure [(0, .slice A0 p0.length cap0), (1, .int .i64 p1), (5, .slice A12 m0_0.length cap13), (6, .int .i64 m0_1), (7, .pointer (some ⟨b157, 0, none⟩)), (8, .int .i64 0)] (fun R hR => st_val hS rfl rfl rfl (r_assign hS rfl rfl) fun a263 hS263 => wpList_nil (hR _ (hS263.re ⟨rfl, rfl, rfl, rfl, rfl, rfl, trivial⟩))) ?_
              clear hS
              clear a
              intro a hS
              refine wp_block ?_
              refine wp_loop_ghost (fun kq => fun a w264 => ∃ (m1_0 : api_PowerDevice), ∃ (m1_1 : Int), ∃ (g264 : Nat → Nat), ∃ (A265 : Option Addr), ∃ (cap266 : Nat), ∃ (A268 : Option Addr), ∃ (cap269 : Nat), ∃ (A271 : Option Addr), ∃ (cap272 : Nat), ∃ (A274 : Option Addr), ∃ (cap275 : Nat), law27_Some.l1 p1 x39 kq m1_0 m1_1 = some v260 ∧ Sl 88 a [(0, .slice A0 p0.length cap0), (1, .int .i64 p1), (5, .slice A12 m0_0.length cap13), (6, .int .i64 m0_1), (7, .pointer (some ⟨b157, 0, none⟩)), (8, .int .i64 m1_1)] ∧ RdS (kint .i64) w264 g264 (fun q => q = N + 4 + 1) A265 cap266 m1_0.Rails.a0 ∧ RdS (kint .i64) w264 g264 (fun q => q = N + 4 + 1) A268 cap269 m1_0.Rails.a1 ∧ RdS (kint .i64) w264 g264 (fun q => q = N + 4 + 1) A271 cap272 m1_0.Rails.a2 ∧ RdS (kint .i64) w264 g264 (fun q => q = N + 4 + 1) A274 cap275 m1_0.Rails.a3 ∧ OwS kd_api_PowerDevice 33 w264 g264 (N + 4) A12 cap13 m0_0 ∧ Bx w264 g264 (N + 0) b157 33 [.int .i64 m1_0.Parent, .slice A265 m1_0.Rails.a0.length cap266, .slice A268 m1_0.Rails.a1.length cap269, .slice A271 m1_0.Rails.a2.length cap272, .slice A274 m1_0.Rails.a3.length cap275, .int .i64 m1_0.Deepest.a0, .int .i64 m1_0.Deepest.a1, .int .i64 m1_0.Deepest.a2, .int .i64 m1_0.Deepest.a3, .int .i64 m1_0.Deepest.a4, .int .i64 m1_0.Deepest.a5, .int .i64 m1_0.WakeDevice, .int .i64 m1_0.WakeSystem] ∧ RdS kd_api_PowerDevice w264 g264 C0 A0 cap0 p0 ∧ Fr (fun q => (r0 ≤ q ∧ q < r0 + 2) ∨ N ≤ q) w g w264 g264) FUEL ?_ ?_
              · exact ⟨(api_PowerDevice.mk (wi (r59 - 1)) (Ar4.mk ([] : List Int) ([] : List Int) ([] : List Int) ([] : List Int)) (Ar6.mk 0 0 0 0 0 0) r63 r61), 0, g156, none, 0, none, 0, none, 0, none, 0, H, hS.re ⟨rfl, rfl, rfl, rfl, rfl, rfl, trivial⟩, RdS.nil (kint .i64) w156 g156 (fun q => q = N + 4 + 1), RdS.nil (kint .i64) w156 g156 (fun q => q = N + 4 + 1), RdS.nil (kint .i64) w156 g156 (fun q => q = N + 4 + 1), RdS.nil (kint .i64) w156 g156 (fun q => q = N + 4 + 1), h14, h158, hp0, hF⟩
              · clear H
                clear hp0 h14 h158 hF
                clear hS
                rintro k277 a w264 ⟨m1_0, m1_1, g264, A265, cap266, A268, cap269, A271, cap272, A274, cap275, hpre0, hS, h267, h270, h273, h276, h14, h158, hp0, hF⟩
                have H := hpre0
                clear hpre0
                cases k277 with
                | zero => exact absurd H (by simp [law27_Some.l1])
                | succ k277 =>
                  rw [law27_Some.l1] at H
                  refine wp_seq ?_
                  refine c_region (fun K hK => ?_)
                  refine st_val hS rfl rfl rfl (r_move hS rfl rfl) fun a278 hS278 => st_val hS278 rfl rfl rfl (r_bin hS278 rfl rfl rfl b_lss) fun a279 hS279 => st_val hS279 rfl rfl rfl (r_move hS279 rfl rfl) fun a280 hS280 => ?_
                  refine g_join (N := 88) 3 [(0, .slice A0 p0.length cap0), (1, .int .i64 p1), (5, .slice A12 m0_0.length cap13), (6, .int .i64 m0_1), (7, .pointer (some ⟨b157, 0, none⟩)), (8, .int .i64 m1_1), (47, .bool ((decide (m1_1 < 4)) && (decide (0 < p1))))] ?_ (fun hk => ?_)
                  rotate_left
                  · rcases Bool.eq_false_or_eq_true (decide (m1_1 < 4)) with hb281 | hb281
                    · refine st_valW hS280 (want_on hS280 rfl rfl rfl hb281) rfl rfl (r_move hS280 rfl rfl) fun a284 hS284 => st_valW hS284 (want_on hS284 rfl rfl rfl hb281) rfl rfl (r_bin hS284 rfl rfl rfl b_gtr) fun a285 hS285 => st_val hS285 rfl rfl rfl (r_pickT hS285 rfl rfl rfl hb281) fun a286 hS286 => hk _ (hS286.re ⟨rfl, rfl, rfl, rfl, rfl, rfl, (by rw [hb281]; rfl), trivial⟩)
                    · refine st_off hS280 (want_off hS280 rfl rfl rfl hb281) rfl rfl fun a287 hS287 => st_off hS287 (want_off hS287 rfl rfl rfl hb281) rfl rfl fun a288 hS288 => st_val hS288 rfl rfl rfl (r_pickF hS288 rfl rfl rfl hb281) fun a289 hS289 => hk _ (hS289.re ⟨rfl, rfl, rfl, rfl, rfl, rfl, (by rw [hb281]; rfl), trivial⟩)
                  intro a290 hS290
                  refine wpList_nil (hK _ _ ?_)
                  replace hS : Sl 88 _ [(0, .slice A0 p0.length cap0), (1, .int .i64 p1), (5, .slice A12 m0_0.length cap13), (6, .int .i64 m0_1), (7, .pointer (some ⟨b157, 0, none⟩)), (8, .int .i64 m1_1), (47, .bool ((decide (m1_1 < 4)) && (decide (0 < p1))))] := hS290.re ⟨rfl, rfl, rfl, rfl, rfl, rfl, rfl, trivial⟩
                  clear hK K
                  try clear hS278 hS279 hS280 hS290
                  obtain ⟨a, ha⟩ : ∃ a', a' = a290 := ⟨_, rfl⟩
                  rw [← ha] at hS ⊢; clear ha
                  refine c_cond hS rfl (fun hb291 => ?_) (fun hb291 => ?_)
                  · replace H := ite_t hb291 H
                    refine wp_skip ?_
                    change Code.wp _ _ _ _ _
                    refine wp_seq ?_
                    refine wp_block ?_
                    obtain ⟨x316, hx317, H⟩ := bind_el H
                    obtain ⟨r327, hr328, H⟩ := bind_el H
                    obtain ⟨x336, hx337, H⟩ := bind_el H
                    obtain ⟨y345, hy346, H⟩ := bind_el H
                    refine c_region1 (fun K hK => ?_)
                    refine st_val hS rfl rfl rfl (r_move hS rfl rfl) fun a292 hS292 => st_val hS292 rfl rfl rfl (r_move hS292 rfl rfl) fun a293 hS293 => st_val hS293 rfl rfl rfl (r_move hS293 rfl rfl) fun a294 hS294 => st_val hS294 rfl rfl rfl (r_move hS294 rfl rfl) fun a295 hS295 => ?_
                    obtain ⟨_, ⟨A297, cap298, A301, cap302, A305, cap306, A309, cap310, rfl, h299, h303, h307, h311⟩, hel296⟩ := El.of hp0 hx40 (by decide)
                    replace hel296 : El w264 g264 C0 A0 (m0_1.toNat * 13) [.int .i64 x39.Parent, .slice A297 x39.Rails.a0.length cap298, .slice A301 x39.Rails.a1.length cap302, .slice A305 x39.Rails.a2.length cap306, .slice A309 x39.Rails.a3.length cap310, .int .i64 x39.Deepest.a0, .int .i64 x39.Deepest.a1, .int .i64 x39.Deepest.a2, .int .i64 x39.Deepest.a3, .int .i64 x39.Deepest.a4, .int .i64 x39.Deepest.a5, .int .i64 x39.WakeDevice, .int .i64 x39.WakeSystem] := hel296
                    refine st_val hS295 rfl rfl rfl (r_index (e := 33) (sz := 13) (by_ := 168) hS295 rfl rfl rfl (by kernel_rfl) (RdS.some_ hp0 hx40) (idx_lo hx40) (idx_hi hx40)) fun a314 hS314 => st_val hS314 rfl rfl rfl (r_fieldE (off := 1) hS314 rfl rfl (by kernel_rfl)) fun a315 hS315 => ?_
                    obtain ⟨A319, cap320, he318, h321⟩ : ∃ (A319 : Option Addr) (cap320 : Nat), (([.int .i64 x39.Parent, .slice A297 x39.Rails.a0.length cap298, .slice A301 x39.Rails.a1.length cap302, .slice A305 x39.Rails.a2.length cap306, .slice A309 x39.Rails.a3.length cap310, .int .i64 x39.Deepest.a0, .int .i64 x39.Deepest.a1, .int .i64 x39.Deepest.a2, .int .i64 x39.Deepest.a3, .int .i64 x39.Deepest.a4, .int .i64 x39.Deepest.a5, .int .i64 x39.WakeDevice, .int .i64 x39.WakeSystem] : List Value).drop (1 + m1_1.toNat * 1)).take 1 = [.slice A319 x316.length cap320] ∧ RdS (kint .i64) w264 g264 C0 A319 cap320 x316 := by
                      rcases Ar4.cases hx317 with ⟨e, e2⟩ | ⟨e, e2⟩ | ⟨e, e2⟩ | ⟨e, e2⟩
                      · subst e2; exact ⟨A297, cap298, (by rw [e] <;> rfl), h299⟩
                      · subst e2; exact ⟨A301, cap302, (by rw [e] <;> rfl), h303⟩
                      · subst e2; exact ⟨A305, cap306, (by rw [e] <;> rfl), h307⟩
                      · subst e2; exact ⟨A309, cap310, (by rw [e] <;> rfl), h311⟩
                    refine st_val hS315 rfl rfl rfl (r_ixE (n := 4) (e := 29) (sz := 1) (bb := false) hS315 rfl rfl rfl (by kernel_rfl) (idx_lo hx317) (Ar4.lt hx317)) fun a324 hS324 => st_val hS324 rfl rfl rfl (r_load1 (n := 1) hS324 rfl rfl (by kernel_rfl) (El.at_ (j := 0) hel296 he318 rfl)) fun a325 hS325 => st_val hS325 rfl rfl rfl (r_move hS325 rfl rfl) fun a326 hS326 => ?_
                    refine st_enter hS326 rfl rfl rfl (r_call hS326 rfl rfl (by kernel_rfl)) (law27_ascending.calls (C0 := C0) (p0 := x316) (p1 := p1) (g := g264) (N + 8) (N + 2) h321 (fun q (hq : C0 q) => by have := hC0 q hq; omega) (by omega) hr328) ?_
                    rintro _ a333 w334 ⟨g334, A329, cap330, rfl, h331, F334⟩ hS333
                    replace h299 := RdS.fr h299 F334 (by decide) (fun q (hq : C0 q) (hm : (N + 2 ≤ q ∧ q < N + 2 + 2) ∨ N + 8 ≤ q) => by have := hC0 q hq; omega)
                    replace h303 := RdS.fr h303 F334 (by decide) (fun q (hq : C0 q) (hm : (N + 2 ≤ q ∧ q < N + 2 + 2) ∨ N + 8 ≤ q) => by have := hC0 q hq; omega)
                    replace h307 := RdS.fr h307 F334 (by decide) (fun q (hq : C0 q) (hm : (N + 2 ≤ q ∧ q < N + 2 + 2) ∨ N + 8 ≤ q) => by have := hC0 q hq; omega)
                    replace h311 := RdS.fr h311 F334 (by decide) (fun q (hq : C0 q) (hm : (N + 2 ≤ q ∧ q < N + 2 + 2) ∨ N + 8 ≤ q) => by have := hC0 q hq; omega)
                    replace hel296 := hel296.fr F334 (fun q (hq : C0 q) (hm : (N + 2 ≤ q ∧ q < N + 2 + 2) ∨ N + 8 ≤ q) => by have := hC0 q hq; omega)
                    replace h321 := RdS.fr h321 F334 (by decide) (fun q (hq : C0 q) (hm : (N + 2 ≤ q ∧ q < N + 2 + 2) ∨ N + 8 ≤ q) => by have := hC0 q hq; omega)
                    replace h267 := RdS.fr h267 F334 (by decide) (fun q (hq : q = N + 4 + 1) (hm : (N + 2 ≤ q ∧ q < N + 2 + 2) ∨ N + 8 ≤ q) => by omega)
                    replace h270 := RdS.fr h270 F334 (by decide) (fun q (hq : q = N + 4 + 1) (hm : (N + 2 ≤ q ∧ q < N + 2 + 2) ∨ N + 8 ≤ q) => by omega)
                    replace h273 := RdS.fr h273 F334 (by decide) (fun q (hq : q = N + 4 + 1) (hm : (N + 2 ≤ q ∧ q < N + 2 + 2) ∨ N + 8 ≤ q) => by omega)
                    replace h276 := RdS.fr h276 F334 (by decide) (fun q (hq : q = N + 4 + 1) (hm : (N + 2 ≤ q ∧ q < N + 2 + 2) ∨ N + 8 ≤ q) => by omega)
                    replace h14 := OwS.fr h14 F334 (fun c' hc (hm : (N + 2 ≤ c' ∧ c' < N + 2 + 2) ∨ N + 8 ≤ c') => by omega)
                    replace h158 := h158.fr F334 (fun (hm : (N + 2 ≤ N + 0 ∧ N + 0 < N + 2 + 2) ∨ N + 8 ≤ N + 0) => by omega)
                    replace hp0 := RdS.fr hp0 F334 (by decide) (fun q (hq : C0 q) (hm : (N + 2 ≤ q ∧ q < N + 2 + 2) ∨ N + 8 ≤ q) => by have := hC0 q hq; omega)
                    replace hF := hF.trans F334 (fun c' (hm : (N + 2 ≤ c' ∧ c' < N + 2 + 2) ∨ N + 8 ≤ c') => by show (r0 ≤ c' ∧ c' < r0 + 2) ∨ N ≤ c'; omega)
                    refine st_val hS333 rfl rfl rfl (r_fieldB (off := 1) hS333 rfl rfl (by kernel_rfl)) fun a335 hS335 => ?_
                    obtain ⟨A339, cap340, he338, h341⟩ : ∃ (A339 : Option Addr) (cap340 : Nat), (([.int .i64 m1_0.Parent, .slice A265 m1_0.Rails.a0.length cap266, .slice A268 m1_0.Rails.a1.length cap269, .slice A271 m1_0.Rails.a2.length cap272, .slice A274 m1_0.Rails.a3.length cap275, .int .i64 m1_0.Deepest.a0, .int .i64 m1_0.Deepest.a1, .int .i64 m1_0.Deepest.a2, .int .i64 m1_0.Deepest.a3, .int .i64 m1_0.Deepest.a4, .int .i64 m1_0.Deepest.a5, .int .i64 m1_0.WakeDevice, .int .i64 m1_0.WakeSystem] : List Value).drop (1 + m1_1.toNat * 1)).take 1 = [.slice A339 x336.length cap340] ∧ RdS (kint .i64) w334 g334 (fun q => q = N + 4 + 1) A339 cap340 x336 := by
                      rcases Ar4.cases hx337 with ⟨e, e2⟩ | ⟨e, e2⟩ | ⟨e, e2⟩ | ⟨e, e2⟩
                      · subst e2; exact ⟨A265, cap266, (by rw [e] <;> rfl), h267⟩
                      · subst e2; exact ⟨A268, cap269, (by rw [e] <;> rfl), h270⟩
                      · subst e2; exact ⟨A271, cap272, (by rw [e] <;> rfl), h273⟩
                      · subst e2; exact ⟨A274, cap275, (by rw [e] <;> rfl), h276⟩
                    refine st_val hS335 rfl rfl rfl (r_ixB (n := 4) (e := 29) (sz := 1) (bb := false) hS335 rfl rfl rfl (by kernel_rfl) (idx_lo hx337) (Ar4.lt hx337)) fun a344 hS344 => ?_
                    have F347 : Fr (fun q => q = N + 2) w334 g334 w334 (recol g334 (N + 2) (N + 4 + 1)) := Fr.recol w334 g334 (N + 2) (N + 4 + 1) rfl
                    replace h299 := RdS.fr h299 F347 (by decide) (fun q (hq : C0 q) (hm : q = N + 2) => by have := hC0 q hq; omega)
                    replace h303 := RdS.fr h303 F347 (by decide) (fun q (hq : C0 q) (hm : q = N + 2) => by have := hC0 q hq; omega)
                    replace h307 := RdS.fr h307 F347 (by decide) (fun q (hq : C0 q) (hm : q = N + 2) => by have := hC0 q hq; omega)
                    replace h311 := RdS.fr h311 F347 (by decide) (fun q (hq : C0 q) (hm : q = N + 2) => by have := hC0 q hq; omega)
                    replace hel296 := hel296.fr F347 (fun q (hq : C0 q) (hm : q = N + 2) => by have := hC0 q hq; omega)
                    replace h321 := RdS.fr h321 F347 (by decide) (fun q (hq : C0 q) (hm : q = N + 2) => by have := hC0 q hq; omega)
                    replace h331 : RdS (kint .i64) w334 (recol g334 (N + 2) (N + 4 + 1)) (fun q => q = N + 4 + 1) A329 cap330 r327 := RdS.recolC (OwD.rdf (fun _ _ _ _ _ _ h => h) h331) (by decide) (N + 2) (N + 4 + 1) (fun q (hq : q = N + 2) => show (fun q => q = N + 4 + 1) (if q = N + 2 then N + 4 + 1 else q) from (by rw [if_pos hq] <;> exact rfl))
                    replace h341 := RdS.fr h341 F347 (by decide) (fun q (hq : q = N + 4 + 1) (hm : q = N + 2) => by omega)
                    replace h267 := RdS.fr h267 F347 (by decide) (fun q (hq : q = N + 4 + 1) (hm : q = N + 2) => by omega)
                    replace h270 := RdS.fr h270 F347 (by decide) (fun q (hq : q = N + 4 + 1) (hm : q = N + 2) => by omega)
                    replace h273 := RdS.fr h273 F347 (by decide) (fun q (hq : q = N + 4 + 1) (hm : q = N + 2) => by omega)
                    replace h276 := RdS.fr h276 F347 (by decide) (fun q (hq : q = N + 4 + 1) (hm : q = N + 2) => by omega)
                    replace h14 := OwS.fr h14 F347 (fun c' hc (hm : c' = N + 2) => by omega)
                    replace h158 := h158.fr F347 (fun (hm : N + 0 = N + 2) => by omega)
                    replace hp0 := RdS.fr hp0 F347 (by decide) (fun q (hq : C0 q) (hm : q = N + 2) => by have := hC0 q hq; omega)
                    replace hF := hF.trans F347 (fun c' (hm : c' = N + 2) => by show (r0 ≤ c' ∧ c' < r0 + 2) ∨ N ≤ c'; omega)
                    obtain ⟨A348, cap352, A349, cap353, A350, cap354, A351, cap355, hsp360, h356, h357, h358, h359⟩ : ∃ (A348 : Option Addr) (cap352 : Nat) (A349 : Option Addr) (cap353 : Nat) (A350 : Option Addr) (cap354 : Nat) (A351 : Option Addr) (cap355 : Nat), splice ([.int .i64 m1_0.Parent, .slice A265 m1_0.Rails.a0.length cap266, .slice A268 m1_0.Rails.a1.length cap269, .slice A271 m1_0.Rails.a2.length cap272, .slice A274 m1_0.Rails.a3.length cap275, .int .i64 m1_0.Deepest.a0, .int .i64 m1_0.Deepest.a1, .int .i64 m1_0.Deepest.a2, .int .i64 m1_0.Deepest.a3, .int .i64 m1_0.Deepest.a4, .int .i64 m1_0.Deepest.a5, .int .i64 m1_0.WakeDevice, .int .i64 m1_0.WakeSystem] : List Value) (1 + m1_1.toNat * 1) [.slice A329 r327.length cap330] = [.int .i64 m1_0.Parent, .slice A348 y345.a0.length cap352, .slice A349 y345.a1.length cap353, .slice A350 y345.a2.length cap354, .slice A351 y345.a3.length cap355, .int .i64 m1_0.Deepest.a0, .int .i64 m1_0.Deepest.a1, .int .i64 m1_0.Deepest.a2, .int .i64 m1_0.Deepest.a3, .int .i64 m1_0.Deepest.a4, .int .i64 m1_0.Deepest.a5, .int .i64 m1_0.WakeDevice, .int .i64 m1_0.WakeSystem] ∧ RdS (kint .i64) w334 (recol g334 (N + 2) (N + 4 + 1)) (fun q => q = N + 4 + 1) A348 cap352 y345.a0 ∧ RdS (kint .i64) w334 (recol g334 (N + 2) (N + 4 + 1)) (fun q => q = N + 4 + 1) A349 cap353 y345.a1 ∧ RdS (kint .i64) w334 (recol g334 (N + 2) (N + 4 + 1)) (fun q => q = N + 4 + 1) A350 cap354 y345.a2 ∧ RdS (kint .i64) w334 (recol g334 (N + 2) (N + 4 + 1)) (fun q => q = N + 4 + 1) A351 cap355 y345.a3 := by
                      rcases Ar4.put_cases hy346 with ⟨e, e2⟩ | ⟨e, e2⟩ | ⟨e, e2⟩ | ⟨e, e2⟩
                      · subst e2; exact ⟨A329, cap330, A268, cap269, A271, cap272, A274, cap275, (by rw [e] <;> rfl), h331, h270, h273, h276⟩
                      · subst e2; exact ⟨A265, cap266, A329, cap330, A271, cap272, A274, cap275, (by rw [e] <;> rfl), h267, h331, h273, h276⟩
                      · subst e2; exact ⟨A265, cap266, A268, cap269, A329, cap330, A274, cap275, (by rw [e] <;> rfl), h267, h270, h331, h276⟩
                      · subst e2; exact ⟨A265, cap266, A268, cap269, A271, cap272, A329, cap330, (by rw [e] <;> rfl), h267, h270, h273, h331⟩
                    refine st_effS hS344 rfl rfl (e_storeB (n := 1) (bb := false) (cs' := [.int .i64 m1_0.Parent, .slice A348 y345.a0.length cap352, .slice A349 y345.a1.length cap353, .slice A350 y345.a2.length cap354, .slice A351 y345.a3.length cap355, .int .i64 m1_0.Deepest.a0, .int .i64 m1_0.Deepest.a1, .int .i64 m1_0.Deepest.a2, .int .i64 m1_0.Deepest.a3, .int .i64 m1_0.Deepest.a4, .int .i64 m1_0.Deepest.a5, .int .i64 m1_0.WakeDevice, .int .i64 m1_0.WakeSystem]) (recol g334 (N + 2) (N + 4 + 1)) hS344 rfl rfl rfl (by kernel_rfl) rfl rfl rfl h158 (by rcases Ar4.put_cases hy346 with ⟨e, e2⟩ | ⟨e, e2⟩ | ⟨e, e2⟩ | ⟨e, e2⟩ <;> (rw [e] <;> rfl)) hsp360) ?_
                    rintro a365 w366 g366 ⟨h158, F366⟩ hS365
                    replace h299 := RdS.fr h299 F366 (by decide) (fun q (hq : C0 q) (hm : q = N + 0) => by have := hC0 q hq; omega)
                    replace h303 := RdS.fr h303 F366 (by decide) (fun q (hq : C0 q) (hm : q = N + 0) => by have := hC0 q hq; omega)
                    replace h307 := RdS.fr h307 F366 (by decide) (fun q (hq : C0 q) (hm : q = N + 0) => by have := hC0 q hq; omega)
                    replace h311 := RdS.fr h311 F366 (by decide) (fun q (hq : C0 q) (hm : q = N + 0) => by have := hC0 q hq; omega)
                    replace hel296 := hel296.fr F366 (fun q (hq : C0 q) (hm : q = N + 0) => by have := hC0 q hq; omega)
                    replace h321 := RdS.fr h321 F366 (by decide) (fun q (hq : C0 q) (hm : q = N + 0) => by have := hC0 q hq; omega)
                    replace h331 := RdS.fr h331 F366 (by decide) (fun q (hq : q = N + 4 + 1) (hm : q = N + 0) => by omega)
                    replace h341 := RdS.fr h341 F366 (by decide) (fun q (hq : q = N + 4 + 1) (hm : q = N + 0) => by omega)
                    replace h356 := RdS.fr h356 F366 (by decide) (fun q (hq : q = N + 4 + 1) (hm : q = N + 0) => by omega)
                    replace h357 := RdS.fr h357 F366 (by decide) (fun q (hq : q = N + 4 + 1) (hm : q = N + 0) => by omega)
                    replace h358 := RdS.fr h358 F366 (by decide) (fun q (hq : q = N + 4 + 1) (hm : q = N + 0) => by omega)
                    replace h359 := RdS.fr h359 F366 (by decide) (fun q (hq : q = N + 4 + 1) (hm : q = N + 0) => by omega)
                    replace h267 := RdS.fr h267 F366 (by decide) (fun q (hq : q = N + 4 + 1) (hm : q = N + 0) => by omega)
                    replace h270 := RdS.fr h270 F366 (by decide) (fun q (hq : q = N + 4 + 1) (hm : q = N + 0) => by omega)
                    replace h273 := RdS.fr h273 F366 (by decide) (fun q (hq : q = N + 4 + 1) (hm : q = N + 0) => by omega)
                    replace h276 := RdS.fr h276 F366 (by decide) (fun q (hq : q = N + 4 + 1) (hm : q = N + 0) => by omega)
                    replace h14 := OwS.fr h14 F366 (fun c' hc (hm : c' = N + 0) => by omega)
                    replace hp0 := RdS.fr hp0 F366 (by decide) (fun q (hq : C0 q) (hm : q = N + 0) => by have := hC0 q hq; omega)
                    replace hF := hF.trans F366 (fun c' (hm : c' = N + 0) => by show (r0 ≤ c' ∧ c' < r0 + 2) ∨ N ≤ c'; omega)
                    refine wpList_nil (hK _ _ ?_)
                    replace hS : Sl 88 _ [(0, .slice A0 p0.length cap0), (1, .int .i64 p1), (5, .slice A12 m0_0.length cap13), (6, .int .i64 m0_1), (7, .pointer (some ⟨b157, 0, none⟩)), (8, .int .i64 m1_1)] := hS365.re ⟨rfl, rfl, rfl, rfl, rfl, rfl, trivial⟩
                    clear hK K
                    try clear hS292 hS293 hS294 hS295 hS314 hS315 hS324 hS325 hS326 hS333 hS335 hS344 hS365
                    obtain ⟨a, ha⟩ : ∃ a', a' = a365 := ⟨_, rfl⟩
                    rw [← ha] at hS ⊢; clear ha
                    change Code.wp _ _ _ _ _
                    refine c_pure1 [(0, .slice A0 p0.length cap0), (1, .int .i64 p1), (5, .slice A12 m0_0.length cap13), (6, .int .i64 m0_1), (7, .pointer (some ⟨b157, 0, none⟩)), (8, .int .i64 (wi (m1_1 + 1)))] (fun R hR => st_val hS rfl rfl rfl (r_move hS rfl rfl) fun a367 hS367 => st_val hS367 rfl rfl rfl (r_bin hS367 rfl rfl rfl b_add) fun a368 hS368 => st_val hS368 rfl rfl rfl (r_assign hS368 rfl rfl) fun a369 hS369 => wpList_nil (hR _ (hS369.re ⟨rfl, rfl, rfl, rfl, rfl, rfl, trivial⟩))) ?_
                    clear hS
                    clear a
                    intro a hS
                    refine ⟨k277, Nat.lt_succ_self _, ?_⟩
                    exact ⟨(api_PowerDevice.mk m1_0.Parent y345 m1_0.Deepest m1_0.WakeDevice m1_0.WakeSystem), wi (m1_1 + 1), g366, A348, cap352, A349, cap353, A350, cap354, A351, cap355, H, hS.re ⟨rfl, rfl, rfl, rfl, rfl, rfl, trivial⟩, h356, h357, h358, h359, h14, h158, hp0, hF⟩
                  · replace H := ite_f hb291 H
                    refine wp_exit ?_
                    have e := Option.some.inj H
                    subst e
                    exact ⟨g264, A265, cap266, A268, cap269, A271, cap272, A274, cap275, hS.re ⟨rfl, rfl, rfl, rfl, rfl, trivial⟩, h267, h270, h273, h276, h14, h158, hp0, hF⟩
            · clear H
              clear hp0 h14 h158 hF
              clear hS
              rintro a w247 ⟨g247, A248, cap249, A251, cap252, A254, cap255, A257, cap258, hS, h250, h253, h256, h259, h14, h158, hp0, hF⟩
              have H := Hl262
              clear Hl262
              obtain ⟨v371, H, Hl373⟩ := bind_el H
              refine c_cut (fun a w370 => ∃ (g370 : Nat → Nat), Sl 88 a [(0, .slice A0 p0.length cap0), (1, .int .i64 p1), (5, .slice A12 m0_0.length cap13), (6, .int .i64 m0_1), (7, .pointer (some ⟨b157, 0, none⟩))] ∧ RdS (kint .i64) w370 g370 (fun q => q = N + 4 + 1) A248 cap249 v371.Rails.a0 ∧ RdS (kint .i64) w370 g370 (fun q => q = N + 4 + 1) A251 cap252 v371.Rails.a1 ∧ RdS (kint .i64) w370 g370 (fun q => q = N + 4 + 1) A254 cap255 v371.Rails.a2 ∧ RdS (kint .i64) w370 g370 (fun q => q = N + 4 + 1) A257 cap258 v371.Rails.a3 ∧ OwS kd_api_PowerDevice 33 w370 g370 (N + 4) A12 cap13 m0_0 ∧ Bx w370 g370 (N + 0) b157 33 [.int .i64 v371.Parent, .slice A248 v371.Rails.a0.length cap249, .slice A251 v371.Rails.a1.length cap252, .slice A254 v371.Rails.a2.length cap255, .slice A257 v371.Rails.a3.length cap258, .int .i64 v371.Deepest.a0, .int .i64 v371.Deepest.a1, .int .i64 v371.Deepest.a2, .int .i64 v371.Deepest.a3, .int .i64 v371.Deepest.a4, .int .i64 v371.Deepest.a5, .int .i64 v371.WakeDevice, .int .i64 v371.WakeSystem] ∧ RdS kd_api_PowerDevice w370 g370 C0 A0 cap0 p0 ∧ Fr (fun q => (r0 ≤ q ∧ q < r0 + 2) ∨ N ≤ q) w g w370 g370) ?_ ?_
              · refine c_pure [(0, .slice A0 p0.length cap0), (1, .int .i64 p1), (5, .slice A12 m0_0.length cap13), (6, .int .i64 m0_1), (7, .pointer (some ⟨b157, 0, none⟩)), (9, .int .i64 1)] (fun R hR => st_val hS rfl rfl rfl (r_assign hS rfl rfl) fun a374 hS374 => wpList_nil (hR _ (hS374.re ⟨rfl, rfl, rfl, rfl, rfl, rfl, trivial⟩))) ?_
                clear hS
                clear a
                intro a hS
                refine wp_block ?_
                refine wp_loop_ghost (fun kq => fun a w375 => ∃ (m2_0 : api_PowerDevice), ∃ (m2_1 : Int), ∃ (g375 : Nat → Nat), law27_Some.l2 x39 kq m2_0 m2_1 = some v371 ∧ Sl 88 a [(0, .slice A0 p0.length cap0), (1, .int .i64 p1), (5, .slice A12 m0_0.length cap13), (6, .int .i64 m0_1), (7, .pointer (some ⟨b157, 0, none⟩)), (9, .int .i64 m2_1)] ∧ RdS (kint .i64) w375 g375 (fun q => q = N + 4 + 1) A248 cap249 m2_0.Rails.a0 ∧ RdS (kint .i64) w375 g375 (fun q => q = N + 4 + 1) A251 cap252 m2_0.Rails.a1 ∧ RdS (kint .i64) w375 g375 (fun q => q = N + 4 + 1) A254 cap255 m2_0.Rails.a2 ∧ RdS (kint .i64) w375 g375 (fun q => q = N + 4 + 1) A257 cap258 m2_0.Rails.a3 ∧ OwS kd_api_PowerDevice 33 w375 g375 (N + 4) A12 cap13 m0_0 ∧ Bx w375 g375 (N + 0) b157 33 [.int .i64 m2_0.Parent, .slice A248 m2_0.Rails.a0.length cap249, .slice A251 m2_0.Rails.a1.length cap252, .slice A254 m2_0.Rails.a2.length cap255, .slice A257 m2_0.Rails.a3.length cap258, .int .i64 m2_0.Deepest.a0, .int .i64 m2_0.Deepest.a1, .int .i64 m2_0.Deepest.a2, .int .i64 m2_0.Deepest.a3, .int .i64 m2_0.Deepest.a4, .int .i64 m2_0.Deepest.a5, .int .i64 m2_0.WakeDevice, .int .i64 m2_0.WakeSystem] ∧ RdS kd_api_PowerDevice w375 g375 C0 A0 cap0 p0 ∧ Fr (fun q => (r0 ≤ q ∧ q < r0 + 2) ∨ N ≤ q) w g w375 g375) FUEL ?_ ?_
                · exact ⟨v260, 1, g247, H, hS.re ⟨rfl, rfl, rfl, rfl, rfl, rfl, trivial⟩, h250, h253, h256, h259, h14, h158, hp0, hF⟩
                · clear H
                  clear hp0 h14 h158 h250 h253 h256 h259 hF
                  clear hS
                  rintro k376 a w375 ⟨m2_0, m2_1, g375, hpre0, hS, h250, h253, h256, h259, h14, h158, hp0, hF⟩
                  have H := hpre0
                  clear hpre0
                  cases k376 with
                  | zero => exact absurd H (by simp [law27_Some.l2])
                  | succ k376 =>
                    rw [law27_Some.l2] at H
                    refine wp_seq ?_
                    refine c_pure [(0, .slice A0 p0.length cap0), (1, .int .i64 p1), (5, .slice A12 m0_0.length cap13), (6, .int .i64 m0_1), (7, .pointer (some ⟨b157, 0, none⟩)), (9, .int .i64 m2_1), (63, .bool (decide (m2_1 < 6)))] (fun R hR => st_val hS rfl rfl rfl (r_move hS rfl rfl) fun a377 hS377 => st_val hS377 rfl rfl rfl (r_bin hS377 rfl rfl rfl b_lss) fun a378 hS378 => wpList_nil (hR _ (hS378.re ⟨rfl, rfl, rfl, rfl, rfl, rfl, rfl, trivial⟩))) ?_
                    clear hS
                    clear a
                    intro a hS
                    refine c_cond hS rfl (fun hb379 => ?_) (fun hb379 => ?_)
                    · replace H := ite_t hb379 H
                      refine wp_skip ?_
                      change Code.wp _ _ _ _ _
                      refine wp_seq ?_
                      refine wp_block ?_
                      obtain ⟨x380, hx381, H⟩ := bind_el H
                      obtain ⟨x402, hx403, H⟩ := bind_el H
                      obtain ⟨r406, hr407, H⟩ := bind_el H
                      obtain ⟨x408, hx409, H⟩ := bind_el H
                      obtain ⟨y412, hy413, H⟩ := bind_el H
                      refine c_draw1 (fun K hK => d_start (fun q => N + 8 ≤ q) g375 [17] 18 #[false, false, false, false, false, false, false, false, false, false, false, false, false, false, false, false, false, false] (by kernel_rfl) rfl rfl (fun w414 hw414 => ?_))
                      have F414 : Fr (fun _ => False) w375 g375 w414 g375 := by rw [hw414]; exact Fr.drew _ _ _
                      replace h250 := RdS.fr h250 F414 (by decide) (fun _ _ h => h)
                      replace h253 := RdS.fr h253 F414 (by decide) (fun _ _ h => h)
                      replace h256 := RdS.fr h256 F414 (by decide) (fun _ _ h => h)
                      replace h259 := RdS.fr h259 F414 (by decide) (fun _ _ h => h)
                      replace h14 := OwS.fr h14 F414 (fun _ _ h => h)
                      replace h158 := h158.fr F414 (fun h => h)
                      replace hp0 := RdS.fr hp0 F414 (by decide) (fun _ _ h => h)
                      replace hF := hF.trans F414 (fun _ h => h.elim)
                      have hC : Fr (fun q => N + 8 ≤ q) w414 g375 w414 g375 := Fr.refl _ _ _
                      refine d_pure hS 0 #[true, false, false, false, false, false, false, false, false, false, false, false, false, false, false, false, false, false] rfl rfl rfl rfl (by kernel_rfl) (fun _ _ _ h => h) (fun _ => (r_move hS rfl rfl)) fun a415 hS415 => d_pure hS415 1 #[true, true, false, false, false, false, false, false, false, false, false, false, false, false, false, false, false, false] rfl rfl rfl rfl (by kernel_rfl) (fun _ _ _ h => h) (fun _ => (r_move hS415 rfl rfl)) fun a416 hS416 => d_pure hS416 2 #[true, true, true, false, false, false, false, false, false, false, false, false, false, false, false, false, false, false] rfl rfl rfl rfl (by kernel_rfl) (fun _ _ _ h => h) (fun _ => (r_bin hS416 rfl rfl rfl b_sub)) fun a417 hS417 => d_pure hS417 3 #[true, true, true, true, false, false, false, false, false, false, false, false, false, false, false, false, false, false] rfl rfl rfl rfl (by kernel_rfl) (fun _ _ _ h => h) (fun _ => (r_fieldB (off := 5) hS417 rfl rfl (by kernel_rfl))) fun a418 hS418 => ?_
                      have he419 : (([.int .i64 m2_0.Parent, .slice A248 m2_0.Rails.a0.length cap249, .slice A251 m2_0.Rails.a1.length cap252, .slice A254 m2_0.Rails.a2.length cap255, .slice A257 m2_0.Rails.a3.length cap258, .int .i64 m2_0.Deepest.a0, .int .i64 m2_0.Deepest.a1, .int .i64 m2_0.Deepest.a2, .int .i64 m2_0.Deepest.a3, .int .i64 m2_0.Deepest.a4, .int .i64 m2_0.Deepest.a5, .int .i64 m2_0.WakeDevice, .int .i64 m2_0.WakeSystem] : List Value).drop (5 + (wi (m2_1 - 1)).toNat * 1)).take 1 = [.int .i64 x380] := by rcases Ar6.cases hx381 with ⟨e, e2⟩ | ⟨e, e2⟩ | ⟨e, e2⟩ | ⟨e, e2⟩ | ⟨e, e2⟩ | ⟨e, e2⟩ <;> (rw [e, e2] <;> rfl)
                      refine d_pure hS418 4 #[true, true, true, true, true, false, false, false, false, false, false, false, false, false, false, false, false, false] rfl rfl rfl rfl (by kernel_rfl) (fun _ _ _ h => h) (fun _ => (r_ixB (n := 6) (e := 3) (sz := 1) (bb := false) hS418 rfl rfl rfl (by kernel_rfl) (idx_lo hx381) (Ar6.lt hx381))) fun a421 hS421 => d_take hS421 5 #[true, true, true, true, true, true, false, false, false, false, false, false, false, false, false, false, false, false] rfl rfl rfl rfl (by kernel_rfl) (fun _ _ _ h => h) ⟨_, hC⟩ (fun w' g' Fz => (r_load1 (n := 1) hS421 rfl rfl (by kernel_rfl) (Bx.at_ (j := 0) (h158.fr Fz (fun (hm : N + 8 ≤ N + 0) => by omega)) he419 rfl))) fun a422 hS422 => d_pure hS422 6 #[true, true, true, true, true, true, true, false, false, false, false, false, false, false, false, false, false, false] rfl rfl rfl rfl (by kernel_rfl) (fun _ _ _ h => h) (fun _ => (r_move hS422 rfl rfl)) fun a423 hS423 => d_pure hS423 7 #[true, true, true, true, true, true, true, true, false, false, false, false, false, false, false, false, false, false] rfl rfl rfl rfl (by kernel_rfl) (fun _ _ _ h => h) (fun _ => (r_move hS423 rfl rfl)) fun a424 hS424 => d_pure hS424 8 #[true, true, true, true, true, true, true, true, true, false, false, false, false, false, false, false, false, false] rfl rfl rfl rfl (by kernel_rfl) (fun _ _ _ h => h) (fun _ => (r_move hS424 rfl rfl)) fun a425 hS425 => ?_
                      obtain ⟨_, ⟨A427, cap428, A431, cap432, A435, cap436, A439, cap440, rfl, h429, h433, h437, h441⟩, hel426⟩ := El.of hp0 hx40 (by decide)
                      replace hel426 : El w414 g375 C0 A0 (m0_1.toNat * 13) [.int .i64 x39.Parent, .slice A427 x39.Rails.a0.length cap428, .slice A431 x39.Rails.a1.length cap432, .slice A435 x39.Rails.a2.length cap436, .slice A439 x39.Rails.a3.length cap440, .int .i64 x39.Deepest.a0, .int .i64 x39.Deepest.a1, .int .i64 x39.Deepest.a2, .int .i64 x39.Deepest.a3, .int .i64 x39.Deepest.a4, .int .i64 x39.Deepest.a5, .int .i64 x39.WakeDevice, .int .i64 x39.WakeSystem] := hel426
                      refine d_pure hS425 9 #[true, true, true, true, true, true, true, true, true, true, false, false, false, false, false, false, false, false] rfl rfl rfl rfl (by kernel_rfl) (fun _ _ _ h => h) (fun _ => (r_index (e := 33) (sz := 13) (by_ := 168) hS425 rfl rfl rfl (by kernel_rfl) (RdS.some_ hp0 hx40) (idx_lo hx40) (idx_hi hx40))) fun a444 hS444 => d_pure hS444 10 #[true, true, true, true, true, true, true, true, true, true, true, false, false, false, false, false, false, false] rfl rfl rfl rfl (by kernel_rfl) (fun _ _ _ h => h) (fun _ => (r_fieldE (off := 5) hS444 rfl rfl (by kernel_rfl))) fun a445 hS445 => ?_
                      have he446 : (([.int .i64 x39.Parent, .slice A427 x39.Rails.a0.length cap428, .slice A431 x39.Rails.a1.length cap432, .slice A435 x39.Rails.a2.length cap436, .slice A439 x39.Rails.a3.length cap440, .int .i64 x39.Deepest.a0, .int .i64 x39.Deepest.a1, .int .i64 x39.Deepest.a2, .int .i64 x39.Deepest.a3, .int .i64 x39.Deepest.a4, .int .i64 x39.Deepest.a5, .int .i64 x39.WakeDevice, .int .i64 x39.WakeSystem] : List Value).drop (5 + m2_1.toNat * 1)).take 1 = [.int .i64 x402] := by rcases Ar6.cases hx403 with ⟨e, e2⟩ | ⟨e, e2⟩ | ⟨e, e2⟩ | ⟨e, e2⟩ | ⟨e, e2⟩ | ⟨e, e2⟩ <;> (rw [e, e2] <;> rfl)
                      refine d_pure hS445 11 #[true, true, true, true, true, true, true, true, true, true, true, true, false, false, false, false, false, false] rfl rfl rfl rfl (by kernel_rfl) (fun _ _ _ h => h) (fun _ => (r_ixE (n := 6) (e := 3) (sz := 1) (bb := false) hS445 rfl rfl rfl (by kernel_rfl) (idx_lo hx403) (Ar6.lt hx403))) fun a448 hS448 => d_take hS448 12 #[true, true, true, true, true, true, true, true, true, true, true, true, true, false, false, false, false, false] rfl rfl rfl rfl (by kernel_rfl) (fun _ _ _ h => h) ⟨_, hC⟩ (fun w' g' Fz => (r_load1 (n := 1) hS448 rfl rfl (by kernel_rfl) (El.at_ (j := 0) (hel426.fr Fz (fun q (hq : C0 q) (hm : N + 8 ≤ q) => by have := hC0 q hq; omega)) he446 rfl))) fun a449 hS449 => d_pure hS449 15 #[true, true, true, true, true, true, true, true, true, true, true, true, true, false, false, true, false, false] rfl rfl rfl rfl (by kernel_rfl) (fun _ _ _ h => h) (fun _ => (r_fieldB (off := 5) hS449 rfl rfl (by kernel_rfl))) fun a450 hS450 => ?_
                      refine d_one 13 #[true, true, true, true, true, true, true, true, true, true, true, true, true, true, false, true, false, false] rfl (by kernel_rfl) (arm_call hS450 rfl rfl rfl (r_call hS450 rfl rfl (by kernel_rfl)) (help_Mod.calls (p0 := x402) (p1 := 5) (g := g375) (N + 8)   hr407) (fun _ _ ⟨g', _, Fz⟩ _ => ⟨g', hC.trans Fz (fun c' (hm : N + 8 ≤ c') => by show N + 8 ≤ c'; omega)⟩) ?_)
                      rintro _ a451 w452 ⟨g452, rfl, F452⟩ hS451
                      have hC452 := hC.trans F452 (fun c' (hm : N + 8 ≤ c') => by show N + 8 ≤ c'; omega)
                      replace h429 := RdS.fr h429 F452 (by decide) (fun q (hq : C0 q) (hm : N + 8 ≤ q) => by have := hC0 q hq; omega)
                      replace h433 := RdS.fr h433 F452 (by decide) (fun q (hq : C0 q) (hm : N + 8 ≤ q) => by have := hC0 q hq; omega)
                      replace h437 := RdS.fr h437 F452 (by decide) (fun q (hq : C0 q) (hm : N + 8 ≤ q) => by have := hC0 q hq; omega)
                      replace h441 := RdS.fr h441 F452 (by decide) (fun q (hq : C0 q) (hm : N + 8 ≤ q) => by have := hC0 q hq; omega)
                      replace hel426 := hel426.fr F452 (fun q (hq : C0 q) (hm : N + 8 ≤ q) => by have := hC0 q hq; omega)
                      replace h250 := RdS.fr h250 F452 (by decide) (fun q (hq : q = N + 4 + 1) (hm : N + 8 ≤ q) => by omega)
                      replace h253 := RdS.fr h253 F452 (by decide) (fun q (hq : q = N + 4 + 1) (hm : N + 8 ≤ q) => by omega)
                      replace h256 := RdS.fr h256 F452 (by decide) (fun q (hq : q = N + 4 + 1) (hm : N + 8 ≤ q) => by omega)
                      replace h259 := RdS.fr h259 F452 (by decide) (fun q (hq : q = N + 4 + 1) (hm : N + 8 ≤ q) => by omega)
                      replace h14 := OwS.fr h14 F452 (fun c' hc (hm : N + 8 ≤ c') => by omega)
                      replace h158 := h158.fr F452 (fun (hm : N + 8 ≤ N + 0) => by omega)
                      replace hp0 := RdS.fr hp0 F452 (by decide) (fun q (hq : C0 q) (hm : N + 8 ≤ q) => by have := hC0 q hq; omega)
                      replace hF := hF.trans F452 (fun c' (hm : N + 8 ≤ c') => by show (r0 ≤ c' ∧ c' < r0 + 2) ∨ N ≤ c'; omega)
                      refine d_pure hS451 14 #[true, true, true, true, true, true, true, true, true, true, true, true, true, true, true, true, false, false] rfl rfl rfl rfl (by kernel_rfl) (fun _ _ _ h => h) (fun _ => (r_max hS451 rfl rfl rfl)) fun a453 hS453 => ?_
                      have he454 : (([.int .i64 m2_0.Parent, .slice A248 m2_0.Rails.a0.length cap249, .slice A251 m2_0.Rails.a1.length cap252, .slice A254 m2_0.Rails.a2.length cap255, .slice A257 m2_0.Rails.a3.length cap258, .int .i64 m2_0.Deepest.a0, .int .i64 m2_0.Deepest.a1, .int .i64 m2_0.Deepest.a2, .int .i64 m2_0.Deepest.a3, .int .i64 m2_0.Deepest.a4, .int .i64 m2_0.Deepest.a5, .int .i64 m2_0.WakeDevice, .int .i64 m2_0.WakeSystem] : List Value).drop (5 + m2_1.toNat * 1)).take 1 = [.int .i64 x408] := by rcases Ar6.cases hx409 with ⟨e, e2⟩ | ⟨e, e2⟩ | ⟨e, e2⟩ | ⟨e, e2⟩ | ⟨e, e2⟩ | ⟨e, e2⟩ <;> (rw [e, e2] <;> rfl)
                      refine d_pure hS453 16 #[true, true, true, true, true, true, true, true, true, true, true, true, true, true, true, true, true, false] rfl rfl rfl rfl (by kernel_rfl) (fun _ _ _ h => h) (fun _ => (r_ixB (n := 6) (e := 3) (sz := 1) (bb := false) hS453 rfl rfl rfl (by kernel_rfl) (idx_lo hx409) (Ar6.lt hx409))) fun a456 hS456 => ?_
                      refine d_one 17 #[true, true, true, true, true, true, true, true, true, true, true, true, true, true, true, true, true, true] rfl (by kernel_rfl) (arm_effS hS456 rfl rfl (e_storeB (n := 1) (bb := false) (cs' := [.int .i64 m2_0.Parent, .slice A248 m2_0.Rails.a0.length cap249, .slice A251 m2_0.Rails.a1.length cap252, .slice A254 m2_0.Rails.a2.length cap255, .slice A257 m2_0.Rails.a3.length cap258, .int .i64 y412.a0, .int .i64 y412.a1, .int .i64 y412.a2, .int .i64 y412.a3, .int .i64 y412.a4, .int .i64 y412.a5, .int .i64 m2_0.WakeDevice, .int .i64 m2_0.WakeSystem]) g452 hS456 rfl rfl rfl (by kernel_rfl) rfl rfl rfl h158 (by rcases Ar6.put_cases hy413 with ⟨e, e2⟩ | ⟨e, e2⟩ | ⟨e, e2⟩ | ⟨e, e2⟩ | ⟨e, e2⟩ | ⟨e, e2⟩ <;> (rw [e] <;> rfl)) (by rcases Ar6.put_cases hy413 with ⟨e, e2⟩ | ⟨e, e2⟩ | ⟨e, e2⟩ | ⟨e, e2⟩ | ⟨e, e2⟩ | ⟨e, e2⟩ <;> (rw [e, e2] <;> rfl))) (.inl (by decide)) ?_)
                      rintro a457 w458 g458 ⟨h158, F458⟩ hS457
                      replace h429 := RdS.fr h429 F458 (by decide) (fun q (hq : C0 q) (hm : q = N + 0) => by have := hC0 q hq; omega)
                      replace h433 := RdS.fr h433 F458 (by decide) (fun q (hq : C0 q) (hm : q = N + 0) => by have := hC0 q hq; omega)
                      replace h437 := RdS.fr h437 F458 (by decide) (fun q (hq : C0 q) (hm : q = N + 0) => by have := hC0 q hq; omega)
                      replace h441 := RdS.fr h441 F458 (by decide) (fun q (hq : C0 q) (hm : q = N + 0) => by have := hC0 q hq; omega)
                      replace hel426 := hel426.fr F458 (fun q (hq : C0 q) (hm : q = N + 0) => by have := hC0 q hq; omega)
                      replace h250 := RdS.fr h250 F458 (by decide) (fun q (hq : q = N + 4 + 1) (hm : q = N + 0) => by omega)
                      replace h253 := RdS.fr h253 F458 (by decide) (fun q (hq : q = N + 4 + 1) (hm : q = N + 0) => by omega)
                      replace h256 := RdS.fr h256 F458 (by decide) (fun q (hq : q = N + 4 + 1) (hm : q = N + 0) => by omega)
                      replace h259 := RdS.fr h259 F458 (by decide) (fun q (hq : q = N + 4 + 1) (hm : q = N + 0) => by omega)
                      replace h14 := OwS.fr h14 F458 (fun c' hc (hm : c' = N + 0) => by omega)
                      replace hp0 := RdS.fr hp0 F458 (by decide) (fun q (hq : C0 q) (hm : q = N + 0) => by have := hC0 q hq; omega)
                      replace hF := hF.trans F458 (fun c' (hm : c' = N + 0) => by show (r0 ≤ c' ∧ c' < r0 + 2) ∨ N ≤ c'; omega)
                      refine d_done (by kernel_rfl) (hK _ _ ?_)
                      replace hS : Sl 88 _ [(0, .slice A0 p0.length cap0), (1, .int .i64 p1), (5, .slice A12 m0_0.length cap13), (6, .int .i64 m0_1), (7, .pointer (some ⟨b157, 0, none⟩)), (9, .int .i64 m2_1)] := hS457.re ⟨rfl, rfl, rfl, rfl, rfl, rfl, trivial⟩
                      clear hK K hC
                      try clear hS415 hS416 hS417 hS418 hS421 hS422 hS423 hS424 hS425 hS444 hS445 hS448 hS449 hS450 hS451 hS453 hS456 hS457
                      obtain ⟨a, ha⟩ : ∃ a', a' = a457 := ⟨_, rfl⟩
                      rw [← ha] at hS ⊢; clear ha
                      change Code.wp _ _ _ _ _
                      refine c_pure1 [(0, .slice A0 p0.length cap0), (1, .int .i64 p1), (5, .slice A12 m0_0.length cap13), (6, .int .i64 m0_1), (7, .pointer (some ⟨b157, 0, none⟩)), (9, .int .i64 (wi (m2_1 + 1)))] (fun R hR => st_val hS rfl rfl rfl (r_move hS rfl rfl) fun a459 hS459 => st_val hS459 rfl rfl rfl (r_bin hS459 rfl rfl rfl b_add) fun a460 hS460 => st_val hS460 rfl rfl rfl (r_assign hS460 rfl rfl) fun a461 hS461 => wpList_nil (hR _ (hS461.re ⟨rfl, rfl, rfl, rfl, rfl, rfl, trivial⟩))) ?_
                      clear hS
                      clear a
                      intro a hS
                      refine ⟨k376, Nat.lt_succ_self _, ?_⟩
                      exact ⟨(api_PowerDevice.mk m2_0.Parent m2_0.Rails y412 m2_0.WakeDevice m2_0.WakeSystem), wi (m2_1 + 1), g458, H, hS.re ⟨rfl, rfl, rfl, rfl, rfl, rfl, trivial⟩, h250, h253, h256, h259, h14, h158, hp0, hF⟩
                    · replace H := ite_f hb379 H
                      refine wp_exit ?_
                      have e := Option.some.inj H
                      subst e
                      exact ⟨g375, hS.re ⟨rfl, rfl, rfl, rfl, rfl, trivial⟩, h250, h253, h256, h259, h14, h158, hp0, hF⟩
              · clear H
                clear hp0 h14 h158 h250 h253 h256 h259 hF
                clear hS
                rintro a w370 ⟨g370, hS, h250, h253, h256, h259, h14, h158, hp0, hF⟩
                have H := Hl373
                clear Hl373
                obtain ⟨y469, hy470, H⟩ := bind_el H
                refine c_region1 (fun K hK => ?_)
                refine st_val hS rfl rfl rfl (r_move hS rfl rfl) fun a462 hS462 => st_val hS462 rfl rfl rfl (r_loadN (n := 13) (cs := [.int .i64 v371.Parent, .slice A248 v371.Rails.a0.length cap249, .slice A251 v371.Rails.a1.length cap252, .slice A254 v371.Rails.a2.length cap255, .slice A257 v371.Rails.a3.length cap258, .int .i64 v371.Deepest.a0, .int .i64 v371.Deepest.a1, .int .i64 v371.Deepest.a2, .int .i64 v371.Deepest.a3, .int .i64 v371.Deepest.a4, .int .i64 v371.Deepest.a5, .int .i64 v371.WakeDevice, .int .i64 v371.WakeSystem]) hS462 rfl rfl (by kernel_rfl) rfl (Bx.cells_off h158 0 13)) fun a463 hS463 => ?_
                refine st_eff hS463 rfl rfl rfl (e_litD (D := (fun q => q = N + 4 + 1)) (e := 33) (parts := [(0, .agg #[.int .i64 v371.Parent, .slice A248 v371.Rails.a0.length cap249, .slice A251 v371.Rails.a1.length cap252, .slice A254 v371.Rails.a2.length cap255, .slice A257 v371.Rails.a3.length cap258, .int .i64 v371.Deepest.a0, .int .i64 v371.Deepest.a1, .int .i64 v371.Deepest.a2, .int .i64 v371.Deepest.a3, .int .i64 v371.Deepest.a4, .int .i64 v371.Deepest.a5, .int .i64 v371.WakeDevice, .int .i64 v371.WakeSystem])]) (cs := [.int .i64 v371.Parent, .slice A248 v371.Rails.a0.length cap249, .slice A251 v371.Rails.a1.length cap252, .slice A254 v371.Rails.a2.length cap255, .slice A257 v371.Rails.a3.length cap258, .int .i64 v371.Deepest.a0, .int .i64 v371.Deepest.a1, .int .i64 v371.Deepest.a2, .int .i64 v371.Deepest.a3, .int .i64 v371.Deepest.a4, .int .i64 v371.Deepest.a5, .int .i64 v371.WakeDevice, .int .i64 v371.WakeSystem]) kd_api_PowerDevice [v371] (N + 6) g370 hS463 rfl rfl (fun _ => by kernel_rfl) rfl (by decide) (Rows.cons (cs := [.int .i64 v371.Parent, .slice A248 v371.Rails.a0.length cap249, .slice A251 v371.Rails.a1.length cap252, .slice A254 v371.Rails.a2.length cap255, .slice A257 v371.Rails.a3.length cap258, .int .i64 v371.Deepest.a0, .int .i64 v371.Deepest.a1, .int .i64 v371.Deepest.a2, .int .i64 v371.Deepest.a3, .int .i64 v371.Deepest.a4, .int .i64 v371.Deepest.a5, .int .i64 v371.WakeDevice, .int .i64 v371.WakeSystem]) ⟨A248, cap249, A251, cap252, A254, cap255, A257, cap258, rfl, h250, h253, h256, h259⟩ Rows.nil)) ?_
                rintro _ a467 w468 g468 ⟨⟨A464, rfl, h465⟩, F468⟩ hS467
                replace h250 := RdS.fr h250 F468 (by decide) (fun _ _ h => h)
                replace h253 := RdS.fr h253 F468 (by decide) (fun _ _ h => h)
                replace h256 := RdS.fr h256 F468 (by decide) (fun _ _ h => h)
                replace h259 := RdS.fr h259 F468 (by decide) (fun _ _ h => h)
                replace h14 := OwS.fr h14 F468 (fun _ _ h => h)
                replace h158 := h158.fr F468 (fun h => h)
                replace hp0 := RdS.fr hp0 F468 (by decide) (fun _ _ h => h)
                replace hF := hF.trans F468 (fun _ h => h.elim)
                refine st_eff hS467 rfl rfl rfl (e_append (e := 33) (sz := 13) (by_ := 168) (z := [.int .i64 0, .slice none 0 0, .slice none 0 0, .slice none 0 0, .slice none 0 0, .int .i64 0, .int .i64 0, .int .i64 0, .int .i64 0, .int .i64 0, .int .i64 0, .int .i64 0, .int .i64 0]) (kd := kd_api_PowerDevice) g468 hS467 rfl rfl rfl rfl (by kernel_rfl) (by kernel_rfl) rfl rfl rfl rfl h14 (OwD.rdx h465) (fun _ _ _ h => h) hy470) ?_
                rintro _ a475 w476 g476 ⟨⟨A471, cap472, rfl, h473⟩, F476⟩ hS475
                replace h465 := OwD.fr h465 F476 (fun (hm : N + 6 = N + 4) => by omega) (fun q (hq : q = N + 4 + 1) (hm : q = N + 4) => by omega)
                replace h250 := RdS.fr h250 F476 (by decide) (fun q (hq : q = N + 4 + 1) (hm : q = N + 4) => by omega)
                replace h253 := RdS.fr h253 F476 (by decide) (fun q (hq : q = N + 4 + 1) (hm : q = N + 4) => by omega)
                replace h256 := RdS.fr h256 F476 (by decide) (fun q (hq : q = N + 4 + 1) (hm : q = N + 4) => by omega)
                replace h259 := RdS.fr h259 F476 (by decide) (fun q (hq : q = N + 4 + 1) (hm : q = N + 4) => by omega)
                replace h158 := h158.fr F476 (fun (hm : N + 0 = N + 4) => by omega)
                replace hp0 := RdS.fr hp0 F476 (by decide) (fun q (hq : C0 q) (hm : q = N + 4) => by have := hC0 q hq; omega)
                replace hF := hF.trans F476 (fun c' (hm : c' = N + 4) => by show (r0 ≤ c' ∧ c' < r0 + 2) ∨ N ≤ c'; omega)
                refine st_val hS475 rfl rfl rfl (r_assign hS475 rfl rfl) fun a477 hS477 => wpList_nil (hK _ _ ?_)
                replace hS : Sl 88 _ [(0, .slice A0 p0.length cap0), (1, .int .i64 p1), (5, .slice A471 y469.length cap472), (6, .int .i64 m0_1)] := hS477.re ⟨rfl, rfl, rfl, rfl, trivial⟩
                clear hK K
                try clear hS462 hS463 hS467 hS475 hS477
                obtain ⟨a, ha⟩ : ∃ a', a' = a477 := ⟨_, rfl⟩
                rw [← ha] at hS ⊢; clear ha
                have e := Option.some.inj H
                subst e
                exact ⟨g476, A471, cap472, hS.re ⟨rfl, rfl, rfl, rfl, trivial⟩, h473, hp0, hF⟩
          · clear H
            clear hp0 h14 hF
            clear hS
            rintro a w32 ⟨g32, A33, cap34, hS, h35, hp0, hF⟩
            have H := Hl38
            clear Hl38
            refine c_pure1 [(0, .slice A0 p0.length cap0), (1, .int .i64 p1), (5, .slice A33 v36.length cap34), (6, .int .i64 (wi (m0_1 + 1)))] (fun R hR => st_val hS rfl rfl rfl (r_move hS rfl rfl) fun a478 hS478 => st_val hS478 rfl rfl rfl (r_bin hS478 rfl rfl rfl b_add) fun a479 hS479 => st_val hS479 rfl rfl rfl (r_assign hS479 rfl rfl) fun a480 hS480 => wpList_nil (hR _ (hS480.re ⟨rfl, rfl, rfl, rfl, trivial⟩))) ?_
            clear hS
            clear a
            intro a hS
            refine ⟨k15, Nat.lt_succ_self _, ?_⟩
            exact ⟨v36, wi (m0_1 + 1), g32, A33, cap34, H, hS.re ⟨rfl, rfl, rfl, rfl, trivial⟩, h35, hp0, hF⟩
        · replace H := ite_f hb31 H
          refine wp_exit ?_
          have e := Option.some.inj H
          subst e
          exact ⟨g11, A12, cap13, hS.re ⟨rfl, trivial⟩, h14, hF⟩
  · clear H
    clear hp0 hF
    clear hS
    rintro a w3 ⟨g3, A4, cap5, hS, h6, hF⟩
    have H := Hl9
    clear Hl9
    refine c_pure [(4, .slice A4 v7.length cap5)] (fun R hR => st_val hS rfl rfl rfl (r_move hS rfl rfl) fun a481 hS481 => st_val hS481 rfl rfl rfl (r_assign hS481 rfl rfl) fun a482 hS482 => wpList_nil (hR _ (hS482.re ⟨rfl, trivial⟩))) ?_
    clear hS
    clear a
    intro a hS
    refine wp_ret ?_
    have e := Option.some.inj H
    subst e
    have F483 := Fr.recol2 w3 g3 (N + 4) r0
    replace h6 := h6.recol2 r0
    replace hF := hF.trans F483 (fun c' (hm : c' = N + 4 ∨ c' = N + 4 + 1) => by show (r0 ≤ c' ∧ c' < r0 + 2) ∨ N ≤ c'; omega)
    repeat (with_reducible first | refine then_ret ?_ | refine inBlock_ret ?_)
    exact c_ret1 hS Try.results16 rfl ⟨_, rfl, (recol2 g3 (N + 4) r0), A4, cap5, rfl, h6, hF⟩


end Go.Proofs.Ytfhhklkmbcnhnaa.Sim

namespace Go.Proofs.Ytfhhklkmbcnhnaa.Sim
open Go
set_option linter.unusedVariables false
set_option linter.unusedSimpArgs false

def Wf_api_PowerDevice (x : api_PowerDevice) : Prop := (Lit.int .i64 x.Parent).wf = true ∧ (x.Rails.a0.length ≤ maxLen ∧ ∀ x' ∈ x.Rails.a0, (Lit.int .i64 x').wf = true) ∧ (x.Rails.a1.length ≤ maxLen ∧ ∀ x' ∈ x.Rails.a1, (Lit.int .i64 x').wf = true) ∧ (x.Rails.a2.length ≤ maxLen ∧ ∀ x' ∈ x.Rails.a2, (Lit.int .i64 x').wf = true) ∧ (x.Rails.a3.length ≤ maxLen ∧ ∀ x' ∈ x.Rails.a3, (Lit.int .i64 x').wf = true) ∧ (Lit.int .i64 x.Deepest.a0).wf = true ∧ (Lit.int .i64 x.Deepest.a1).wf = true ∧ (Lit.int .i64 x.Deepest.a2).wf = true ∧ (Lit.int .i64 x.Deepest.a3).wf = true ∧ (Lit.int .i64 x.Deepest.a4).wf = true ∧ (Lit.int .i64 x.Deepest.a5).wf = true ∧ (Lit.int .i64 x.WakeDevice).wf = true ∧ (Lit.int .i64 x.WakeSystem).wf = true
theorem opens_api_PowerDevice : Opens Try.prog 33 kd_api_PowerDevice Wf_api_PowerDevice := by
  intro H enc w held fuel cs x h
  have hl : cs.length = 13 := by
    obtain ⟨_, _, _, _, hl, _⟩ := DataW.trod_struct Try.underlying33 h
    rw [hl]; kernel_rfl
  match cs, hl with
  | [c0, c1, c2, c3, c4, c5, c6, c7, c8, c9, c10, c11, c12], _ =>
    obtain ⟨ys0, m0, _, _, _, hlen0, hf0⟩ := DataW.trod_struct Try.underlying33 h
    obtain ⟨y0_0, h0_0⟩ := trod_field hf0 hlen0 0 rfl (n := 1) (by kernel_rfl)
    obtain ⟨n1, r1, w1⟩ := (Opens.int Try.underlying3) enc w held _ _ _ h0_0
    injection (show [c0] = [.int .i64 n1] from r1) with e1; subst e1
    obtain ⟨y0_1, h0_1⟩ := trod_field hf0 hlen0 1 rfl (n := 4) (by kernel_rfl)
    obtain ⟨ys2, m2, _, _, _, hlen2, hf2⟩ := DataW.trod_array Try.underlying30 h0_1
    obtain ⟨y2_0, h2_0⟩ := trod_elem hf2 hlen2 0 (by decide) (sz := 1) (by kernel_rfl)
    obtain ⟨n3, r3, w3⟩ := (Opens.slice Try.underlying29 (by decide) (by kernel_rfl) (Opens.int Try.underlying3)) enc w held _ _ _ h2_0
    obtain ⟨A3, cap3, e3, s3⟩ := r3
    injection (show [c1] = [.slice A3 n3.length cap3] from e3) with e3; subst e3
    obtain ⟨y2_1, h2_1⟩ := trod_elem hf2 hlen2 1 (by decide) (sz := 1) (by kernel_rfl)
    obtain ⟨n4, r4, w4⟩ := (Opens.slice Try.underlying29 (by decide) (by kernel_rfl) (Opens.int Try.underlying3)) enc w held _ _ _ h2_1
    obtain ⟨A4, cap4, e4, s4⟩ := r4
    injection (show [c2] = [.slice A4 n4.length cap4] from e4) with e4; subst e4
    obtain ⟨y2_2, h2_2⟩ := trod_elem hf2 hlen2 2 (by decide) (sz := 1) (by kernel_rfl)
    obtain ⟨n5, r5, w5⟩ := (Opens.slice Try.underlying29 (by decide) (by kernel_rfl) (Opens.int Try.underlying3)) enc w held _ _ _ h2_2
    obtain ⟨A5, cap5, e5, s5⟩ := r5
    injection (show [c3] = [.slice A5 n5.length cap5] from e5) with e5; subst e5
    obtain ⟨y2_3, h2_3⟩ := trod_elem hf2 hlen2 3 (by decide) (sz := 1) (by kernel_rfl)
    obtain ⟨n6, r6, w6⟩ := (Opens.slice Try.underlying29 (by decide) (by kernel_rfl) (Opens.int Try.underlying3)) enc w held _ _ _ h2_3
    obtain ⟨A6, cap6, e6, s6⟩ := r6
    injection (show [c4] = [.slice A6 n6.length cap6] from e6) with e6; subst e6
    obtain ⟨y0_2, h0_2⟩ := trod_field hf0 hlen0 2 rfl (n := 6) (by kernel_rfl)
    obtain ⟨ys7, m7, _, _, _, hlen7, hf7⟩ := DataW.trod_array Try.underlying31 h0_2
    obtain ⟨y7_0, h7_0⟩ := trod_elem hf7 hlen7 0 (by decide) (sz := 1) (by kernel_rfl)
    obtain ⟨n8, r8, w8⟩ := (Opens.int Try.underlying3) enc w held _ _ _ h7_0
    injection (show [c5] = [.int .i64 n8] from r8) with e8; subst e8
    obtain ⟨y7_1, h7_1⟩ := trod_elem hf7 hlen7 1 (by decide) (sz := 1) (by kernel_rfl)
    obtain ⟨n9, r9, w9⟩ := (Opens.int Try.underlying3) enc w held _ _ _ h7_1
    injection (show [c6] = [.int .i64 n9] from r9) with e9; subst e9
    obtain ⟨y7_2, h7_2⟩ := trod_elem hf7 hlen7 2 (by decide) (sz := 1) (by kernel_rfl)
    obtain ⟨n10, r10, w10⟩ := (Opens.int Try.underlying3) enc w held _ _ _ h7_2
    injection (show [c7] = [.int .i64 n10] from r10) with e10; subst e10
    obtain ⟨y7_3, h7_3⟩ := trod_elem hf7 hlen7 3 (by decide) (sz := 1) (by kernel_rfl)
    obtain ⟨n11, r11, w11⟩ := (Opens.int Try.underlying3) enc w held _ _ _ h7_3
    injection (show [c8] = [.int .i64 n11] from r11) with e11; subst e11
    obtain ⟨y7_4, h7_4⟩ := trod_elem hf7 hlen7 4 (by decide) (sz := 1) (by kernel_rfl)
    obtain ⟨n12, r12, w12⟩ := (Opens.int Try.underlying3) enc w held _ _ _ h7_4
    injection (show [c9] = [.int .i64 n12] from r12) with e12; subst e12
    obtain ⟨y7_5, h7_5⟩ := trod_elem hf7 hlen7 5 (by decide) (sz := 1) (by kernel_rfl)
    obtain ⟨n13, r13, w13⟩ := (Opens.int Try.underlying3) enc w held _ _ _ h7_5
    injection (show [c10] = [.int .i64 n13] from r13) with e13; subst e13
    obtain ⟨y0_3, h0_3⟩ := trod_field hf0 hlen0 3 rfl (n := 1) (by kernel_rfl)
    obtain ⟨n14, r14, w14⟩ := (Opens.int Try.underlying3) enc w held _ _ _ h0_3
    injection (show [c11] = [.int .i64 n14] from r14) with e14; subst e14
    obtain ⟨y0_4, h0_4⟩ := trod_field hf0 hlen0 4 rfl (n := 1) (by kernel_rfl)
    obtain ⟨n15, r15, w15⟩ := (Opens.int Try.underlying3) enc w held _ _ _ h0_4
    injection (show [c12] = [.int .i64 n15] from r15) with e15; subst e15
    exact ⟨(api_PowerDevice.mk n1 (Ar4.mk n3 n4 n5 n6) (Ar6.mk n8 n9 n10 n11 n12 n13) n14 n15), ⟨A3, cap3, A4, cap4, A5, cap5, A6, cap6, rfl, s3, s4, s5, s6⟩, ⟨w1, w3, w4, w5, w6, w8, w9, w10, w11, w12, w13, w14, w15⟩⟩

def Wf_api_Rail (x : api_Rail) : Prop := (Lit.int .i64 x.Supply).wf = true ∧ (Lit.int .u64 x.RampUp).wf = true ∧ (Lit.int .u64 x.RampDown).wf = true
theorem opens_api_Rail : Opens Try.prog 64 kd_api_Rail Wf_api_Rail := by
  intro H enc w held fuel cs x h
  have hl : cs.length = 3 := by
    obtain ⟨_, _, _, _, hl, _⟩ := DataW.trod_struct Try.underlying64 h
    rw [hl]; kernel_rfl
  match cs, hl with
  | [c0, c1, c2], _ =>
    obtain ⟨ys0, m0, _, _, _, hlen0, hf0⟩ := DataW.trod_struct Try.underlying64 h
    obtain ⟨y0_0, h0_0⟩ := trod_field hf0 hlen0 0 rfl (n := 1) (by kernel_rfl)
    obtain ⟨n1, r1, w1⟩ := (Opens.int Try.underlying3) enc w held _ _ _ h0_0
    injection (show [c0] = [.int .i64 n1] from r1) with e1; subst e1
    obtain ⟨y0_1, h0_1⟩ := trod_field hf0 hlen0 1 rfl (n := 1) (by kernel_rfl)
    obtain ⟨n2, r2, w2⟩ := (Opens.int Try.underlying53) enc w held _ _ _ h0_1
    injection (show [c1] = [.int .u64 n2] from r2) with e2; subst e2
    obtain ⟨y0_2, h0_2⟩ := trod_field hf0 hlen0 2 rfl (n := 1) (by kernel_rfl)
    obtain ⟨n3, r3, w3⟩ := (Opens.int Try.underlying53) enc w held _ _ _ h0_2
    injection (show [c2] = [.int .u64 n3] from r3) with e3; subst e3
    exact ⟨(api_Rail.mk n1 n2 n3), rfl, ⟨w1, w2, w3⟩⟩

def Wf_law27_Call (x : law27_Call) : Prop := (Lit.int .i64 x.Device).wf = true ∧ (Lit.int .i64 x.State).wf = true ∧ (Lit.int .u64 x.Wait).wf = true ∧ True
theorem opens_law27_Call : Opens Try.prog 55 kd_law27_Call Wf_law27_Call := by
  intro H enc w held fuel cs x h
  have hl : cs.length = 4 := by
    obtain ⟨_, _, _, _, hl, _⟩ := DataW.trod_struct Try.underlying55 h
    rw [hl]; kernel_rfl
  match cs, hl with
  | [c0, c1, c2, c3], _ =>
    obtain ⟨ys0, m0, _, _, _, hlen0, hf0⟩ := DataW.trod_struct Try.underlying55 h
    obtain ⟨y0_0, h0_0⟩ := trod_field hf0 hlen0 0 rfl (n := 1) (by kernel_rfl)
    obtain ⟨n1, r1, w1⟩ := (Opens.int Try.underlying3) enc w held _ _ _ h0_0
    injection (show [c0] = [.int .i64 n1] from r1) with e1; subst e1
    obtain ⟨y0_1, h0_1⟩ := trod_field hf0 hlen0 1 rfl (n := 1) (by kernel_rfl)
    obtain ⟨n2, r2, w2⟩ := (Opens.int Try.underlying3) enc w held _ _ _ h0_1
    injection (show [c1] = [.int .i64 n2] from r2) with e2; subst e2
    obtain ⟨y0_2, h0_2⟩ := trod_field hf0 hlen0 2 rfl (n := 1) (by kernel_rfl)
    obtain ⟨n3, r3, w3⟩ := (Opens.int Try.underlying53) enc w held _ _ _ h0_2
    injection (show [c2] = [.int .u64 n3] from r3) with e3; subst e3
    obtain ⟨y0_3, h0_3⟩ := trod_field hf0 hlen0 3 rfl (n := 1) (by kernel_rfl)
    obtain ⟨n4, r4, w4⟩ := (Opens.bool Try.underlying4) enc w held _ _ _ h0_3
    injection (show [c3] = [.bool n4] from r4) with e4; subst e4
    exact ⟨(law27_Call.mk n1 n2 n3 n4), rfl, ⟨w1, w2, w3, w4⟩⟩


end Go.Proofs.Ytfhhklkmbcnhnaa.Sim
