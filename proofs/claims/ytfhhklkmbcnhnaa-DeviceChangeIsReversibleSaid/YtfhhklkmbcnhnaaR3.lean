/-
  Printed by a program of this session (wip/tools): plain functions with the same answers as the Go functions, and the proofs of it.
-/
import Derived.Test.YtfhhklkmbcnhnaaProg
import Derived.Test.YtfhhklkmbcnhnaaR2
namespace Go.Proofs.Ytfhhklkmbcnhnaa.Sim
open Go
set_option linter.unusedVariables false
set_option linter.unusedSimpArgs false

/-! ### law27_awake: function 14 -/
def law27_awake.f  : Option (Bool) := (device_Change.f (api_PowerDevice.mk (-1) (Ar4.mk [0, 2] ([] : List Int) ([] : List Int) [2]) (Ar6.mk 0 3 3 4 4 4) 2 3) 4 0).bind fun r23 => (device_Change.f (api_PowerDevice.mk (-1) (Ar4.mk [0, 2] ([] : List Int) ([] : List Int) [2]) (Ar6.mk 0 3 3 4 4 4) 2 3) 0 3).bind fun r43 => (device_Target.f (api_PowerDevice.mk (-1) (Ar4.mk [0, 2] ([] : List Int) ([] : List Int) [2]) (Ar6.mk 0 3 3 4 4 4) 2 3) 3 true).bind fun r63 => (device_Target.f (api_PowerDevice.mk (-1) (Ar4.mk [0, 2] ([] : List Int) ([] : List Int) [2]) (Ar6.mk 0 3 3 4 4 4) 2 3) 4 true).bind fun r73 => (if ((r23.2.2 == 0) && (r43.2.2 == 0)) = true then (help_Equal_int.f r23.1 [0, 2]).bind fun r103 => some r103 else some false).bind fun t107 => (if ((t107 && ((r23.2.1.length : Int) == 0)) && ((r43.1.length : Int) == 0)) = true then (help_Equal_int.f r43.2.1 [0]).bind fun r164 => some r164 else some false).bind fun t168 => (if (((t168 && (r63.1 == 2)) && (r63.2 == 0)) && (r73.2 == 13)) = true then (device_Check.f [(api_PowerDevice.mk (-1) (Ar4.mk [0, 2] ([] : List Int) ([] : List Int) [2]) (Ar6.mk 0 3 3 4 4 4) 2 3)] 3).bind fun r230 => some (r230 == 0) else some false).bind fun t235 => (if t235 = true then (device_Check.f [(api_PowerDevice.mk (-1) (Ar4.mk [0, 2] ([] : List Int) ([] : List Int) [2]) (Ar6.mk 0 3 3 4 4 4) 2 3)] 2).bind fun r266 => some (r266 == 1) else some false).bind fun t271 => some t271
set_option maxRecDepth 100000 in
set_option maxHeartbeats 4000000 in
theorem law27_awake.calls  {w : World} {g : Nat → Nat} {out : Bool} (N : Nat)  (H : law27_awake.f  = some out) :
    Calls Try.prog 14 #[] w (fun e w' => ∃ v, e = .returned v ∧ ∃ (g' : Nat → Nat), v = .bool out ∧ Fr (fun q => N ≤ q) w g w' g') := by
  unfold law27_awake.f at H
  refine calls_enter Try.func14 rfl Try.ntmps14 rfl (fun a hS => ?_)
  replace hS : Sl 89 a [] := hS
  have hF : Fr (fun q => N ≤ q) w g w g := Fr.refl _ _ _
  refine c_pure [] (fun R hR => st_val hS rfl rfl rfl (r_assign hS rfl rfl) fun a1 hS1 => wpList_nil (hR _ (hS1.re trivial))) ?_
  clear hS
  clear a
  intro a hS
  refine c_region (fun K hK => ?_)
  refine st_eff hS rfl rfl rfl (e_lit (e := 3) (parts := [(0, .int .i64 0), (1, .int .i64 2)]) (cs := [.int .i64 0, .int .i64 2]) (kint .i64) [0, 2] (N + 0) g hS rfl rfl (fun _ => by kernel_rfl) rfl (by decide) (Rows.cons (cs := [.int .i64 0]) rfl (Rows.cons (cs := [.int .i64 2]) rfl Rows.nil))) ?_
  rintro _ a5 w6 g6 ⟨⟨A2, rfl, h3⟩, F6⟩ hS5
  replace hF := hF.trans F6 (fun _ h => h.elim)
  refine st_eff hS5 rfl rfl rfl (e_lit (e := 3) (parts := [(0, .int .i64 2)]) (cs := [.int .i64 2]) (kint .i64) [2] (N + 2) g6 hS5 rfl rfl (fun _ => by kernel_rfl) rfl (by decide) (Rows.cons (cs := [.int .i64 2]) rfl Rows.nil)) ?_
  rintro _ a10 w11 g11 ⟨⟨A7, rfl, h8⟩, F11⟩ hS10
  replace h3 := OwS.fr h3 F11 (fun _ _ h => h)
  replace hF := hF.trans F11 (fun _ h => h.elim)
  refine st_val hS10 rfl rfl rfl (r_build (parts := [(0, .slice A2 [0, 2].length 2), (1, .slice none 0 0), (2, .slice none 0 0), (3, .slice A7 [2].length 1)]) (u := .agg #[.slice A2 [0, 2].length 2, .slice none 0 0, .slice none 0 0, .slice A7 [2].length 1]) hS10 rfl rfl (fun _ => by kernel_rfl)) fun a12 hS12 => st_val hS12 rfl rfl rfl (r_build (parts := [(0, .int .i64 0), (1, .int .i64 3), (2, .int .i64 3), (3, .int .i64 4), (4, .int .i64 4), (5, .int .i64 4)]) (u := .agg #[.int .i64 0, .int .i64 3, .int .i64 3, .int .i64 4, .int .i64 4, .int .i64 4]) hS12 rfl rfl (fun _ => by kernel_rfl)) fun a13 hS13 => st_val hS13 rfl rfl rfl (r_build (parts := [(0, .int .i64 (-1)), (1, .agg #[.slice A2 [0, 2].length 2, .slice none 0 0, .slice none 0 0, .slice A7 [2].length 1]), (2, .agg #[.int .i64 0, .int .i64 3, .int .i64 3, .int .i64 4, .int .i64 4, .int .i64 4]), (4, .int .i64 3), (3, .int .i64 2)]) (u := .agg #[.int .i64 (-1), .slice A2 [0, 2].length 2, .slice none 0 0, .slice none 0 0, .slice A7 [2].length 1, .int .i64 0, .int .i64 3, .int .i64 3, .int .i64 4, .int .i64 4, .int .i64 4, .int .i64 2, .int .i64 3]) hS13 rfl rfl (fun _ => by kernel_rfl)) fun a14 hS14 => ?_
  refine st_eff hS14 rfl rfl rfl (e_alloc (cs := [.int .i64 0, .slice none 0 0, .slice none 0 0, .slice none 0 0, .slice none 0 0, .int .i64 0, .int .i64 0, .int .i64 0, .int .i64 0, .int .i64 0, .int .i64 0, .int .i64 0, .int .i64 0]) (N + 4) g11 hS14 rfl (by kernel_rfl)) ?_
  rintro _ a18 w19 g19 ⟨⟨b15, rfl, h16⟩, F19⟩ hS18
  replace h3 := OwS.fr h3 F19 (fun _ _ h => h)
  replace h8 := OwS.fr h8 F19 (fun _ _ h => h)
  replace hF := hF.trans F19 (fun _ h => h.elim)
  refine st_effS hS18 rfl rfl (e_storeB (n := 13) (bb := true) (cs' := [.int .i64 (-1), .slice A2 [0, 2].length 2, .slice none 0 0, .slice none 0 0, .slice A7 [2].length 1, .int .i64 0, .int .i64 3, .int .i64 3, .int .i64 4, .int .i64 4, .int .i64 4, .int .i64 2, .int .i64 3]) g19 hS18 rfl rfl rfl (by kernel_rfl) rfl rfl rfl h16 rfl rfl) ?_
  rintro a20 w21 g21 ⟨h16, F21⟩ hS20
  replace h3 := OwS.fr h3 F21 (fun c' hc (hm : c' = N + 4) => by omega)
  replace h8 := OwS.fr h8 F21 (fun c' hc (hm : c' = N + 4) => by omega)
  replace hF := hF.trans F21 (fun c' (hm : c' = N + 4) => by show N ≤ c'; omega)
  refine wpList_nil (hK _ _ ?_)
  replace hS : Sl 89 _ [(1, .pointer (some ⟨b15, 0, none⟩))] := hS20.re ⟨rfl, trivial⟩
  clear hK K
  try clear hS5 hS10 hS12 hS13 hS14 hS18 hS20
  obtain ⟨a, ha⟩ : ∃ a', a' = a20 := ⟨_, rfl⟩
  rw [← ha] at hS ⊢; clear ha
  obtain ⟨r23, hr24, H⟩ := bind_el H
  refine c_region (fun K hK => ?_)
  refine st_val hS rfl rfl rfl (r_loadN (n := 13) (cs := [.int .i64 (-1), .slice A2 [0, 2].length 2, .slice none 0 0, .slice none 0 0, .slice A7 [2].length 1, .int .i64 0, .int .i64 3, .int .i64 3, .int .i64 4, .int .i64 4, .int .i64 4, .int .i64 2, .int .i64 3]) hS rfl rfl (by kernel_rfl) rfl (Bx.cells_off h16 0 13)) fun a22 hS22 => ?_
  refine st_enter hS22 rfl rfl rfl (r_call hS22 rfl rfl (by kernel_rfl)) (device_Change.calls (C0 := (fun q => q = N + 0 ∨ q = N + 2)) (p0 := (api_PowerDevice.mk (-1) (Ar4.mk [0, 2] ([] : List Int) ([] : List Int) [2]) (Ar6.mk 0 3 3 4 4 4) 2 3)) (p1 := 4) (p2 := 0) (g := g21) (N + 22) (N + 6) (N + 8) (RdS.weak (OwD.rdf (fun _ _ _ _ _ _ h => h) h3) (fun _ h => (Or.inl h))) (RdS.nil (kint .i64) w21 g21 (fun q => q = N + 0 ∨ q = N + 2)) (RdS.nil (kint .i64) w21 g21 (fun q => q = N + 0 ∨ q = N + 2)) (RdS.weak (OwD.rdf (fun _ _ _ _ _ _ h => h) h8) (fun _ h => (Or.inr h))) (fun q (hq : q = N + 0 ∨ q = N + 2) => by rcases hq with hq | hq; all_goals first | (omega; done) | (omega; done)) (by omega) (by omega) (by omega) hr24) ?_
  rintro _ a33 w34 ⟨g34, A25, cap26, A29, cap30, rfl, h27, h31, F34⟩ hS33
  replace h16 := h16.fr F34 (fun (hm : (N + 6 ≤ N + 4 ∧ N + 4 < N + 6 + 2) ∨ (N + 8 ≤ N + 4 ∧ N + 4 < N + 8 + 2) ∨ N + 22 ≤ N + 4) => by omega)
  replace h3 := OwS.fr h3 F34 (fun c' hc (hm : (N + 6 ≤ c' ∧ c' < N + 6 + 2) ∨ (N + 8 ≤ c' ∧ c' < N + 8 + 2) ∨ N + 22 ≤ c') => by omega)
  replace h8 := OwS.fr h8 F34 (fun c' hc (hm : (N + 6 ≤ c' ∧ c' < N + 6 + 2) ∨ (N + 8 ≤ c' ∧ c' < N + 8 + 2) ∨ N + 22 ≤ c') => by omega)
  replace hF := hF.trans F34 (fun c' (hm : (N + 6 ≤ c' ∧ c' < N + 6 + 2) ∨ (N + 8 ≤ c' ∧ c' < N + 8 + 2) ∨ N + 22 ≤ c') => by show N ≤ c'; omega)
  refine st_val hS33 rfl rfl rfl (r_move hS33 rfl rfl) fun a35 hS35 => st_val hS35 rfl rfl rfl (r_extract hS35 rfl rfl rfl) fun a36 hS36 => st_val hS36 rfl rfl rfl (r_extract hS36 rfl rfl rfl) fun a37 hS37 => st_val hS37 rfl rfl rfl (r_extract hS37 rfl rfl rfl) fun a38 hS38 => st_val hS38 rfl rfl rfl (r_assign hS38 rfl rfl) fun a39 hS39 => st_val hS39 rfl rfl rfl (r_assign hS39 rfl rfl) fun a40 hS40 => st_val hS40 rfl rfl rfl (r_assign hS40 rfl rfl) fun a41 hS41 => wpList_nil (hK _ _ ?_)
  replace hS : Sl 89 _ [(1, .pointer (some ⟨b15, 0, none⟩)), (2, .slice A25 r23.1.length cap26), (3, .slice A29 r23.2.1.length cap30), (4, .int .i64 r23.2.2)] := hS41.re ⟨rfl, rfl, rfl, rfl, trivial⟩
  clear hK K
  try clear hS22 hS33 hS35 hS36 hS37 hS38 hS39 hS40 hS41
  obtain ⟨a, ha⟩ : ∃ a', a' = a41 := ⟨_, rfl⟩
  rw [← ha] at hS ⊢; clear ha
  obtain ⟨r43, hr44, H⟩ := bind_el H
  refine c_region (fun K hK => ?_)
  refine st_val hS rfl rfl rfl (r_loadN (n := 13) (cs := [.int .i64 (-1), .slice A2 [0, 2].length 2, .slice none 0 0, .slice none 0 0, .slice A7 [2].length 1, .int .i64 0, .int .i64 3, .int .i64 3, .int .i64 4, .int .i64 4, .int .i64 4, .int .i64 2, .int .i64 3]) hS rfl rfl (by kernel_rfl) rfl (Bx.cells_off h16 0 13)) fun a42 hS42 => ?_
  refine st_enter hS42 rfl rfl rfl (r_call hS42 rfl rfl (by kernel_rfl)) (device_Change.calls (C0 := (fun q => q = N + 0 ∨ q = N + 2)) (p0 := (api_PowerDevice.mk (-1) (Ar4.mk [0, 2] ([] : List Int) ([] : List Int) [2]) (Ar6.mk 0 3 3 4 4 4) 2 3)) (p1 := 0) (p2 := 3) (g := g34) (N + 22) (N + 10) (N + 12) (RdS.weak (OwD.rdf (fun _ _ _ _ _ _ h => h) h3) (fun _ h => (Or.inl h))) (RdS.nil (kint .i64) w34 g34 (fun q => q = N + 0 ∨ q = N + 2)) (RdS.nil (kint .i64) w34 g34 (fun q => q = N + 0 ∨ q = N + 2)) (RdS.weak (OwD.rdf (fun _ _ _ _ _ _ h => h) h8) (fun _ h => (Or.inr h))) (fun q (hq : q = N + 0 ∨ q = N + 2) => by rcases hq with hq | hq; all_goals first | (omega; done) | (omega; done)) (by omega) (by omega) (by omega) hr44) ?_
  rintro _ a53 w54 ⟨g54, A45, cap46, A49, cap50, rfl, h47, h51, F54⟩ hS53
  replace h16 := h16.fr F54 (fun (hm : (N + 10 ≤ N + 4 ∧ N + 4 < N + 10 + 2) ∨ (N + 12 ≤ N + 4 ∧ N + 4 < N + 12 + 2) ∨ N + 22 ≤ N + 4) => by omega)
  replace h27 := OwS.fr h27 F54 (fun c' hc (hm : (N + 10 ≤ c' ∧ c' < N + 10 + 2) ∨ (N + 12 ≤ c' ∧ c' < N + 12 + 2) ∨ N + 22 ≤ c') => by omega)
  replace h31 := OwS.fr h31 F54 (fun c' hc (hm : (N + 10 ≤ c' ∧ c' < N + 10 + 2) ∨ (N + 12 ≤ c' ∧ c' < N + 12 + 2) ∨ N + 22 ≤ c') => by omega)
  replace h3 := OwS.fr h3 F54 (fun c' hc (hm : (N + 10 ≤ c' ∧ c' < N + 10 + 2) ∨ (N + 12 ≤ c' ∧ c' < N + 12 + 2) ∨ N + 22 ≤ c') => by omega)
  replace h8 := OwS.fr h8 F54 (fun c' hc (hm : (N + 10 ≤ c' ∧ c' < N + 10 + 2) ∨ (N + 12 ≤ c' ∧ c' < N + 12 + 2) ∨ N + 22 ≤ c') => by omega)
  replace hF := hF.trans F54 (fun c' (hm : (N + 10 ≤ c' ∧ c' < N + 10 + 2) ∨ (N + 12 ≤ c' ∧ c' < N + 12 + 2) ∨ N + 22 ≤ c') => by show N ≤ c'; omega)
  refine st_val hS53 rfl rfl rfl (r_move hS53 rfl rfl) fun a55 hS55 => st_val hS55 rfl rfl rfl (r_extract hS55 rfl rfl rfl) fun a56 hS56 => st_val hS56 rfl rfl rfl (r_extract hS56 rfl rfl rfl) fun a57 hS57 => st_val hS57 rfl rfl rfl (r_extract hS57 rfl rfl rfl) fun a58 hS58 => st_val hS58 rfl rfl rfl (r_assign hS58 rfl rfl) fun a59 hS59 => st_val hS59 rfl rfl rfl (r_assign hS59 rfl rfl) fun a60 hS60 => st_val hS60 rfl rfl rfl (r_assign hS60 rfl rfl) fun a61 hS61 => wpList_nil (hK _ _ ?_)
  replace hS : Sl 89 _ [(1, .pointer (some ⟨b15, 0, none⟩)), (2, .slice A25 r23.1.length cap26), (3, .slice A29 r23.2.1.length cap30), (4, .int .i64 r23.2.2), (5, .slice A45 r43.1.length cap46), (6, .slice A49 r43.2.1.length cap50), (7, .int .i64 r43.2.2)] := hS61.re ⟨rfl, rfl, rfl, rfl, rfl, rfl, rfl, trivial⟩
  clear hK K
  try clear hS42 hS53 hS55 hS56 hS57 hS58 hS59 hS60 hS61
  obtain ⟨a, ha⟩ : ∃ a', a' = a61 := ⟨_, rfl⟩
  rw [← ha] at hS ⊢; clear ha
  obtain ⟨r63, hr64, H⟩ := bind_el H
  refine c_region (fun K hK => ?_)
  refine st_val hS rfl rfl rfl (r_loadN (n := 13) (cs := [.int .i64 (-1), .slice A2 [0, 2].length 2, .slice none 0 0, .slice none 0 0, .slice A7 [2].length 1, .int .i64 0, .int .i64 3, .int .i64 3, .int .i64 4, .int .i64 4, .int .i64 4, .int .i64 2, .int .i64 3]) hS rfl rfl (by kernel_rfl) rfl (Bx.cells_off h16 0 13)) fun a62 hS62 => ?_
  refine st_enter hS62 rfl rfl rfl (r_call hS62 rfl rfl (by kernel_rfl)) (device_Target.calls (C0 := (fun q => q = N + 0 ∨ q = N + 2)) (p0 := (api_PowerDevice.mk (-1) (Ar4.mk [0, 2] ([] : List Int) ([] : List Int) [2]) (Ar6.mk 0 3 3 4 4 4) 2 3)) (p1 := 3) (p2 := true) (g := g54) (N + 22)  (RdS.weak (OwD.rdf (fun _ _ _ _ _ _ h => h) h3) (fun _ h => (Or.inl h))) (RdS.nil (kint .i64) w54 g54 (fun q => q = N + 0 ∨ q = N + 2)) (RdS.nil (kint .i64) w54 g54 (fun q => q = N + 0 ∨ q = N + 2)) (RdS.weak (OwD.rdf (fun _ _ _ _ _ _ h => h) h8) (fun _ h => (Or.inr h))) (fun q (hq : q = N + 0 ∨ q = N + 2) => by rcases hq with hq | hq; all_goals first | (omega; done) | (omega; done)) hr64) ?_
  rintro _ a65 w66 ⟨g66, rfl, F66⟩ hS65
  replace h16 := h16.fr F66 (fun (hm : N + 22 ≤ N + 4) => by omega)
  replace h27 := OwS.fr h27 F66 (fun c' hc (hm : N + 22 ≤ c') => by omega)
  replace h31 := OwS.fr h31 F66 (fun c' hc (hm : N + 22 ≤ c') => by omega)
  replace h3 := OwS.fr h3 F66 (fun c' hc (hm : N + 22 ≤ c') => by omega)
  replace h47 := OwS.fr h47 F66 (fun c' hc (hm : N + 22 ≤ c') => by omega)
  replace h51 := OwS.fr h51 F66 (fun c' hc (hm : N + 22 ≤ c') => by omega)
  replace h8 := OwS.fr h8 F66 (fun c' hc (hm : N + 22 ≤ c') => by omega)
  replace hF := hF.trans F66 (fun c' (hm : N + 22 ≤ c') => by show N ≤ c'; omega)
  refine st_val hS65 rfl rfl rfl (r_move hS65 rfl rfl) fun a67 hS67 => st_val hS67 rfl rfl rfl (r_extract hS67 rfl rfl rfl) fun a68 hS68 => st_val hS68 rfl rfl rfl (r_extract hS68 rfl rfl rfl) fun a69 hS69 => st_val hS69 rfl rfl rfl (r_assign hS69 rfl rfl) fun a70 hS70 => st_val hS70 rfl rfl rfl (r_assign hS70 rfl rfl) fun a71 hS71 => wpList_nil (hK _ _ ?_)
  replace hS : Sl 89 _ [(1, .pointer (some ⟨b15, 0, none⟩)), (2, .slice A25 r23.1.length cap26), (3, .slice A29 r23.2.1.length cap30), (4, .int .i64 r23.2.2), (5, .slice A45 r43.1.length cap46), (6, .slice A49 r43.2.1.length cap50), (7, .int .i64 r43.2.2), (8, .int .i64 r63.1), (9, .int .i64 r63.2)] := hS71.re ⟨rfl, rfl, rfl, rfl, rfl, rfl, rfl, rfl, rfl, trivial⟩
  clear hK K
  try clear hS62 hS65 hS67 hS68 hS69 hS70 hS71
  obtain ⟨a, ha⟩ : ∃ a', a' = a71 := ⟨_, rfl⟩
  rw [← ha] at hS ⊢; clear ha
  obtain ⟨r73, hr74, H⟩ := bind_el H
  refine c_region (fun K hK => ?_)
  refine st_val hS rfl rfl rfl (r_loadN (n := 13) (cs := [.int .i64 (-1), .slice A2 [0, 2].length 2, .slice none 0 0, .slice none 0 0, .slice A7 [2].length 1, .int .i64 0, .int .i64 3, .int .i64 3, .int .i64 4, .int .i64 4, .int .i64 4, .int .i64 2, .int .i64 3]) hS rfl rfl (by kernel_rfl) rfl (Bx.cells_off h16 0 13)) fun a72 hS72 => ?_
  refine st_enter hS72 rfl rfl rfl (r_call hS72 rfl rfl (by kernel_rfl)) (device_Target.calls (C0 := (fun q => q = N + 0 ∨ q = N + 2)) (p0 := (api_PowerDevice.mk (-1) (Ar4.mk [0, 2] ([] : List Int) ([] : List Int) [2]) (Ar6.mk 0 3 3 4 4 4) 2 3)) (p1 := 4) (p2 := true) (g := g66) (N + 22)  (RdS.weak (OwD.rdf (fun _ _ _ _ _ _ h => h) h3) (fun _ h => (Or.inl h))) (RdS.nil (kint .i64) w66 g66 (fun q => q = N + 0 ∨ q = N + 2)) (RdS.nil (kint .i64) w66 g66 (fun q => q = N + 0 ∨ q = N + 2)) (RdS.weak (OwD.rdf (fun _ _ _ _ _ _ h => h) h8) (fun _ h => (Or.inr h))) (fun q (hq : q = N + 0 ∨ q = N + 2) => by rcases hq with hq | hq; all_goals first | (omega; done) | (omega; done)) hr74) ?_
  rintro _ a75 w76 ⟨g76, rfl, F76⟩ hS75
  replace h16 := h16.fr F76 (fun (hm : N + 22 ≤ N + 4) => by omega)
  replace h27 := OwS.fr h27 F76 (fun c' hc (hm : N + 22 ≤ c') => by omega)
  replace h31 := OwS.fr h31 F76 (fun c' hc (hm : N + 22 ≤ c') => by omega)
  replace h3 := OwS.fr h3 F76 (fun c' hc (hm : N + 22 ≤ c') => by omega)
  replace h47 := OwS.fr h47 F76 (fun c' hc (hm : N + 22 ≤ c') => by omega)
  replace h51 := OwS.fr h51 F76 (fun c' hc (hm : N + 22 ≤ c') => by omega)
  replace h8 := OwS.fr h8 F76 (fun c' hc (hm : N + 22 ≤ c') => by omega)
  replace hF := hF.trans F76 (fun c' (hm : N + 22 ≤ c') => by show N ≤ c'; omega)
  refine st_val hS75 rfl rfl rfl (r_move hS75 rfl rfl) fun a77 hS77 => st_val hS77 rfl rfl rfl (r_extract hS77 rfl rfl rfl) fun a78 hS78 => st_val hS78 rfl rfl rfl (r_extract hS78 rfl rfl rfl) fun a79 hS79 => st_val hS79 rfl rfl rfl (r_assign hS79 rfl rfl) fun a80 hS80 => st_val hS80 rfl rfl rfl (r_assign hS80 rfl rfl) fun a81 hS81 => wpList_nil (hK _ _ ?_)
  replace hS : Sl 89 _ [(1, .pointer (some ⟨b15, 0, none⟩)), (2, .slice A25 r23.1.length cap26), (3, .slice A29 r23.2.1.length cap30), (4, .int .i64 r23.2.2), (5, .slice A45 r43.1.length cap46), (6, .slice A49 r43.2.1.length cap50), (7, .int .i64 r43.2.2), (8, .int .i64 r63.1), (9, .int .i64 r63.2), (11, .int .i64 r73.2)] := hS81.re ⟨rfl, rfl, rfl, rfl, rfl, rfl, rfl, rfl, rfl, rfl, trivial⟩
  clear hK K
  try clear hS72 hS75 hS77 hS78 hS79 hS80 hS81
  obtain ⟨a, ha⟩ : ∃ a', a' = a81 := ⟨_, rfl⟩
  rw [← ha] at hS ⊢; clear ha
  obtain ⟨t107, ht108, H⟩ := bind_el H
  obtain ⟨t168, ht169, H⟩ := bind_el H
  obtain ⟨t235, ht236, H⟩ := bind_el H
  obtain ⟨t271, ht272, H⟩ := bind_el H
  refine c_region (fun K hK => ?_)
  refine st_val hS rfl rfl rfl (r_move hS rfl rfl) fun a82 hS82 => st_val hS82 rfl rfl rfl (r_bin hS82 rfl rfl rfl b_eql) fun a83 hS83 => st_val hS83 rfl rfl rfl (r_move hS83 rfl rfl) fun a84 hS84 => ?_
  refine g_join (N := 89) 3 [(1, .pointer (some ⟨b15, 0, none⟩)), (2, .slice A25 r23.1.length cap26), (3, .slice A29 r23.2.1.length cap30), (5, .slice A45 r43.1.length cap46), (6, .slice A49 r43.2.1.length cap50), (8, .int .i64 r63.1), (9, .int .i64 r63.2), (11, .int .i64 r73.2), (44, .bool ((r23.2.2 == 0) && (r43.2.2 == 0)))] ?_ (fun hk => ?_)
  rotate_left
  · rcases Bool.eq_false_or_eq_true ((r23.2.2 == 0)) with hb85 | hb85
    · refine st_valW hS84 (want_on hS84 rfl rfl rfl hb85) rfl rfl (r_move hS84 rfl rfl) fun a88 hS88 => st_valW hS88 (want_on hS88 rfl rfl rfl hb85) rfl rfl (r_bin hS88 rfl rfl rfl b_eql) fun a89 hS89 => st_val hS89 rfl rfl rfl (r_pickT hS89 rfl rfl rfl hb85) fun a90 hS90 => hk _ (hS90.re ⟨rfl, rfl, rfl, rfl, rfl, rfl, rfl, rfl, (by rw [hb85]; rfl), trivial⟩)
    · refine st_off hS84 (want_off hS84 rfl rfl rfl hb85) rfl rfl fun a91 hS91 => st_off hS91 (want_off hS91 rfl rfl rfl hb85) rfl rfl fun a92 hS92 => st_val hS92 rfl rfl rfl (r_pickF hS92 rfl rfl rfl hb85) fun a93 hS93 => hk _ (hS93.re ⟨rfl, rfl, rfl, rfl, rfl, rfl, rfl, rfl, (by rw [hb85]; rfl), trivial⟩)
  intro a94 hS94
  refine st_val hS94 rfl rfl rfl (r_move hS94 rfl rfl) fun a95 hS95 => ?_
  refine g_joinR 4 (fun a w109 => ∃ (g109 : Nat → Nat), Sl 89 a [(1, .pointer (some ⟨b15, 0, none⟩)), (3, .slice A29 r23.2.1.length cap30), (5, .slice A45 r43.1.length cap46), (6, .slice A49 r43.2.1.length cap50), (8, .int .i64 r63.1), (9, .int .i64 r63.2), (11, .int .i64 r73.2), (49, .bool t107)] ∧ Bx w109 g109 (N + 4) b15 33 [.int .i64 (-1), .slice A2 [0, 2].length 2, .slice none 0 0, .slice none 0 0, .slice A7 [2].length 1, .int .i64 0, .int .i64 3, .int .i64 3, .int .i64 4, .int .i64 4, .int .i64 4, .int .i64 2, .int .i64 3] ∧ OwS (kint .i64) 3 w109 g109 (N + 8) A29 cap30 r23.2.1 ∧ OwS (kint .i64) 3 w109 g109 (N + 0) A2 2 [0, 2] ∧ OwS (kint .i64) 3 w109 g109 (N + 10) A45 cap46 r43.1 ∧ OwS (kint .i64) 3 w109 g109 (N + 12) A49 cap50 r43.2.1 ∧ OwS (kint .i64) 3 w109 g109 (N + 2) A7 1 [2] ∧ Fr (fun q => N ≤ q) w g w109 g109) ?_ (fun hk => ?_)
  rotate_left
  · rcases Bool.eq_false_or_eq_true (((r23.2.2 == 0) && (r43.2.2 == 0))) with hb96 | hb96
    · have H := ite_t hb96 ht108
      obtain ⟨r116, hr117, H⟩ := bind_el H
      have e120 := Option.some.inj H
      refine st_valW hS95 (want_on hS95 rfl rfl rfl hb96) rfl rfl (r_move hS95 rfl rfl) fun a110 hS110 => ?_
      refine st_effW hS110 (want_on hS110 rfl rfl rfl hb96) rfl rfl (e_lit (e := 3) (parts := [(0, .int .i64 0), (1, .int .i64 2)]) (cs := [.int .i64 0, .int .i64 2]) (kint .i64) [0, 2] (N + 14) g76 hS110 rfl rfl (fun _ => by kernel_rfl) rfl (by decide) (Rows.cons (cs := [.int .i64 0]) rfl (Rows.cons (cs := [.int .i64 2]) rfl Rows.nil))) ?_
      rintro _ a114 w115 g115 ⟨⟨A111, rfl, h112⟩, F115⟩ hS114
      replace h16 := h16.fr F115 (fun h => h)
      replace h27 := OwS.fr h27 F115 (fun _ _ h => h)
      replace h31 := OwS.fr h31 F115 (fun _ _ h => h)
      replace h3 := OwS.fr h3 F115 (fun _ _ h => h)
      replace h47 := OwS.fr h47 F115 (fun _ _ h => h)
      replace h51 := OwS.fr h51 F115 (fun _ _ h => h)
      replace h8 := OwS.fr h8 F115 (fun _ _ h => h)
      replace hF := hF.trans F115 (fun _ h => h.elim)
      refine st_enterW hS114 (want_on hS114 rfl rfl rfl hb96) rfl rfl (r_call hS114 rfl rfl (by kernel_rfl)) (help_Equal_int.calls (C0 := (fun q => q = N + 6)) (C1 := (fun q => q = N + 14)) (p0 := r23.1) (p1 := [0, 2]) (g := g115) (N + 22)  (OwD.rdf (fun _ _ _ _ _ _ h => h) h27) (fun q (hq : q = N + 6) => by omega) (OwD.rdf (fun _ _ _ _ _ _ h => h) h112) (fun q (hq : q = N + 14) => by omega) hr117) ?_
      rintro _ a118 w119 ⟨g119, rfl, F119⟩ hS118
      replace h112 := OwS.fr h112 F119 (fun c' hc (hm : N + 22 ≤ c') => by omega)
      replace h16 := h16.fr F119 (fun (hm : N + 22 ≤ N + 4) => by omega)
      replace h27 := OwS.fr h27 F119 (fun c' hc (hm : N + 22 ≤ c') => by omega)
      replace h31 := OwS.fr h31 F119 (fun c' hc (hm : N + 22 ≤ c') => by omega)
      replace h3 := OwS.fr h3 F119 (fun c' hc (hm : N + 22 ≤ c') => by omega)
      replace h47 := OwS.fr h47 F119 (fun c' hc (hm : N + 22 ≤ c') => by omega)
      replace h51 := OwS.fr h51 F119 (fun c' hc (hm : N + 22 ≤ c') => by omega)
      replace h8 := OwS.fr h8 F119 (fun c' hc (hm : N + 22 ≤ c') => by omega)
      replace hF := hF.trans F119 (fun c' (hm : N + 22 ≤ c') => by show N ≤ c'; omega)
      refine st_val hS118 rfl rfl rfl (r_pickT hS118 rfl rfl rfl hb96) fun a121 hS121 => hk _ _ ?_
      exact ⟨g119, hS121.re ⟨rfl, rfl, rfl, rfl, rfl, rfl, rfl, (by rw [← e120]; rfl), trivial⟩, h16, h31, h3, h47, h51, h8, hF⟩
    · have H := ite_f hb96 ht108
      have e122 := Option.some.inj H
      refine st_off hS95 (want_off hS95 rfl rfl rfl hb96) rfl rfl fun a123 hS123 => st_off hS123 (want_off hS123 rfl rfl rfl hb96) rfl rfl fun a124 hS124 => st_off hS124 (want_off hS124 rfl rfl rfl hb96) rfl rfl fun a125 hS125 => st_val hS125 rfl rfl rfl (r_pickF hS125 rfl rfl rfl hb96) fun a126 hS126 => hk _ _ ?_
      exact ⟨g76, hS126.re ⟨rfl, rfl, rfl, rfl, rfl, rfl, rfl, (by rw [← e122]; rfl), trivial⟩, h16, h31, h3, h47, h51, h8, hF⟩
  rintro a127 w109 ⟨g109, hS127, h16, h31, h3, h47, h51, h8, hF⟩
  refine st_val hS127 rfl rfl rfl (r_move hS127 rfl rfl) fun a128 hS128 => ?_
  refine g_join (N := 89) 4 [(1, .pointer (some ⟨b15, 0, none⟩)), (5, .slice A45 r43.1.length cap46), (6, .slice A49 r43.2.1.length cap50), (8, .int .i64 r63.1), (9, .int .i64 r63.2), (11, .int .i64 r73.2), (54, .bool (t107 && ((r23.2.1.length : Int) == 0)))] ?_ (fun hk => ?_)
  rotate_left
  · rcases Bool.eq_false_or_eq_true (t107) with hb129 | hb129
    · refine st_valW hS128 (want_on hS128 rfl rfl rfl hb129) rfl rfl (r_move hS128 rfl rfl) fun a133 hS133 => st_valW hS133 (want_on hS133 rfl rfl rfl hb129) rfl rfl (r_len (e := 3) (sz := 1) (by_ := 8) hS133 rfl rfl (by kernel_rfl)) fun a134 hS134 => st_valW hS134 (want_on hS134 rfl rfl rfl hb129) rfl rfl (r_bin hS134 rfl rfl rfl b_eql) fun a135 hS135 => st_val hS135 rfl rfl rfl (r_pickT hS135 rfl rfl rfl hb129) fun a136 hS136 => hk _ (hS136.re ⟨rfl, rfl, rfl, rfl, rfl, rfl, (by rw [hb129]; rfl), trivial⟩)
    · refine st_off hS128 (want_off hS128 rfl rfl rfl hb129) rfl rfl fun a137 hS137 => st_off hS137 (want_off hS137 rfl rfl rfl hb129) rfl rfl fun a138 hS138 => st_off hS138 (want_off hS138 rfl rfl rfl hb129) rfl rfl fun a139 hS139 => st_val hS139 rfl rfl rfl (r_pickF hS139 rfl rfl rfl hb129) fun a140 hS140 => hk _ (hS140.re ⟨rfl, rfl, rfl, rfl, rfl, rfl, (by rw [hb129]; rfl), trivial⟩)
  intro a141 hS141
  refine st_val hS141 rfl rfl rfl (r_move hS141 rfl rfl) fun a142 hS142 => ?_
  refine g_join (N := 89) 4 [(1, .pointer (some ⟨b15, 0, none⟩)), (6, .slice A49 r43.2.1.length cap50), (8, .int .i64 r63.1), (9, .int .i64 r63.2), (11, .int .i64 r73.2), (59, .bool ((t107 && ((r23.2.1.length : Int) == 0)) && ((r43.1.length : Int) == 0)))] ?_ (fun hk => ?_)
  rotate_left
  · rcases Bool.eq_false_or_eq_true ((t107 && ((r23.2.1.length : Int) == 0))) with hb143 | hb143
    · refine st_valW hS142 (want_on hS142 rfl rfl rfl hb143) rfl rfl (r_move hS142 rfl rfl) fun a147 hS147 => st_valW hS147 (want_on hS147 rfl rfl rfl hb143) rfl rfl (r_len (e := 3) (sz := 1) (by_ := 8) hS147 rfl rfl (by kernel_rfl)) fun a148 hS148 => st_valW hS148 (want_on hS148 rfl rfl rfl hb143) rfl rfl (r_bin hS148 rfl rfl rfl b_eql) fun a149 hS149 => st_val hS149 rfl rfl rfl (r_pickT hS149 rfl rfl rfl hb143) fun a150 hS150 => hk _ (hS150.re ⟨rfl, rfl, rfl, rfl, rfl, (by rw [hb143]; rfl), trivial⟩)
    · refine st_off hS142 (want_off hS142 rfl rfl rfl hb143) rfl rfl fun a151 hS151 => st_off hS151 (want_off hS151 rfl rfl rfl hb143) rfl rfl fun a152 hS152 => st_off hS152 (want_off hS152 rfl rfl rfl hb143) rfl rfl fun a153 hS153 => st_val hS153 rfl rfl rfl (r_pickF hS153 rfl rfl rfl hb143) fun a154 hS154 => hk _ (hS154.re ⟨rfl, rfl, rfl, rfl, rfl, (by rw [hb143]; rfl), trivial⟩)
  intro a155 hS155
  refine st_val hS155 rfl rfl rfl (r_move hS155 rfl rfl) fun a156 hS156 => ?_
  refine g_joinR 4 (fun a w170 => ∃ (g170 : Nat → Nat), Sl 89 a [(1, .pointer (some ⟨b15, 0, none⟩)), (8, .int .i64 r63.1), (9, .int .i64 r63.2), (11, .int .i64 r73.2), (64, .bool t168)] ∧ Bx w170 g170 (N + 4) b15 33 [.int .i64 (-1), .slice A2 [0, 2].length 2, .slice none 0 0, .slice none 0 0, .slice A7 [2].length 1, .int .i64 0, .int .i64 3, .int .i64 3, .int .i64 4, .int .i64 4, .int .i64 4, .int .i64 2, .int .i64 3] ∧ OwS (kint .i64) 3 w170 g170 (N + 0) A2 2 [0, 2] ∧ OwS (kint .i64) 3 w170 g170 (N + 2) A7 1 [2] ∧ Fr (fun q => N ≤ q) w g w170 g170) ?_ (fun hk => ?_)
  rotate_left
  · rcases Bool.eq_false_or_eq_true (((t107 && ((r23.2.1.length : Int) == 0)) && ((r43.1.length : Int) == 0))) with hb157 | hb157
    · have H := ite_t hb157 ht169
      obtain ⟨r177, hr178, H⟩ := bind_el H
      have e181 := Option.some.inj H
      refine st_valW hS156 (want_on hS156 rfl rfl rfl hb157) rfl rfl (r_move hS156 rfl rfl) fun a171 hS171 => ?_
      refine st_effW hS171 (want_on hS171 rfl rfl rfl hb157) rfl rfl (e_lit (e := 3) (parts := [(0, .int .i64 0)]) (cs := [.int .i64 0]) (kint .i64) [0] (N + 16) g109 hS171 rfl rfl (fun _ => by kernel_rfl) rfl (by decide) (Rows.cons (cs := [.int .i64 0]) rfl Rows.nil)) ?_
      rintro _ a175 w176 g176 ⟨⟨A172, rfl, h173⟩, F176⟩ hS175
      replace h16 := h16.fr F176 (fun h => h)
      replace h31 := OwS.fr h31 F176 (fun _ _ h => h)
      replace h3 := OwS.fr h3 F176 (fun _ _ h => h)
      replace h47 := OwS.fr h47 F176 (fun _ _ h => h)
      replace h51 := OwS.fr h51 F176 (fun _ _ h => h)
      replace h8 := OwS.fr h8 F176 (fun _ _ h => h)
      replace hF := hF.trans F176 (fun _ h => h.elim)
      refine st_enterW hS175 (want_on hS175 rfl rfl rfl hb157) rfl rfl (r_call hS175 rfl rfl (by kernel_rfl)) (help_Equal_int.calls (C0 := (fun q => q = N + 12)) (C1 := (fun q => q = N + 16)) (p0 := r43.2.1) (p1 := [0]) (g := g176) (N + 22)  (OwD.rdf (fun _ _ _ _ _ _ h => h) h51) (fun q (hq : q = N + 12) => by omega) (OwD.rdf (fun _ _ _ _ _ _ h => h) h173) (fun q (hq : q = N + 16) => by omega) hr178) ?_
      rintro _ a179 w180 ⟨g180, rfl, F180⟩ hS179
      replace h16 := h16.fr F180 (fun (hm : N + 22 ≤ N + 4) => by omega)
      replace h173 := OwS.fr h173 F180 (fun c' hc (hm : N + 22 ≤ c') => by omega)
      replace h31 := OwS.fr h31 F180 (fun c' hc (hm : N + 22 ≤ c') => by omega)
      replace h3 := OwS.fr h3 F180 (fun c' hc (hm : N + 22 ≤ c') => by omega)
      replace h47 := OwS.fr h47 F180 (fun c' hc (hm : N + 22 ≤ c') => by omega)
      replace h51 := OwS.fr h51 F180 (fun c' hc (hm : N + 22 ≤ c') => by omega)
      replace h8 := OwS.fr h8 F180 (fun c' hc (hm : N + 22 ≤ c') => by omega)
      replace hF := hF.trans F180 (fun c' (hm : N + 22 ≤ c') => by show N ≤ c'; omega)
      refine st_val hS179 rfl rfl rfl (r_pickT hS179 rfl rfl rfl hb157) fun a182 hS182 => hk _ _ ?_
      exact ⟨g180, hS182.re ⟨rfl, rfl, rfl, rfl, (by rw [← e181]; rfl), trivial⟩, h16, h3, h8, hF⟩
    · have H := ite_f hb157 ht169
      have e183 := Option.some.inj H
      refine st_off hS156 (want_off hS156 rfl rfl rfl hb157) rfl rfl fun a184 hS184 => st_off hS184 (want_off hS184 rfl rfl rfl hb157) rfl rfl fun a185 hS185 => st_off hS185 (want_off hS185 rfl rfl rfl hb157) rfl rfl fun a186 hS186 => st_val hS186 rfl rfl rfl (r_pickF hS186 rfl rfl rfl hb157) fun a187 hS187 => hk _ _ ?_
      exact ⟨g109, hS187.re ⟨rfl, rfl, rfl, rfl, (by rw [← e183]; rfl), trivial⟩, h16, h3, h8, hF⟩
  rintro a188 w170 ⟨g170, hS188, h16, h3, h8, hF⟩
  refine st_val hS188 rfl rfl rfl (r_move hS188 rfl rfl) fun a189 hS189 => ?_
  refine g_join (N := 89) 3 [(1, .pointer (some ⟨b15, 0, none⟩)), (9, .int .i64 r63.2), (11, .int .i64 r73.2), (68, .bool (t168 && (r63.1 == 2)))] ?_ (fun hk => ?_)
  rotate_left
  · rcases Bool.eq_false_or_eq_true (t168) with hb190 | hb190
    · refine st_valW hS189 (want_on hS189 rfl rfl rfl hb190) rfl rfl (r_move hS189 rfl rfl) fun a193 hS193 => st_valW hS193 (want_on hS193 rfl rfl rfl hb190) rfl rfl (r_bin hS193 rfl rfl rfl b_eql) fun a194 hS194 => st_val hS194 rfl rfl rfl (r_pickT hS194 rfl rfl rfl hb190) fun a195 hS195 => hk _ (hS195.re ⟨rfl, rfl, rfl, (by rw [hb190]; rfl), trivial⟩)
    · refine st_off hS189 (want_off hS189 rfl rfl rfl hb190) rfl rfl fun a196 hS196 => st_off hS196 (want_off hS196 rfl rfl rfl hb190) rfl rfl fun a197 hS197 => st_val hS197 rfl rfl rfl (r_pickF hS197 rfl rfl rfl hb190) fun a198 hS198 => hk _ (hS198.re ⟨rfl, rfl, rfl, (by rw [hb190]; rfl), trivial⟩)
  intro a199 hS199
  refine st_val hS199 rfl rfl rfl (r_move hS199 rfl rfl) fun a200 hS200 => ?_
  refine g_join (N := 89) 3 [(1, .pointer (some ⟨b15, 0, none⟩)), (11, .int .i64 r73.2), (72, .bool ((t168 && (r63.1 == 2)) && (r63.2 == 0)))] ?_ (fun hk => ?_)
  rotate_left
  · rcases Bool.eq_false_or_eq_true ((t168 && (r63.1 == 2))) with hb201 | hb201
    · refine st_valW hS200 (want_on hS200 rfl rfl rfl hb201) rfl rfl (r_move hS200 rfl rfl) fun a204 hS204 => st_valW hS204 (want_on hS204 rfl rfl rfl hb201) rfl rfl (r_bin hS204 rfl rfl rfl b_eql) fun a205 hS205 => st_val hS205 rfl rfl rfl (r_pickT hS205 rfl rfl rfl hb201) fun a206 hS206 => hk _ (hS206.re ⟨rfl, rfl, (by rw [hb201]; rfl), trivial⟩)
    · refine st_off hS200 (want_off hS200 rfl rfl rfl hb201) rfl rfl fun a207 hS207 => st_off hS207 (want_off hS207 rfl rfl rfl hb201) rfl rfl fun a208 hS208 => st_val hS208 rfl rfl rfl (r_pickF hS208 rfl rfl rfl hb201) fun a209 hS209 => hk _ (hS209.re ⟨rfl, rfl, (by rw [hb201]; rfl), trivial⟩)
  intro a210 hS210
  refine st_val hS210 rfl rfl rfl (r_move hS210 rfl rfl) fun a211 hS211 => ?_
  refine g_join (N := 89) 3 [(1, .pointer (some ⟨b15, 0, none⟩)), (76, .bool (((t168 && (r63.1 == 2)) && (r63.2 == 0)) && (r73.2 == 13)))] ?_ (fun hk => ?_)
  rotate_left
  · rcases Bool.eq_false_or_eq_true (((t168 && (r63.1 == 2)) && (r63.2 == 0))) with hb212 | hb212
    · refine st_valW hS211 (want_on hS211 rfl rfl rfl hb212) rfl rfl (r_move hS211 rfl rfl) fun a215 hS215 => st_valW hS215 (want_on hS215 rfl rfl rfl hb212) rfl rfl (r_bin hS215 rfl rfl rfl b_eql) fun a216 hS216 => st_val hS216 rfl rfl rfl (r_pickT hS216 rfl rfl rfl hb212) fun a217 hS217 => hk _ (hS217.re ⟨rfl, (by rw [hb212]; rfl), trivial⟩)
    · refine st_off hS211 (want_off hS211 rfl rfl rfl hb212) rfl rfl fun a218 hS218 => st_off hS218 (want_off hS218 rfl rfl rfl hb212) rfl rfl fun a219 hS219 => st_val hS219 rfl rfl rfl (r_pickF hS219 rfl rfl rfl hb212) fun a220 hS220 => hk _ (hS220.re ⟨rfl, (by rw [hb212]; rfl), trivial⟩)
  intro a221 hS221
  refine st_val hS221 rfl rfl rfl (r_move hS221 rfl rfl) fun a222 hS222 => ?_
  refine g_joinR 5 (fun a w237 => ∃ (g237 : Nat → Nat), Sl 89 a [(1, .pointer (some ⟨b15, 0, none⟩)), (82, .bool t235)] ∧ Bx w237 g237 (N + 4) b15 33 [.int .i64 (-1), .slice A2 [0, 2].length 2, .slice none 0 0, .slice none 0 0, .slice A7 [2].length 1, .int .i64 0, .int .i64 3, .int .i64 3, .int .i64 4, .int .i64 4, .int .i64 4, .int .i64 2, .int .i64 3] ∧ OwS (kint .i64) 3 w237 g237 (N + 0) A2 2 [0, 2] ∧ OwS (kint .i64) 3 w237 g237 (N + 2) A7 1 [2] ∧ Fr (fun q => N ≤ q) w g w237 g237) ?_ (fun hk => ?_)
  rotate_left
  · rcases Bool.eq_false_or_eq_true ((((t168 && (r63.1 == 2)) && (r63.2 == 0)) && (r73.2 == 13))) with hb223 | hb223
    · have H := ite_t hb223 ht236
      obtain ⟨r244, hr245, H⟩ := bind_el H
      have e249 := Option.some.inj H
      refine st_valW hS222 (want_on hS222 rfl rfl rfl hb223) rfl rfl (r_loadN (n := 13) (cs := [.int .i64 (-1), .slice A2 [0, 2].length 2, .slice none 0 0, .slice none 0 0, .slice A7 [2].length 1, .int .i64 0, .int .i64 3, .int .i64 3, .int .i64 4, .int .i64 4, .int .i64 4, .int .i64 2, .int .i64 3]) hS222 rfl rfl (by kernel_rfl) rfl (Bx.cells_off h16 0 13)) fun a238 hS238 => ?_
      refine st_effW hS238 (want_on hS238 rfl rfl rfl hb223) rfl rfl (e_litD (D := (fun q => q = N + 0 ∨ q = N + 2)) (e := 33) (parts := [(0, .agg #[.int .i64 (-1), .slice A2 [0, 2].length 2, .slice none 0 0, .slice none 0 0, .slice A7 [2].length 1, .int .i64 0, .int .i64 3, .int .i64 3, .int .i64 4, .int .i64 4, .int .i64 4, .int .i64 2, .int .i64 3])]) (cs := [.int .i64 (-1), .slice A2 [0, 2].length 2, .slice none 0 0, .slice none 0 0, .slice A7 [2].length 1, .int .i64 0, .int .i64 3, .int .i64 3, .int .i64 4, .int .i64 4, .int .i64 4, .int .i64 2, .int .i64 3]) kd_api_PowerDevice [(api_PowerDevice.mk (-1) (Ar4.mk [0, 2] ([] : List Int) ([] : List Int) [2]) (Ar6.mk 0 3 3 4 4 4) 2 3)] (N + 18) g170 hS238 rfl rfl (fun _ => by kernel_rfl) rfl (by decide) (Rows.cons (cs := [.int .i64 (-1), .slice A2 [0, 2].length 2, .slice none 0 0, .slice none 0 0, .slice A7 [2].length 1, .int .i64 0, .int .i64 3, .int .i64 3, .int .i64 4, .int .i64 4, .int .i64 4, .int .i64 2, .int .i64 3]) ⟨A2, 2, none, 0, none, 0, A7, 1, rfl, (RdS.weak (OwD.rdf (fun _ _ _ _ _ _ h => h) h3) (fun _ h => (Or.inl h))), RdS.nil (kint .i64) w170 g170 (fun q => q = N + 0 ∨ q = N + 2), RdS.nil (kint .i64) w170 g170 (fun q => q = N + 0 ∨ q = N + 2), (RdS.weak (OwD.rdf (fun _ _ _ _ _ _ h => h) h8) (fun _ h => (Or.inr h)))⟩ Rows.nil)) ?_
      rintro _ a242 w243 g243 ⟨⟨A239, rfl, h240⟩, F243⟩ hS242
      replace h16 := h16.fr F243 (fun h => h)
      replace h3 := OwS.fr h3 F243 (fun _ _ h => h)
      replace h8 := OwS.fr h8 F243 (fun _ _ h => h)
      replace hF := hF.trans F243 (fun _ h => h.elim)
      refine st_enterW hS242 (want_on hS242 rfl rfl rfl hb223) rfl rfl (r_call hS242 rfl rfl (by kernel_rfl)) (device_Check.calls (C0 := (fun q => q = N + 18 ∨ q = N + 0 ∨ q = N + 2)) (p0 := [(api_PowerDevice.mk (-1) (Ar4.mk [0, 2] ([] : List Int) ([] : List Int) [2]) (Ar6.mk 0 3 3 4 4 4) 2 3)]) (p1 := 3) (g := g243) (N + 22)  (OwD.rd h240) (fun q (hq : q = N + 18 ∨ q = N + 0 ∨ q = N + 2) => by rcases hq with hq | hq | hq; all_goals first | (omega; done) | (omega; done) | (omega; done)) hr245) ?_
      rintro _ a246 w247 ⟨g247, rfl, F247⟩ hS246
      replace h16 := h16.fr F247 (fun (hm : N + 22 ≤ N + 4) => by omega)
      replace h240 := OwD.fr h240 F247 (fun (hm : N + 22 ≤ N + 18) => by omega) (fun q (hq : q = N + 0 ∨ q = N + 2) (hm : N + 22 ≤ q) => by rcases hq with hq | hq; all_goals first | (omega; done) | (omega; done))
      replace h3 := OwS.fr h3 F247 (fun c' hc (hm : N + 22 ≤ c') => by omega)
      replace h8 := OwS.fr h8 F247 (fun c' hc (hm : N + 22 ≤ c') => by omega)
      replace hF := hF.trans F247 (fun c' (hm : N + 22 ≤ c') => by show N ≤ c'; omega)
      refine st_valW hS246 (want_on hS246 rfl rfl rfl hb223) rfl rfl (r_bin hS246 rfl rfl rfl b_eql) fun a248 hS248 => ?_
      refine st_val hS248 rfl rfl rfl (r_pickT hS248 rfl rfl rfl hb223) fun a250 hS250 => hk _ _ ?_
      exact ⟨g247, hS250.re ⟨rfl, (by rw [← e249]; rfl), trivial⟩, h16, h3, h8, hF⟩
    · have H := ite_f hb223 ht236
      have e251 := Option.some.inj H
      refine st_off hS222 (want_off hS222 rfl rfl rfl hb223) rfl rfl fun a252 hS252 => st_off hS252 (want_off hS252 rfl rfl rfl hb223) rfl rfl fun a253 hS253 => st_off hS253 (want_off hS253 rfl rfl rfl hb223) rfl rfl fun a254 hS254 => st_off hS254 (want_off hS254 rfl rfl rfl hb223) rfl rfl fun a255 hS255 => st_val hS255 rfl rfl rfl (r_pickF hS255 rfl rfl rfl hb223) fun a256 hS256 => hk _ _ ?_
      exact ⟨g170, hS256.re ⟨rfl, (by rw [← e251]; rfl), trivial⟩, h16, h3, h8, hF⟩
  rintro a257 w237 ⟨g237, hS257, h16, h3, h8, hF⟩
  refine st_val hS257 rfl rfl rfl (r_move hS257 rfl rfl) fun a258 hS258 => ?_
  refine g_joinR 5 (fun a w273 => ∃ (g273 : Nat → Nat), Sl 89 a [(88, .bool t271)] ∧ Fr (fun q => N ≤ q) w g w273 g273) ?_ (fun hk => ?_)
  rotate_left
  · rcases Bool.eq_false_or_eq_true (t235) with hb259 | hb259
    · have H := ite_t hb259 ht272
      obtain ⟨r280, hr281, H⟩ := bind_el H
      have e285 := Option.some.inj H
      refine st_valW hS258 (want_on hS258 rfl rfl rfl hb259) rfl rfl (r_loadN (n := 13) (cs := [.int .i64 (-1), .slice A2 [0, 2].length 2, .slice none 0 0, .slice none 0 0, .slice A7 [2].length 1, .int .i64 0, .int .i64 3, .int .i64 3, .int .i64 4, .int .i64 4, .int .i64 4, .int .i64 2, .int .i64 3]) hS258 rfl rfl (by kernel_rfl) rfl (Bx.cells_off h16 0 13)) fun a274 hS274 => ?_
      refine st_effW hS274 (want_on hS274 rfl rfl rfl hb259) rfl rfl (e_litD (D := (fun q => q = N + 0 ∨ q = N + 2)) (e := 33) (parts := [(0, .agg #[.int .i64 (-1), .slice A2 [0, 2].length 2, .slice none 0 0, .slice none 0 0, .slice A7 [2].length 1, .int .i64 0, .int .i64 3, .int .i64 3, .int .i64 4, .int .i64 4, .int .i64 4, .int .i64 2, .int .i64 3])]) (cs := [.int .i64 (-1), .slice A2 [0, 2].length 2, .slice none 0 0, .slice none 0 0, .slice A7 [2].length 1, .int .i64 0, .int .i64 3, .int .i64 3, .int .i64 4, .int .i64 4, .int .i64 4, .int .i64 2, .int .i64 3]) kd_api_PowerDevice [(api_PowerDevice.mk (-1) (Ar4.mk [0, 2] ([] : List Int) ([] : List Int) [2]) (Ar6.mk 0 3 3 4 4 4) 2 3)] (N + 20) g237 hS274 rfl rfl (fun _ => by kernel_rfl) rfl (by decide) (Rows.cons (cs := [.int .i64 (-1), .slice A2 [0, 2].length 2, .slice none 0 0, .slice none 0 0, .slice A7 [2].length 1, .int .i64 0, .int .i64 3, .int .i64 3, .int .i64 4, .int .i64 4, .int .i64 4, .int .i64 2, .int .i64 3]) ⟨A2, 2, none, 0, none, 0, A7, 1, rfl, (RdS.weak (OwD.rdf (fun _ _ _ _ _ _ h => h) h3) (fun _ h => (Or.inl h))), RdS.nil (kint .i64) w237 g237 (fun q => q = N + 0 ∨ q = N + 2), RdS.nil (kint .i64) w237 g237 (fun q => q = N + 0 ∨ q = N + 2), (RdS.weak (OwD.rdf (fun _ _ _ _ _ _ h => h) h8) (fun _ h => (Or.inr h)))⟩ Rows.nil)) ?_
      rintro _ a278 w279 g279 ⟨⟨A275, rfl, h276⟩, F279⟩ hS278
      replace h16 := h16.fr F279 (fun h => h)
      replace h3 := OwS.fr h3 F279 (fun _ _ h => h)
      replace h8 := OwS.fr h8 F279 (fun _ _ h => h)
      replace hF := hF.trans F279 (fun _ h => h.elim)
      refine st_enterW hS278 (want_on hS278 rfl rfl rfl hb259) rfl rfl (r_call hS278 rfl rfl (by kernel_rfl)) (device_Check.calls (C0 := (fun q => q = N + 20 ∨ q = N + 0 ∨ q = N + 2)) (p0 := [(api_PowerDevice.mk (-1) (Ar4.mk [0, 2] ([] : List Int) ([] : List Int) [2]) (Ar6.mk 0 3 3 4 4 4) 2 3)]) (p1 := 2) (g := g279) (N + 22)  (OwD.rd h276) (fun q (hq : q = N + 20 ∨ q = N + 0 ∨ q = N + 2) => by rcases hq with hq | hq | hq; all_goals first | (omega; done) | (omega; done) | (omega; done)) hr281) ?_
      rintro _ a282 w283 ⟨g283, rfl, F283⟩ hS282
      replace h16 := h16.fr F283 (fun (hm : N + 22 ≤ N + 4) => by omega)
      replace h276 := OwD.fr h276 F283 (fun (hm : N + 22 ≤ N + 20) => by omega) (fun q (hq : q = N + 0 ∨ q = N + 2) (hm : N + 22 ≤ q) => by rcases hq with hq | hq; all_goals first | (omega; done) | (omega; done))
      replace h3 := OwS.fr h3 F283 (fun c' hc (hm : N + 22 ≤ c') => by omega)
      replace h8 := OwS.fr h8 F283 (fun c' hc (hm : N + 22 ≤ c') => by omega)
      replace hF := hF.trans F283 (fun c' (hm : N + 22 ≤ c') => by show N ≤ c'; omega)
      refine st_valW hS282 (want_on hS282 rfl rfl rfl hb259) rfl rfl (r_bin hS282 rfl rfl rfl b_eql) fun a284 hS284 => ?_
      refine st_val hS284 rfl rfl rfl (r_pickT hS284 rfl rfl rfl hb259) fun a286 hS286 => hk _ _ ?_
      exact ⟨g283, hS286.re ⟨(by rw [← e285]; rfl), trivial⟩, hF⟩
    · have H := ite_f hb259 ht272
      have e287 := Option.some.inj H
      refine st_off hS258 (want_off hS258 rfl rfl rfl hb259) rfl rfl fun a288 hS288 => st_off hS288 (want_off hS288 rfl rfl rfl hb259) rfl rfl fun a289 hS289 => st_off hS289 (want_off hS289 rfl rfl rfl hb259) rfl rfl fun a290 hS290 => st_off hS290 (want_off hS290 rfl rfl rfl hb259) rfl rfl fun a291 hS291 => st_val hS291 rfl rfl rfl (r_pickF hS291 rfl rfl rfl hb259) fun a292 hS292 => hk _ _ ?_
      exact ⟨g237, hS292.re ⟨(by rw [← e287]; rfl), trivial⟩, hF⟩
  rintro a293 w273 ⟨g273, hS293, hF⟩
  refine st_val hS293 rfl rfl rfl (r_assign hS293 rfl rfl) fun a294 hS294 => wpList_nil (hK _ _ ?_)
  replace hS : Sl 89 _ [(0, .bool t271)] := hS294.re ⟨rfl, trivial⟩
  clear hK K
  try clear hS82 hS83 hS84 hS94 hS95 hS127 hS128 hS141 hS142 hS155 hS156 hS188 hS189 hS199 hS200 hS210 hS211 hS221 hS222 hS257 hS258 hS293 hS294
  obtain ⟨a, ha⟩ : ∃ a', a' = a294 := ⟨_, rfl⟩
  rw [← ha] at hS ⊢; clear ha
  refine wp_ret ?_
  have e := Option.some.inj H
  subst e
  repeat (with_reducible first | refine then_ret ?_ | refine inBlock_ret ?_)
  exact c_ret1 hS Try.results14 rfl ⟨_, rfl, g273, rfl, hF⟩

/-! ### law27_DeviceCheckAgrees: function 3 -/
def law27_DeviceCheckAgrees.f (p0 : List api_PowerDevice) (p1 : Int) (p2 : Int) (p3 : Int) (p4 : Int) : Option (Bool) := (law27_large.f p0).bind fun r3 => if r3 = true then ((law27_awake.f ).bind fun r8 => some r8) else ((help_Mod.f p1 6).bind fun r14 => (law27_Some.f p0 r14).bind fun r21 => (device_Check.f p0 p1).bind fun r32 => (ref27_Check.f p0 p1).bind fun r38 => (if (r32 != r38) = true then some true else (device_Check.f r21 r14).bind fun r47 => (ref27_Check.f r21 r14).bind fun r53 => some (r47 != r53)).bind fun t58 => if t58 = true then (some false) else ((if decide (0 < (r21.length : Int)) = true then ((help_Mod.f p2 (r21.length : Int)).bind fun r100 => (idx r21 r100).bind fun x104 => (if ((Int.tmod p4 6) == 0) = true then (some (api_PowerDevice.mk p3 x104.Rails x104.Deepest x104.WakeDevice x104.WakeSystem)) else (if ((Int.tmod p4 6) == 1) = true then ((help_Mod.f p3 6).bind fun r162 => (help_Mod.f p2 7).bind fun r167 => (idx (Ar6.l x104.Deepest) r162).bind fun x173 => (x104.Deepest.put r162 (wi (r167 - 1))).bind fun y178 => some (api_PowerDevice.mk x104.Parent x104.Rails y178 x104.WakeDevice x104.WakeSystem)) else (if ((Int.tmod p4 6) == 2) = true then ((help_Mod.f p3 8).bind fun r186 => some (api_PowerDevice.mk x104.Parent x104.Rails x104.Deepest x104.WakeDevice (wi (r186 - 1)))) else (if ((Int.tmod p4 6) == 3) = true then ((help_Mod.f p3 7).bind fun r198 => some (api_PowerDevice.mk x104.Parent x104.Rails x104.Deepest (wi (r198 - 1)) x104.WakeSystem)) else (if ((Int.tmod p4 6) == 4) = true then ((help_Mod.f p2 4).bind fun r210 => (help_Mod.f p2 4).bind fun r220 => (idx (Ar4.l x104.Rails) r220).bind fun x225 => (app ([] : List Int) x225).bind fun y235 => (help_Mod.f p3 8).bind fun r244 => (app y235 [wi (r244 - 1)]).bind fun y254 => (idx (Ar4.l x104.Rails) r210).bind fun x263 => (x104.Rails.put r210 y254).bind fun y272 => some (api_PowerDevice.mk x104.Parent y272 x104.Deepest x104.WakeDevice x104.WakeSystem)) else (some x104))))) : Option (api_PowerDevice)).bind fun v146 => (help_Mod.f p2 (r21.length : Int)).bind fun r294 => (idx r21 r294).bind fun x296 => some (upd r21 r294 v146)) else (some r21) : Option ((List api_PowerDevice))).bind fun v89 => (device_Check.f v89 r14).bind fun r347 => (ref27_Check.f v89 r14).bind fun r353 => (if (r347 == r353) = true then (law27_awake.f ).bind fun r360 => some r360 else some false).bind fun t364 => some t364))
set_option maxRecDepth 100000 in
set_option maxHeartbeats 4000000 in
theorem law27_DeviceCheckAgrees.calls {p0 : List api_PowerDevice} {A0 : Option Addr} {cap0 : Nat} {C0 : Nat → Prop} {p1 : Int} {p2 : Int} {p3 : Int} {p4 : Int} {w : World} {g : Nat → Nat} {out : Bool} (N : Nat) (hp0 : RdS kd_api_PowerDevice w g C0 A0 cap0 p0) (hC0 : ∀ c, C0 c → c < N) (H : law27_DeviceCheckAgrees.f p0 p1 p2 p3 p4 = some out) :
    Calls Try.prog 3 #[.slice A0 p0.length cap0, .int .i64 p1, .int .i64 p2, .int .i64 p3, .int .u8 p4] w (fun e w' => ∃ v, e = .returned v ∧ ∃ (g' : Nat → Nat), v = .bool out ∧ Fr (fun q => N ≤ q) w g w' g') := by
  unfold law27_DeviceCheckAgrees.f at H
  refine calls_enter Try.func3 rfl Try.ntmps3 rfl (fun a hS => ?_)
  replace hS : Sl 110 a [(0, .slice A0 p0.length cap0), (1, .int .i64 p1), (2, .int .i64 p2), (3, .int .i64 p3), (4, .int .u8 p4)] := hS
  have hF : Fr (fun q => N ≤ q) w g w g := Fr.refl _ _ _
  refine c_pure [(0, .slice A0 p0.length cap0), (1, .int .i64 p1), (2, .int .i64 p2), (3, .int .i64 p3), (4, .int .u8 p4)] (fun R hR => st_val hS rfl rfl rfl (r_assign hS rfl rfl) fun a1 hS1 => wpList_nil (hR _ (hS1.re ⟨rfl, rfl, rfl, rfl, rfl, trivial⟩))) ?_
  clear hS
  clear a
  intro a hS
  refine wp_seq ?_
  obtain ⟨r3, hr4, H⟩ := bind_el H
  refine c_region (fun K hK => ?_)
  refine st_val hS rfl rfl rfl (r_move hS rfl rfl) fun a2 hS2 => ?_
  refine st_enter hS2 rfl rfl rfl (r_call hS2 rfl rfl (by kernel_rfl)) (law27_large.calls (C0 := C0) (p0 := p0) (g := g) (N + 8)  hp0 (fun q (hq : C0 q) => by have := hC0 q hq; omega) hr4) ?_
  rintro _ a5 w6 ⟨g6, rfl, F6⟩ hS5
  replace hp0 := RdS.fr hp0 F6 (by decide) (fun q (hq : C0 q) (hm : N + 8 ≤ q) => by have := hC0 q hq; omega)
  replace hF := hF.trans F6 (fun c' (hm : N + 8 ≤ c') => by show N ≤ c'; omega)
  refine wpList_nil (hK _ _ ?_)
  replace hS : Sl 110 _ [(0, .slice A0 p0.length cap0), (1, .int .i64 p1), (2, .int .i64 p2), (3, .int .i64 p3), (4, .int .u8 p4), (15, .bool r3)] := hS5.re ⟨rfl, rfl, rfl, rfl, rfl, rfl, trivial⟩
  clear hK K
  try clear hS2 hS5
  obtain ⟨a, ha⟩ : ∃ a', a' = a5 := ⟨_, rfl⟩
  rw [← ha] at hS ⊢; clear ha
  refine c_cond hS rfl (fun hb7 => ?_) (fun hb7 => ?_)
  · replace H := ite_t hb7 H
    obtain ⟨r8, hr9, H⟩ := bind_el H
    refine c_region (fun K hK => ?_)
    refine st_enter hS rfl rfl rfl (r_call hS rfl rfl (by kernel_rfl)) (law27_awake.calls (g := g6) (N + 8)   hr9) ?_
    rintro _ a10 w11 ⟨g11, rfl, F11⟩ hS10
    replace hp0 := RdS.fr hp0 F11 (by decide) (fun q (hq : C0 q) (hm : N + 8 ≤ q) => by have := hC0 q hq; omega)
    replace hF := hF.trans F11 (fun c' (hm : N + 8 ≤ c') => by show N ≤ c'; omega)
    refine st_val hS10 rfl rfl rfl (r_assign hS10 rfl rfl) fun a12 hS12 => wpList_nil (hK _ _ ?_)
    replace hS : Sl 110 _ [(10, .bool r8)] := hS12.re ⟨rfl, trivial⟩
    clear hK K
    try clear hS10 hS12
    obtain ⟨a, ha⟩ : ∃ a', a' = a12 := ⟨_, rfl⟩
    rw [← ha] at hS ⊢; clear ha
    refine wp_ret ?_
    have e := Option.some.inj H
    subst e
    repeat (with_reducible first | refine then_ret ?_ | refine inBlock_ret ?_)
    exact c_ret1 hS Try.results3 rfl ⟨_, rfl, g11, rfl, hF⟩
  · replace H := ite_f hb7 H
    refine wp_skip ?_
    change Code.wp _ _ _ _ _
    obtain ⟨r14, hr15, H⟩ := bind_el H
    refine c_region (fun K hK => ?_)
    refine st_val hS rfl rfl rfl (r_move hS rfl rfl) fun a13 hS13 => ?_
    refine st_enter hS13 rfl rfl rfl (r_call hS13 rfl rfl (by kernel_rfl)) (help_Mod.calls (p0 := p1) (p1 := 6) (g := g6) (N + 8)   hr15) ?_
    rintro _ a16 w17 ⟨g17, rfl, F17⟩ hS16
    replace hp0 := RdS.fr hp0 F17 (by decide) (fun q (hq : C0 q) (hm : N + 8 ≤ q) => by have := hC0 q hq; omega)
    replace hF := hF.trans F17 (fun c' (hm : N + 8 ≤ c') => by show N ≤ c'; omega)
    refine st_val hS16 rfl rfl rfl (r_assign hS16 rfl rfl) fun a18 hS18 => wpList_nil (hK _ _ ?_)
    replace hS : Sl 110 _ [(0, .slice A0 p0.length cap0), (1, .int .i64 p1), (2, .int .i64 p2), (3, .int .i64 p3), (4, .int .u8 p4), (11, .int .i64 r14)] := hS18.re ⟨rfl, rfl, rfl, rfl, rfl, rfl, trivial⟩
    clear hK K
    try clear hS13 hS16 hS18
    obtain ⟨a, ha⟩ : ∃ a', a' = a18 := ⟨_, rfl⟩
    rw [← ha] at hS ⊢; clear ha
    obtain ⟨r21, hr22, H⟩ := bind_el H
    refine c_region (fun K hK => ?_)
    refine st_val hS rfl rfl rfl (r_move hS rfl rfl) fun a19 hS19 => st_val hS19 rfl rfl rfl (r_move hS19 rfl rfl) fun a20 hS20 => ?_
    refine st_enter hS20 rfl rfl rfl (r_call hS20 rfl rfl (by kernel_rfl)) (law27_Some.calls (C0 := C0) (p0 := p0) (p1 := r14) (g := g17) (N + 8) (N + 0) hp0 (fun q (hq : C0 q) => by have := hC0 q hq; omega) (by omega) hr22) ?_
    rintro _ a27 w28 ⟨g28, A23, cap24, rfl, h25, F28⟩ hS27
    replace hp0 := RdS.fr hp0 F28 (by decide) (fun q (hq : C0 q) (hm : (N + 0 ≤ q ∧ q < N + 0 + 2) ∨ N + 8 ≤ q) => by have := hC0 q hq; omega)
    replace hF := hF.trans F28 (fun c' (hm : (N + 0 ≤ c' ∧ c' < N + 0 + 2) ∨ N + 8 ≤ c') => by show N ≤ c'; omega)
    refine st_val hS27 rfl rfl rfl (r_assign hS27 rfl rfl) fun a29 hS29 => wpList_nil (hK _ _ ?_)
    replace hS : Sl 110 _ [(0, .slice A0 p0.length cap0), (1, .int .i64 p1), (2, .int .i64 p2), (3, .int .i64 p3), (4, .int .u8 p4), (11, .int .i64 r14), (12, .slice A23 r21.length cap24)] := hS29.re ⟨rfl, rfl, rfl, rfl, rfl, rfl, rfl, trivial⟩
    clear hK K
    try clear hS19 hS20 hS27 hS29
    obtain ⟨a, ha⟩ : ∃ a', a' = a29 := ⟨_, rfl⟩
    rw [← ha] at hS ⊢; clear ha
    refine wp_seq ?_
    obtain ⟨r32, hr33, H⟩ := bind_el H
    obtain ⟨r38, hr39, H⟩ := bind_el H
    obtain ⟨t58, ht59, H⟩ := bind_el H
    refine c_region (fun K hK => ?_)
    refine st_val hS rfl rfl rfl (r_move hS rfl rfl) fun a30 hS30 => st_val hS30 rfl rfl rfl (r_move hS30 rfl rfl) fun a31 hS31 => ?_
    refine st_enter hS31 rfl rfl rfl (r_call hS31 rfl rfl (by kernel_rfl)) (device_Check.calls (C0 := C0) (p0 := p0) (p1 := p1) (g := g28) (N + 8)  hp0 (fun q (hq : C0 q) => by have := hC0 q hq; omega) hr33) ?_
    rintro _ a34 w35 ⟨g35, rfl, F35⟩ hS34
    replace h25 := OwS.fr h25 F35 (fun c' hc (hm : N + 8 ≤ c') => by omega)
    replace hp0 := RdS.fr hp0 F35 (by decide) (fun q (hq : C0 q) (hm : N + 8 ≤ q) => by have := hC0 q hq; omega)
    replace hF := hF.trans F35 (fun c' (hm : N + 8 ≤ c') => by show N ≤ c'; omega)
    refine st_val hS34 rfl rfl rfl (r_move hS34 rfl rfl) fun a36 hS36 => st_val hS36 rfl rfl rfl (r_move hS36 rfl rfl) fun a37 hS37 => ?_
    refine st_enter hS37 rfl rfl rfl (r_call hS37 rfl rfl (by kernel_rfl)) (ref27_Check.calls (C0 := C0) (p0 := p0) (p1 := p1) (g := g35) (N + 8)  hp0 (fun q (hq : C0 q) => by have := hC0 q hq; omega) hr39) ?_
    rintro _ a40 w41 ⟨g41, rfl, F41⟩ hS40
    replace h25 := OwS.fr h25 F41 (fun c' hc (hm : N + 8 ≤ c') => by omega)
    replace hp0 := RdS.fr hp0 F41 (by decide) (fun q (hq : C0 q) (hm : N + 8 ≤ q) => by have := hC0 q hq; omega)
    replace hF := hF.trans F41 (fun c' (hm : N + 8 ≤ c') => by show N ≤ c'; omega)
    refine st_val hS40 rfl rfl rfl (r_bin hS40 rfl rfl rfl b_neq) fun a42 hS42 => st_val hS42 rfl rfl rfl (r_move hS42 rfl rfl) fun a43 hS43 => ?_
    refine g_joinR 8 (fun a w60 => ∃ (g60 : Nat → Nat), Sl 110 a [(2, .int .i64 p2), (3, .int .i64 p3), (4, .int .u8 p4), (11, .int .i64 r14), (12, .slice A23 r21.length cap24), (37, .bool t58)] ∧ OwS kd_api_PowerDevice 33 w60 g60 (N + 0) A23 cap24 r21 ∧ Fr (fun q => N ≤ q) w g w60 g60) ?_ (fun hk => ?_)
    rotate_left
    · rcases Bool.eq_false_or_eq_true ((r32 != r38)) with hb44 | hb44
      · have H := ite_t hb44 ht59
        have e61 := Option.some.inj H
        refine st_off hS43 (want_off hS43 rfl rfl rfl hb44) rfl rfl fun a62 hS62 => st_off hS62 (want_off hS62 rfl rfl rfl hb44) rfl rfl fun a63 hS63 => st_off hS63 (want_off hS63 rfl rfl rfl hb44) rfl rfl fun a64 hS64 => st_off hS64 (want_off hS64 rfl rfl rfl hb44) rfl rfl fun a65 hS65 => st_off hS65 (want_off hS65 rfl rfl rfl hb44) rfl rfl fun a66 hS66 => st_off hS66 (want_off hS66 rfl rfl rfl hb44) rfl rfl fun a67 hS67 => st_off hS67 (want_off hS67 rfl rfl rfl hb44) rfl rfl fun a68 hS68 => st_val hS68 rfl rfl rfl (r_pickT hS68 rfl rfl rfl hb44) fun a69 hS69 => hk _ _ ?_
        exact ⟨g41, hS69.re ⟨rfl, rfl, rfl, rfl, rfl, (by rw [← e61]; rfl), trivial⟩, h25, hF⟩
      · have H := ite_f hb44 ht59
        obtain ⟨r72, hr73, H⟩ := bind_el H
        obtain ⟨r78, hr79, H⟩ := bind_el H
        have e83 := Option.some.inj H
        refine st_valW hS43 (want_on hS43 rfl rfl rfl hb44) rfl rfl (r_move hS43 rfl rfl) fun a70 hS70 => st_valW hS70 (want_on hS70 rfl rfl rfl hb44) rfl rfl (r_move hS70 rfl rfl) fun a71 hS71 => ?_
        refine st_enterW hS71 (want_on hS71 rfl rfl rfl hb44) rfl rfl (r_call hS71 rfl rfl (by kernel_rfl)) (device_Check.calls (C0 := (fun q => q = N + 0 ∨ q = N + 0 + 1)) (p0 := r21) (p1 := r14) (g := g41) (N + 8)  (OwS.rd h25) (fun q (hq : q = N + 0 ∨ q = N + 0 + 1) => by rcases hq with hq | hq; all_goals first | (omega; done) | (omega; done)) hr73) ?_
        rintro _ a74 w75 ⟨g75, rfl, F75⟩ hS74
        replace h25 := OwS.fr h25 F75 (fun c' hc (hm : N + 8 ≤ c') => by omega)
        replace hp0 := RdS.fr hp0 F75 (by decide) (fun q (hq : C0 q) (hm : N + 8 ≤ q) => by have := hC0 q hq; omega)
        replace hF := hF.trans F75 (fun c' (hm : N + 8 ≤ c') => by show N ≤ c'; omega)
        refine st_valW hS74 (want_on hS74 rfl rfl rfl hb44) rfl rfl (r_move hS74 rfl rfl) fun a76 hS76 => st_valW hS76 (want_on hS76 rfl rfl rfl hb44) rfl rfl (r_move hS76 rfl rfl) fun a77 hS77 => ?_
        refine st_enterW hS77 (want_on hS77 rfl rfl rfl hb44) rfl rfl (r_call hS77 rfl rfl (by kernel_rfl)) (ref27_Check.calls (C0 := (fun q => q = N + 0 ∨ q = N + 0 + 1)) (p0 := r21) (p1 := r14) (g := g75) (N + 8)  (OwS.rd h25) (fun q (hq : q = N + 0 ∨ q = N + 0 + 1) => by rcases hq with hq | hq; all_goals first | (omega; done) | (omega; done)) hr79) ?_
        rintro _ a80 w81 ⟨g81, rfl, F81⟩ hS80
        replace h25 := OwS.fr h25 F81 (fun c' hc (hm : N + 8 ≤ c') => by omega)
        replace hp0 := RdS.fr hp0 F81 (by decide) (fun q (hq : C0 q) (hm : N + 8 ≤ q) => by have := hC0 q hq; omega)
        replace hF := hF.trans F81 (fun c' (hm : N + 8 ≤ c') => by show N ≤ c'; omega)
        refine st_valW hS80 (want_on hS80 rfl rfl rfl hb44) rfl rfl (r_bin hS80 rfl rfl rfl b_neq) fun a82 hS82 => ?_
        refine st_val hS82 rfl rfl rfl (r_pickF hS82 rfl rfl rfl hb44) fun a84 hS84 => hk _ _ ?_
        exact ⟨g81, hS84.re ⟨rfl, rfl, rfl, rfl, rfl, (by rw [← e83]; rfl), trivial⟩, h25, hF⟩
    rintro a85 w60 ⟨g60, hS85, h25, hF⟩
    refine wpList_nil (hK _ _ ?_)
    replace hS : Sl 110 _ [(2, .int .i64 p2), (3, .int .i64 p3), (4, .int .u8 p4), (11, .int .i64 r14), (12, .slice A23 r21.length cap24), (37, .bool t58)] := hS85.re ⟨rfl, rfl, rfl, rfl, rfl, rfl, trivial⟩
    clear hK K
    try clear hS30 hS31 hS34 hS36 hS37 hS40 hS42 hS43 hS85
    obtain ⟨a, ha⟩ : ∃ a', a' = a85 := ⟨_, rfl⟩
    rw [← ha] at hS ⊢; clear ha
    refine c_cond hS rfl (fun hb86 => ?_) (fun hb86 => ?_)
    · replace H := ite_t hb86 H
      refine c_pure [(10, .bool false)] (fun R hR => st_val hS rfl rfl rfl (r_assign hS rfl rfl) fun a87 hS87 => wpList_nil (hR _ (hS87.re ⟨rfl, trivial⟩))) ?_
      clear hS
      clear a
      intro a hS
      refine wp_ret ?_
      have e := Option.some.inj H
      subst e
      repeat (with_reducible first | refine then_ret ?_ | refine inBlock_ret ?_)
      exact c_ret1 hS Try.results3 rfl ⟨_, rfl, g60, rfl, hF⟩
    · replace H := ite_f hb86 H
      refine wp_skip ?_
      change Code.wp _ _ _ _ _
      obtain ⟨v89, H, Hl91⟩ := bind_el H
      refine c_cut (fun a w88 => ∃ (g88 : Nat → Nat), Sl 110 a [(11, .int .i64 r14), (12, .slice A23 v89.length cap24)] ∧ OwS kd_api_PowerDevice 33 w88 g88 (N + 0) A23 cap24 v89 ∧ Fr (fun q => N ≤ q) w g w88 g88) ?_ ?_
      · refine c_pure [(2, .int .i64 p2), (3, .int .i64 p3), (4, .int .u8 p4), (11, .int .i64 r14), (12, .slice A23 r21.length cap24), (40, .bool (decide (0 < (r21.length : Int))))] (fun R hR => st_val hS rfl rfl rfl (r_move hS rfl rfl) fun a92 hS92 => st_val hS92 rfl rfl rfl (r_len (e := 33) (sz := 13) (by_ := 168) hS92 rfl rfl (by kernel_rfl)) fun a93 hS93 => st_val hS93 rfl rfl rfl (r_bin hS93 rfl rfl rfl b_gtr) fun a94 hS94 => wpList_nil (hR _ (hS94.re ⟨rfl, rfl, rfl, rfl, rfl, rfl, trivial⟩))) ?_
        clear hS
        clear a
        intro a hS
        refine c_cond hS rfl (fun hb95 => ?_) (fun hb95 => ?_)
        · replace H := ite_t hb95 H
          obtain ⟨r100, hr101, H⟩ := bind_el H
          obtain ⟨x104, hx105, H⟩ := bind_el H
          refine c_region (fun K hK => ?_)
          refine st_val hS rfl rfl rfl (r_move hS rfl rfl) fun a96 hS96 => st_val hS96 rfl rfl rfl (r_move hS96 rfl rfl) fun a97 hS97 => st_val hS97 rfl rfl rfl (r_move hS97 rfl rfl) fun a98 hS98 => st_val hS98 rfl rfl rfl (r_len (e := 33) (sz := 13) (by_ := 168) hS98 rfl rfl (by kernel_rfl)) fun a99 hS99 => ?_
          refine st_enter hS99 rfl rfl rfl (r_call hS99 rfl rfl (by kernel_rfl)) (help_Mod.calls (p0 := p2) (p1 := (r21.length : Int)) (g := g60) (N + 8)   hr101) ?_
          rintro _ a102 w103 ⟨g103, rfl, F103⟩ hS102
          replace h25 := OwS.fr h25 F103 (fun c' hc (hm : N + 8 ≤ c') => by omega)
          replace hF := hF.trans F103 (fun c' (hm : N + 8 ≤ c') => by show N ≤ c'; omega)
          obtain ⟨_, ⟨A107, cap108, A111, cap112, A115, cap116, A119, cap120, rfl, h109, h113, h117, h121⟩, hel106⟩ := El.of (OwD.rdx h25) hx105 (by decide)
          replace hel106 : El w103 g103 (fun q => q = N + 0) A23 (r100.toNat * 13) [.int .i64 x104.Parent, .slice A107 x104.Rails.a0.length cap108, .slice A111 x104.Rails.a1.length cap112, .slice A115 x104.Rails.a2.length cap116, .slice A119 x104.Rails.a3.length cap120, .int .i64 x104.Deepest.a0, .int .i64 x104.Deepest.a1, .int .i64 x104.Deepest.a2, .int .i64 x104.Deepest.a3, .int .i64 x104.Deepest.a4, .int .i64 x104.Deepest.a5, .int .i64 x104.WakeDevice, .int .i64 x104.WakeSystem] := hel106
          refine st_val hS102 rfl rfl rfl (r_index (e := 33) (sz := 13) (by_ := 168) hS102 rfl rfl rfl (by kernel_rfl) (RdS.some_ (OwS.rd h25) hx105) (idx_lo hx105) (idx_hi hx105)) fun a124 hS124 => st_val hS124 rfl rfl rfl (r_loadN (n := 13) (cs := [.int .i64 x104.Parent, .slice A107 x104.Rails.a0.length cap108, .slice A111 x104.Rails.a1.length cap112, .slice A115 x104.Rails.a2.length cap116, .slice A119 x104.Rails.a3.length cap120, .int .i64 x104.Deepest.a0, .int .i64 x104.Deepest.a1, .int .i64 x104.Deepest.a2, .int .i64 x104.Deepest.a3, .int .i64 x104.Deepest.a4, .int .i64 x104.Deepest.a5, .int .i64 x104.WakeDevice, .int .i64 x104.WakeSystem]) hS124 rfl rfl (by kernel_rfl) rfl (El.cells_off hel106 0 13)) fun a125 hS125 => ?_
          refine st_eff hS125 rfl rfl rfl (e_alloc (cs := [.int .i64 0, .slice none 0 0, .slice none 0 0, .slice none 0 0, .slice none 0 0, .int .i64 0, .int .i64 0, .int .i64 0, .int .i64 0, .int .i64 0, .int .i64 0, .int .i64 0, .int .i64 0]) (N + 2) g103 hS125 rfl (by kernel_rfl)) ?_
          rintro _ a129 w130 g130 ⟨⟨b126, rfl, h127⟩, F130⟩ hS129
          replace h109 := RdS.fr h109 F130 (by decide) (fun _ _ h => h)
          replace h113 := RdS.fr h113 F130 (by decide) (fun _ _ h => h)
          replace h117 := RdS.fr h117 F130 (by decide) (fun _ _ h => h)
          replace h121 := RdS.fr h121 F130 (by decide) (fun _ _ h => h)
          replace hel106 := hel106.fr F130 (fun _ _ h => h)
          replace h25 := OwS.fr h25 F130 (fun _ _ h => h)
          replace hF := hF.trans F130 (fun _ h => h.elim)
          refine st_effS hS129 rfl rfl (e_storeB (n := 13) (bb := true) (cs' := [.int .i64 x104.Parent, .slice A107 x104.Rails.a0.length cap108, .slice A111 x104.Rails.a1.length cap112, .slice A115 x104.Rails.a2.length cap116, .slice A119 x104.Rails.a3.length cap120, .int .i64 x104.Deepest.a0, .int .i64 x104.Deepest.a1, .int .i64 x104.Deepest.a2, .int .i64 x104.Deepest.a3, .int .i64 x104.Deepest.a4, .int .i64 x104.Deepest.a5, .int .i64 x104.WakeDevice, .int .i64 x104.WakeSystem]) g130 hS129 rfl rfl rfl (by kernel_rfl) rfl rfl rfl h127 rfl rfl) ?_
          rintro a131 w132 g132 ⟨h127, F132⟩ hS131
          replace h109 := RdS.fr h109 F132 (by decide) (fun q (hq : q = N + 0 + 1) (hm : q = N + 2) => by omega)
          replace h113 := RdS.fr h113 F132 (by decide) (fun q (hq : q = N + 0 + 1) (hm : q = N + 2) => by omega)
          replace h117 := RdS.fr h117 F132 (by decide) (fun q (hq : q = N + 0 + 1) (hm : q = N + 2) => by omega)
          replace h121 := RdS.fr h121 F132 (by decide) (fun q (hq : q = N + 0 + 1) (hm : q = N + 2) => by omega)
          replace hel106 := hel106.fr F132 (fun q (hq : q = N + 0) (hm : q = N + 2) => by omega)
          replace h25 := OwS.fr h25 F132 (fun c' hc (hm : c' = N + 2) => by omega)
          replace hF := hF.trans F132 (fun c' (hm : c' = N + 2) => by show N ≤ c'; omega)
          refine wpList_nil (hK _ _ ?_)
          replace hS : Sl 110 _ [(2, .int .i64 p2), (3, .int .i64 p3), (4, .int .u8 p4), (11, .int .i64 r14), (12, .slice A23 r21.length cap24), (13, .pointer (some ⟨b126, 0, none⟩))] := hS131.re ⟨rfl, rfl, rfl, rfl, rfl, rfl, trivial⟩
          clear hK K
          try clear hS96 hS97 hS98 hS99 hS102 hS124 hS125 hS129 hS131
          obtain ⟨a, ha⟩ : ∃ a', a' = a131 := ⟨_, rfl⟩
          rw [← ha] at hS ⊢; clear ha
          obtain ⟨v146, H, Hl148⟩ := bind_el H
          refine c_cut (fun a w133 => ∃ (g133 : Nat → Nat), ∃ (A134 : Option Addr), ∃ (cap135 : Nat), ∃ (A137 : Option Addr), ∃ (cap138 : Nat), ∃ (A140 : Option Addr), ∃ (cap141 : Nat), ∃ (A143 : Option Addr), ∃ (cap144 : Nat), Sl 110 a [(2, .int .i64 p2), (11, .int .i64 r14), (12, .slice A23 r21.length cap24), (13, .pointer (some ⟨b126, 0, none⟩))] ∧ Bx w133 g133 (N + 2) b126 33 [.int .i64 v146.Parent, .slice A134 v146.Rails.a0.length cap135, .slice A137 v146.Rails.a1.length cap138, .slice A140 v146.Rails.a2.length cap141, .slice A143 v146.Rails.a3.length cap144, .int .i64 v146.Deepest.a0, .int .i64 v146.Deepest.a1, .int .i64 v146.Deepest.a2, .int .i64 v146.Deepest.a3, .int .i64 v146.Deepest.a4, .int .i64 v146.Deepest.a5, .int .i64 v146.WakeDevice, .int .i64 v146.WakeSystem] ∧ OwS kd_api_PowerDevice 33 w133 g133 (N + 0) A23 cap24 r21 ∧ RdS (kint .i64) w133 g133 (fun q => q = N + 0 + 1) A134 cap135 v146.Rails.a0 ∧ RdS (kint .i64) w133 g133 (fun q => q = N + 0 + 1) A137 cap138 v146.Rails.a1 ∧ RdS (kint .i64) w133 g133 (fun q => q = N + 0 + 1) A140 cap141 v146.Rails.a2 ∧ RdS (kint .i64) w133 g133 (fun q => q = N + 0 + 1) A143 cap144 v146.Rails.a3 ∧ Fr (fun q => N ≤ q) w g w133 g133) ?_ ?_
          · refine c_pure [(2, .int .i64 p2), (3, .int .i64 p3), (11, .int .i64 r14), (12, .slice A23 r21.length cap24), (13, .pointer (some ⟨b126, 0, none⟩)), (49, .int .u8 (Int.tmod p4 6))] (fun R hR => st_val hS rfl rfl rfl (r_move hS rfl rfl) fun a149 hS149 => st_val hS149 rfl rfl rfl (r_bin hS149 rfl rfl rfl (b_rem (by decide))) fun a150 hS150 => wpList_nil (hR _ (hS150.re ⟨rfl, rfl, rfl, rfl, rfl, rfl, trivial⟩))) ?_
            clear hS
            clear a
            intro a hS
            refine wp_block ?_
            refine c_pure [(2, .int .i64 p2), (3, .int .i64 p3), (11, .int .i64 r14), (12, .slice A23 r21.length cap24), (13, .pointer (some ⟨b126, 0, none⟩)), (49, .int .u8 (Int.tmod p4 6)), (50, .bool ((Int.tmod p4 6) == 0))] (fun R hR => st_val hS rfl rfl rfl (r_bin hS rfl rfl rfl b_eql) fun a151 hS151 => st_val hS151 rfl rfl rfl (r_assign hS151 rfl rfl) fun a152 hS152 => wpList_nil (hR _ (hS152.re ⟨rfl, rfl, rfl, rfl, rfl, rfl, rfl, trivial⟩))) ?_
            clear hS
            clear a
            intro a hS
            refine c_cond hS rfl (fun hb153 => ?_) (fun hb153 => ?_)
            · replace H := ite_t hb153 H
              refine c_region1 (fun K hK => ?_)
              refine st_val hS rfl rfl rfl (r_move hS rfl rfl) fun a154 hS154 => st_val hS154 rfl rfl rfl (r_fieldB (off := 0) hS154 rfl rfl (by kernel_rfl)) fun a155 hS155 => ?_
              refine st_effS hS155 rfl rfl (e_storeB (n := 1) (bb := false) (cs' := [.int .i64 p3, .slice A107 x104.Rails.a0.length cap108, .slice A111 x104.Rails.a1.length cap112, .slice A115 x104.Rails.a2.length cap116, .slice A119 x104.Rails.a3.length cap120, .int .i64 x104.Deepest.a0, .int .i64 x104.Deepest.a1, .int .i64 x104.Deepest.a2, .int .i64 x104.Deepest.a3, .int .i64 x104.Deepest.a4, .int .i64 x104.Deepest.a5, .int .i64 x104.WakeDevice, .int .i64 x104.WakeSystem]) g132 hS155 rfl rfl rfl (by kernel_rfl) rfl rfl rfl h127 rfl rfl) ?_
              rintro a156 w157 g157 ⟨h127, F157⟩ hS156
              replace h109 := RdS.fr h109 F157 (by decide) (fun q (hq : q = N + 0 + 1) (hm : q = N + 2) => by omega)
              replace h113 := RdS.fr h113 F157 (by decide) (fun q (hq : q = N + 0 + 1) (hm : q = N + 2) => by omega)
              replace h117 := RdS.fr h117 F157 (by decide) (fun q (hq : q = N + 0 + 1) (hm : q = N + 2) => by omega)
              replace h121 := RdS.fr h121 F157 (by decide) (fun q (hq : q = N + 0 + 1) (hm : q = N + 2) => by omega)
              replace h25 := OwS.fr h25 F157 (fun c' hc (hm : c' = N + 2) => by omega)
              replace hF := hF.trans F157 (fun c' (hm : c' = N + 2) => by show N ≤ c'; omega)
              refine wpList_nil (hK _ _ ?_)
              replace hS : Sl 110 _ [(2, .int .i64 p2), (11, .int .i64 r14), (12, .slice A23 r21.length cap24), (13, .pointer (some ⟨b126, 0, none⟩))] := hS156.re ⟨rfl, rfl, rfl, rfl, trivial⟩
              clear hK K
              try clear hS154 hS155 hS156
              obtain ⟨a, ha⟩ : ∃ a', a' = a156 := ⟨_, rfl⟩
              rw [← ha] at hS ⊢; clear ha
              have e := Option.some.inj H
              subst e
              exact ⟨g157, A107, cap108, A111, cap112, A115, cap116, A119, cap120, hS.re ⟨rfl, rfl, rfl, rfl, trivial⟩, h127, h25, h109, h113, h117, h121, hF⟩
            · replace H := ite_f hb153 H
              refine c_pure [(2, .int .i64 p2), (3, .int .i64 p3), (11, .int .i64 r14), (12, .slice A23 r21.length cap24), (13, .pointer (some ⟨b126, 0, none⟩)), (49, .int .u8 (Int.tmod p4 6)), (54, .bool ((Int.tmod p4 6) == 1))] (fun R hR => st_val hS rfl rfl rfl (r_bin hS rfl rfl rfl b_eql) fun a158 hS158 => st_val hS158 rfl rfl rfl (r_assign hS158 rfl rfl) fun a159 hS159 => wpList_nil (hR _ (hS159.re ⟨rfl, rfl, rfl, rfl, rfl, rfl, rfl, trivial⟩))) ?_
              clear hS
              clear a
              intro a hS
              refine c_cond hS rfl (fun hb160 => ?_) (fun hb160 => ?_)
              · replace H := ite_t hb160 H
                obtain ⟨r162, hr163, H⟩ := bind_el H
                obtain ⟨r167, hr168, H⟩ := bind_el H
                obtain ⟨x173, hx174, H⟩ := bind_el H
                obtain ⟨y178, hy179, H⟩ := bind_el H
                refine c_region1 (fun K hK => ?_)
                refine st_val hS rfl rfl rfl (r_move hS rfl rfl) fun a161 hS161 => ?_
                refine st_enter hS161 rfl rfl rfl (r_call hS161 rfl rfl (by kernel_rfl)) (help_Mod.calls (p0 := p3) (p1 := 6) (g := g132) (N + 8)   hr163) ?_
                rintro _ a164 w165 ⟨g165, rfl, F165⟩ hS164
                replace h109 := RdS.fr h109 F165 (by decide) (fun q (hq : q = N + 0 + 1) (hm : N + 8 ≤ q) => by omega)
                replace h113 := RdS.fr h113 F165 (by decide) (fun q (hq : q = N + 0 + 1) (hm : N + 8 ≤ q) => by omega)
                replace h117 := RdS.fr h117 F165 (by decide) (fun q (hq : q = N + 0 + 1) (hm : N + 8 ≤ q) => by omega)
                replace h121 := RdS.fr h121 F165 (by decide) (fun q (hq : q = N + 0 + 1) (hm : N + 8 ≤ q) => by omega)
                replace h127 := h127.fr F165 (fun (hm : N + 8 ≤ N + 2) => by omega)
                replace h25 := OwS.fr h25 F165 (fun c' hc (hm : N + 8 ≤ c') => by omega)
                replace hF := hF.trans F165 (fun c' (hm : N + 8 ≤ c') => by show N ≤ c'; omega)
                refine st_val hS164 rfl rfl rfl (r_move hS164 rfl rfl) fun a166 hS166 => ?_
                refine st_enter hS166 rfl rfl rfl (r_call hS166 rfl rfl (by kernel_rfl)) (help_Mod.calls (p0 := p2) (p1 := 7) (g := g165) (N + 8)   hr168) ?_
                rintro _ a169 w170 ⟨g170, rfl, F170⟩ hS169
                replace h109 := RdS.fr h109 F170 (by decide) (fun q (hq : q = N + 0 + 1) (hm : N + 8 ≤ q) => by omega)
                replace h113 := RdS.fr h113 F170 (by decide) (fun q (hq : q = N + 0 + 1) (hm : N + 8 ≤ q) => by omega)
                replace h117 := RdS.fr h117 F170 (by decide) (fun q (hq : q = N + 0 + 1) (hm : N + 8 ≤ q) => by omega)
                replace h121 := RdS.fr h121 F170 (by decide) (fun q (hq : q = N + 0 + 1) (hm : N + 8 ≤ q) => by omega)
                replace h127 := h127.fr F170 (fun (hm : N + 8 ≤ N + 2) => by omega)
                replace h25 := OwS.fr h25 F170 (fun c' hc (hm : N + 8 ≤ c') => by omega)
                replace hF := hF.trans F170 (fun c' (hm : N + 8 ≤ c') => by show N ≤ c'; omega)
                refine st_val hS169 rfl rfl rfl (r_bin hS169 rfl rfl rfl b_sub) fun a171 hS171 => st_val hS171 rfl rfl rfl (r_fieldB (off := 5) hS171 rfl rfl (by kernel_rfl)) fun a172 hS172 => ?_
                have he175 : (([.int .i64 x104.Parent, .slice A107 x104.Rails.a0.length cap108, .slice A111 x104.Rails.a1.length cap112, .slice A115 x104.Rails.a2.length cap116, .slice A119 x104.Rails.a3.length cap120, .int .i64 x104.Deepest.a0, .int .i64 x104.Deepest.a1, .int .i64 x104.Deepest.a2, .int .i64 x104.Deepest.a3, .int .i64 x104.Deepest.a4, .int .i64 x104.Deepest.a5, .int .i64 x104.WakeDevice, .int .i64 x104.WakeSystem] : List Value).drop (5 + r162.toNat * 1)).take 1 = [.int .i64 x173] := by rcases Ar6.cases hx174 with ⟨e, e2⟩ | ⟨e, e2⟩ | ⟨e, e2⟩ | ⟨e, e2⟩ | ⟨e, e2⟩ | ⟨e, e2⟩ <;> (rw [e, e2] <;> rfl)
                refine st_val hS172 rfl rfl rfl (r_ixB (n := 6) (e := 3) (sz := 1) (bb := false) hS172 rfl rfl rfl (by kernel_rfl) (idx_lo hx174) (Ar6.lt hx174)) fun a177 hS177 => ?_
                refine st_effS hS177 rfl rfl (e_storeB (n := 1) (bb := false) (cs' := [.int .i64 x104.Parent, .slice A107 x104.Rails.a0.length cap108, .slice A111 x104.Rails.a1.length cap112, .slice A115 x104.Rails.a2.length cap116, .slice A119 x104.Rails.a3.length cap120, .int .i64 y178.a0, .int .i64 y178.a1, .int .i64 y178.a2, .int .i64 y178.a3, .int .i64 y178.a4, .int .i64 y178.a5, .int .i64 x104.WakeDevice, .int .i64 x104.WakeSystem]) g170 hS177 rfl rfl rfl (by kernel_rfl) rfl rfl rfl h127 (by rcases Ar6.put_cases hy179 with ⟨e, e2⟩ | ⟨e, e2⟩ | ⟨e, e2⟩ | ⟨e, e2⟩ | ⟨e, e2⟩ | ⟨e, e2⟩ <;> (rw [e] <;> rfl)) (by rcases Ar6.put_cases hy179 with ⟨e, e2⟩ | ⟨e, e2⟩ | ⟨e, e2⟩ | ⟨e, e2⟩ | ⟨e, e2⟩ | ⟨e, e2⟩ <;> (rw [e, e2] <;> rfl))) ?_
                rintro a180 w181 g181 ⟨h127, F181⟩ hS180
                replace h109 := RdS.fr h109 F181 (by decide) (fun q (hq : q = N + 0 + 1) (hm : q = N + 2) => by omega)
                replace h113 := RdS.fr h113 F181 (by decide) (fun q (hq : q = N + 0 + 1) (hm : q = N + 2) => by omega)
                replace h117 := RdS.fr h117 F181 (by decide) (fun q (hq : q = N + 0 + 1) (hm : q = N + 2) => by omega)
                replace h121 := RdS.fr h121 F181 (by decide) (fun q (hq : q = N + 0 + 1) (hm : q = N + 2) => by omega)
                replace h25 := OwS.fr h25 F181 (fun c' hc (hm : c' = N + 2) => by omega)
                replace hF := hF.trans F181 (fun c' (hm : c' = N + 2) => by show N ≤ c'; omega)
                refine wpList_nil (hK _ _ ?_)
                replace hS : Sl 110 _ [(2, .int .i64 p2), (11, .int .i64 r14), (12, .slice A23 r21.length cap24), (13, .pointer (some ⟨b126, 0, none⟩))] := hS180.re ⟨rfl, rfl, rfl, rfl, trivial⟩
                clear hK K
                try clear hS161 hS164 hS166 hS169 hS171 hS172 hS177 hS180
                obtain ⟨a, ha⟩ : ∃ a', a' = a180 := ⟨_, rfl⟩
                rw [← ha] at hS ⊢; clear ha
                have e := Option.some.inj H
                subst e
                exact ⟨g181, A107, cap108, A111, cap112, A115, cap116, A119, cap120, hS.re ⟨rfl, rfl, rfl, rfl, trivial⟩, h127, h25, h109, h113, h117, h121, hF⟩
              · replace H := ite_f hb160 H
                refine c_pure [(2, .int .i64 p2), (3, .int .i64 p3), (11, .int .i64 r14), (12, .slice A23 r21.length cap24), (13, .pointer (some ⟨b126, 0, none⟩)), (49, .int .u8 (Int.tmod p4 6)), (63, .bool ((Int.tmod p4 6) == 2))] (fun R hR => st_val hS rfl rfl rfl (r_bin hS rfl rfl rfl b_eql) fun a182 hS182 => st_val hS182 rfl rfl rfl (r_assign hS182 rfl rfl) fun a183 hS183 => wpList_nil (hR _ (hS183.re ⟨rfl, rfl, rfl, rfl, rfl, rfl, rfl, trivial⟩))) ?_
                clear hS
                clear a
                intro a hS
                refine c_cond hS rfl (fun hb184 => ?_) (fun hb184 => ?_)
                · replace H := ite_t hb184 H
                  obtain ⟨r186, hr187, H⟩ := bind_el H
                  refine c_region1 (fun K hK => ?_)
                  refine st_val hS rfl rfl rfl (r_move hS rfl rfl) fun a185 hS185 => ?_
                  refine st_enter hS185 rfl rfl rfl (r_call hS185 rfl rfl (by kernel_rfl)) (help_Mod.calls (p0 := p3) (p1 := 8) (g := g132) (N + 8)   hr187) ?_
                  rintro _ a188 w189 ⟨g189, rfl, F189⟩ hS188
                  replace h109 := RdS.fr h109 F189 (by decide) (fun q (hq : q = N + 0 + 1) (hm : N + 8 ≤ q) => by omega)
                  replace h113 := RdS.fr h113 F189 (by decide) (fun q (hq : q = N + 0 + 1) (hm : N + 8 ≤ q) => by omega)
                  replace h117 := RdS.fr h117 F189 (by decide) (fun q (hq : q = N + 0 + 1) (hm : N + 8 ≤ q) => by omega)
                  replace h121 := RdS.fr h121 F189 (by decide) (fun q (hq : q = N + 0 + 1) (hm : N + 8 ≤ q) => by omega)
                  replace h127 := h127.fr F189 (fun (hm : N + 8 ≤ N + 2) => by omega)
                  replace h25 := OwS.fr h25 F189 (fun c' hc (hm : N + 8 ≤ c') => by omega)
                  replace hF := hF.trans F189 (fun c' (hm : N + 8 ≤ c') => by show N ≤ c'; omega)
                  refine st_val hS188 rfl rfl rfl (r_bin hS188 rfl rfl rfl b_sub) fun a190 hS190 => st_val hS190 rfl rfl rfl (r_fieldB (off := 12) hS190 rfl rfl (by kernel_rfl)) fun a191 hS191 => ?_
                  refine st_effS hS191 rfl rfl (e_storeB (n := 1) (bb := false) (cs' := [.int .i64 x104.Parent, .slice A107 x104.Rails.a0.length cap108, .slice A111 x104.Rails.a1.length cap112, .slice A115 x104.Rails.a2.length cap116, .slice A119 x104.Rails.a3.length cap120, .int .i64 x104.Deepest.a0, .int .i64 x104.Deepest.a1, .int .i64 x104.Deepest.a2, .int .i64 x104.Deepest.a3, .int .i64 x104.Deepest.a4, .int .i64 x104.Deepest.a5, .int .i64 x104.WakeDevice, .int .i64 (wi (r186 - 1))]) g189 hS191 rfl rfl rfl (by kernel_rfl) rfl rfl rfl h127 rfl rfl) ?_
                  rintro a192 w193 g193 ⟨h127, F193⟩ hS192
                  replace h109 := RdS.fr h109 F193 (by decide) (fun q (hq : q = N + 0 + 1) (hm : q = N + 2) => by omega)
                  replace h113 := RdS.fr h113 F193 (by decide) (fun q (hq : q = N + 0 + 1) (hm : q = N + 2) => by omega)
                  replace h117 := RdS.fr h117 F193 (by decide) (fun q (hq : q = N + 0 + 1) (hm : q = N + 2) => by omega)
                  replace h121 := RdS.fr h121 F193 (by decide) (fun q (hq : q = N + 0 + 1) (hm : q = N + 2) => by omega)
                  replace h25 := OwS.fr h25 F193 (fun c' hc (hm : c' = N + 2) => by omega)
                  replace hF := hF.trans F193 (fun c' (hm : c' = N + 2) => by show N ≤ c'; omega)
                  refine wpList_nil (hK _ _ ?_)
                  replace hS : Sl 110 _ [(2, .int .i64 p2), (11, .int .i64 r14), (12, .slice A23 r21.length cap24), (13, .pointer (some ⟨b126, 0, none⟩))] := hS192.re ⟨rfl, rfl, rfl, rfl, trivial⟩
                  clear hK K
                  try clear hS185 hS188 hS190 hS191 hS192
                  obtain ⟨a, ha⟩ : ∃ a', a' = a192 := ⟨_, rfl⟩
                  rw [← ha] at hS ⊢; clear ha
                  have e := Option.some.inj H
                  subst e
                  exact ⟨g193, A107, cap108, A111, cap112, A115, cap116, A119, cap120, hS.re ⟨rfl, rfl, rfl, rfl, trivial⟩, h127, h25, h109, h113, h117, h121, hF⟩
                · replace H := ite_f hb184 H
                  refine c_pure [(2, .int .i64 p2), (3, .int .i64 p3), (11, .int .i64 r14), (12, .slice A23 r21.length cap24), (13, .pointer (some ⟨b126, 0, none⟩)), (49, .int .u8 (Int.tmod p4 6)), (69, .bool ((Int.tmod p4 6) == 3))] (fun R hR => st_val hS rfl rfl rfl (r_bin hS rfl rfl rfl b_eql) fun a194 hS194 => st_val hS194 rfl rfl rfl (r_assign hS194 rfl rfl) fun a195 hS195 => wpList_nil (hR _ (hS195.re ⟨rfl, rfl, rfl, rfl, rfl, rfl, rfl, trivial⟩))) ?_
                  clear hS
                  clear a
                  intro a hS
                  refine c_cond hS rfl (fun hb196 => ?_) (fun hb196 => ?_)
                  · replace H := ite_t hb196 H
                    obtain ⟨r198, hr199, H⟩ := bind_el H
                    refine c_region1 (fun K hK => ?_)
                    refine st_val hS rfl rfl rfl (r_move hS rfl rfl) fun a197 hS197 => ?_
                    refine st_enter hS197 rfl rfl rfl (r_call hS197 rfl rfl (by kernel_rfl)) (help_Mod.calls (p0 := p3) (p1 := 7) (g := g132) (N + 8)   hr199) ?_
                    rintro _ a200 w201 ⟨g201, rfl, F201⟩ hS200
                    replace h109 := RdS.fr h109 F201 (by decide) (fun q (hq : q = N + 0 + 1) (hm : N + 8 ≤ q) => by omega)
                    replace h113 := RdS.fr h113 F201 (by decide) (fun q (hq : q = N + 0 + 1) (hm : N + 8 ≤ q) => by omega)
                    replace h117 := RdS.fr h117 F201 (by decide) (fun q (hq : q = N + 0 + 1) (hm : N + 8 ≤ q) => by omega)
                    replace h121 := RdS.fr h121 F201 (by decide) (fun q (hq : q = N + 0 + 1) (hm : N + 8 ≤ q) => by omega)
                    replace h127 := h127.fr F201 (fun (hm : N + 8 ≤ N + 2) => by omega)
                    replace h25 := OwS.fr h25 F201 (fun c' hc (hm : N + 8 ≤ c') => by omega)
                    replace hF := hF.trans F201 (fun c' (hm : N + 8 ≤ c') => by show N ≤ c'; omega)
                    refine st_val hS200 rfl rfl rfl (r_bin hS200 rfl rfl rfl b_sub) fun a202 hS202 => st_val hS202 rfl rfl rfl (r_fieldB (off := 11) hS202 rfl rfl (by kernel_rfl)) fun a203 hS203 => ?_
                    refine st_effS hS203 rfl rfl (e_storeB (n := 1) (bb := false) (cs' := [.int .i64 x104.Parent, .slice A107 x104.Rails.a0.length cap108, .slice A111 x104.Rails.a1.length cap112, .slice A115 x104.Rails.a2.length cap116, .slice A119 x104.Rails.a3.length cap120, .int .i64 x104.Deepest.a0, .int .i64 x104.Deepest.a1, .int .i64 x104.Deepest.a2, .int .i64 x104.Deepest.a3, .int .i64 x104.Deepest.a4, .int .i64 x104.Deepest.a5, .int .i64 (wi (r198 - 1)), .int .i64 x104.WakeSystem]) g201 hS203 rfl rfl rfl (by kernel_rfl) rfl rfl rfl h127 rfl rfl) ?_
                    rintro a204 w205 g205 ⟨h127, F205⟩ hS204
                    replace h109 := RdS.fr h109 F205 (by decide) (fun q (hq : q = N + 0 + 1) (hm : q = N + 2) => by omega)
                    replace h113 := RdS.fr h113 F205 (by decide) (fun q (hq : q = N + 0 + 1) (hm : q = N + 2) => by omega)
                    replace h117 := RdS.fr h117 F205 (by decide) (fun q (hq : q = N + 0 + 1) (hm : q = N + 2) => by omega)
                    replace h121 := RdS.fr h121 F205 (by decide) (fun q (hq : q = N + 0 + 1) (hm : q = N + 2) => by omega)
                    replace h25 := OwS.fr h25 F205 (fun c' hc (hm : c' = N + 2) => by omega)
                    replace hF := hF.trans F205 (fun c' (hm : c' = N + 2) => by show N ≤ c'; omega)
                    refine wpList_nil (hK _ _ ?_)
                    replace hS : Sl 110 _ [(2, .int .i64 p2), (11, .int .i64 r14), (12, .slice A23 r21.length cap24), (13, .pointer (some ⟨b126, 0, none⟩))] := hS204.re ⟨rfl, rfl, rfl, rfl, trivial⟩
                    clear hK K
                    try clear hS197 hS200 hS202 hS203 hS204
                    obtain ⟨a, ha⟩ : ∃ a', a' = a204 := ⟨_, rfl⟩
                    rw [← ha] at hS ⊢; clear ha
                    have e := Option.some.inj H
                    subst e
                    exact ⟨g205, A107, cap108, A111, cap112, A115, cap116, A119, cap120, hS.re ⟨rfl, rfl, rfl, rfl, trivial⟩, h127, h25, h109, h113, h117, h121, hF⟩
                  · replace H := ite_f hb196 H
                    refine c_pure [(2, .int .i64 p2), (3, .int .i64 p3), (11, .int .i64 r14), (12, .slice A23 r21.length cap24), (13, .pointer (some ⟨b126, 0, none⟩)), (75, .bool ((Int.tmod p4 6) == 4))] (fun R hR => st_val hS rfl rfl rfl (r_bin hS rfl rfl rfl b_eql) fun a206 hS206 => st_val hS206 rfl rfl rfl (r_assign hS206 rfl rfl) fun a207 hS207 => wpList_nil (hR _ (hS207.re ⟨rfl, rfl, rfl, rfl, rfl, rfl, trivial⟩))) ?_
                    clear hS
                    clear a
                    intro a hS
                    refine c_cond hS rfl (fun hb208 => ?_) (fun hb208 => ?_)
                    · replace H := ite_t hb208 H
                      obtain ⟨r210, hr211, H⟩ := bind_el H
                      obtain ⟨r220, hr221, H⟩ := bind_el H
                      obtain ⟨x225, hx226, H⟩ := bind_el H
                      obtain ⟨y235, hy236, H⟩ := bind_el H
                      obtain ⟨r244, hr245, H⟩ := bind_el H
                      obtain ⟨y254, hy255, H⟩ := bind_el H
                      obtain ⟨x263, hx264, H⟩ := bind_el H
                      obtain ⟨y272, hy273, H⟩ := bind_el H
                      refine c_region1 (fun K hK => ?_)
                      refine st_val hS rfl rfl rfl (r_move hS rfl rfl) fun a209 hS209 => ?_
                      refine st_enter hS209 rfl rfl rfl (r_call hS209 rfl rfl (by kernel_rfl)) (help_Mod.calls (p0 := p2) (p1 := 4) (g := g132) (N + 8)   hr211) ?_
                      rintro _ a212 w213 ⟨g213, rfl, F213⟩ hS212
                      replace h109 := RdS.fr h109 F213 (by decide) (fun q (hq : q = N + 0 + 1) (hm : N + 8 ≤ q) => by omega)
                      replace h113 := RdS.fr h113 F213 (by decide) (fun q (hq : q = N + 0 + 1) (hm : N + 8 ≤ q) => by omega)
                      replace h117 := RdS.fr h117 F213 (by decide) (fun q (hq : q = N + 0 + 1) (hm : N + 8 ≤ q) => by omega)
                      replace h121 := RdS.fr h121 F213 (by decide) (fun q (hq : q = N + 0 + 1) (hm : N + 8 ≤ q) => by omega)
                      replace h127 := h127.fr F213 (fun (hm : N + 8 ≤ N + 2) => by omega)
                      replace h25 := OwS.fr h25 F213 (fun c' hc (hm : N + 8 ≤ c') => by omega)
                      replace hF := hF.trans F213 (fun c' (hm : N + 8 ≤ c') => by show N ≤ c'; omega)
                      refine st_eff hS212 rfl rfl rfl (e_lit (e := 3) (parts := []) (cs := []) (kint .i64) ([] : List Int) (N + 4) g213 hS212 rfl rfl (fun _ => by kernel_rfl) rfl (by decide) Rows.nil) ?_
                      rintro _ a217 w218 g218 ⟨⟨A214, rfl, h215⟩, F218⟩ hS217
                      replace h109 := RdS.fr h109 F218 (by decide) (fun _ _ h => h)
                      replace h113 := RdS.fr h113 F218 (by decide) (fun _ _ h => h)
                      replace h117 := RdS.fr h117 F218 (by decide) (fun _ _ h => h)
                      replace h121 := RdS.fr h121 F218 (by decide) (fun _ _ h => h)
                      replace h127 := h127.fr F218 (fun h => h)
                      replace h25 := OwS.fr h25 F218 (fun _ _ h => h)
                      replace hF := hF.trans F218 (fun _ h => h.elim)
                      refine st_val hS217 rfl rfl rfl (r_move hS217 rfl rfl) fun a219 hS219 => ?_
                      refine st_enter hS219 rfl rfl rfl (r_call hS219 rfl rfl (by kernel_rfl)) (help_Mod.calls (p0 := p2) (p1 := 4) (g := g218) (N + 8)   hr221) ?_
                      rintro _ a222 w223 ⟨g223, rfl, F223⟩ hS222
                      replace h109 := RdS.fr h109 F223 (by decide) (fun q (hq : q = N + 0 + 1) (hm : N + 8 ≤ q) => by omega)
                      replace h113 := RdS.fr h113 F223 (by decide) (fun q (hq : q = N + 0 + 1) (hm : N + 8 ≤ q) => by omega)
                      replace h117 := RdS.fr h117 F223 (by decide) (fun q (hq : q = N + 0 + 1) (hm : N + 8 ≤ q) => by omega)
                      replace h121 := RdS.fr h121 F223 (by decide) (fun q (hq : q = N + 0 + 1) (hm : N + 8 ≤ q) => by omega)
                      replace h127 := h127.fr F223 (fun (hm : N + 8 ≤ N + 2) => by omega)
                      replace h215 := OwS.fr h215 F223 (fun c' hc (hm : N + 8 ≤ c') => by omega)
                      replace h25 := OwS.fr h25 F223 (fun c' hc (hm : N + 8 ≤ c') => by omega)
                      replace hF := hF.trans F223 (fun c' (hm : N + 8 ≤ c') => by show N ≤ c'; omega)
                      refine st_val hS222 rfl rfl rfl (r_fieldB (off := 1) hS222 rfl rfl (by kernel_rfl)) fun a224 hS224 => ?_
                      obtain ⟨A228, cap229, he227, h230⟩ : ∃ (A228 : Option Addr) (cap229 : Nat), (([.int .i64 x104.Parent, .slice A107 x104.Rails.a0.length cap108, .slice A111 x104.Rails.a1.length cap112, .slice A115 x104.Rails.a2.length cap116, .slice A119 x104.Rails.a3.length cap120, .int .i64 x104.Deepest.a0, .int .i64 x104.Deepest.a1, .int .i64 x104.Deepest.a2, .int .i64 x104.Deepest.a3, .int .i64 x104.Deepest.a4, .int .i64 x104.Deepest.a5, .int .i64 x104.WakeDevice, .int .i64 x104.WakeSystem] : List Value).drop (1 + r220.toNat * 1)).take 1 = [.slice A228 x225.length cap229] ∧ RdS (kint .i64) w223 g223 (fun q => q = N + 0 + 1) A228 cap229 x225 := by
                        rcases Ar4.cases hx226 with ⟨e, e2⟩ | ⟨e, e2⟩ | ⟨e, e2⟩ | ⟨e, e2⟩
                        · subst e2; exact ⟨A107, cap108, (by rw [e] <;> rfl), h109⟩
                        · subst e2; exact ⟨A111, cap112, (by rw [e] <;> rfl), h113⟩
                        · subst e2; exact ⟨A115, cap116, (by rw [e] <;> rfl), h117⟩
                        · subst e2; exact ⟨A119, cap120, (by rw [e] <;> rfl), h121⟩
                      refine st_val hS224 rfl rfl rfl (r_ixB (n := 4) (e := 29) (sz := 1) (bb := false) hS224 rfl rfl rfl (by kernel_rfl) (idx_lo hx226) (Ar4.lt hx226)) fun a233 hS233 => st_val hS233 rfl rfl rfl (r_load1 (n := 1) hS233 rfl rfl (by kernel_rfl) (Bx.at_ (j := 0) h127 he227 rfl)) fun a234 hS234 => ?_
                      refine st_eff hS234 rfl rfl rfl (e_append (e := 3) (sz := 1) (by_ := 8) (z := [.int .i64 0]) (kd := (kint .i64)) g223 hS234 rfl rfl rfl rfl (by kernel_rfl) (by kernel_rfl) rfl rfl rfl rfl h215 h230 (fun _ _ _ h => h) hy236) ?_
                      rintro _ a241 w242 g242 ⟨⟨A237, cap238, rfl, h239⟩, F242⟩ hS241
                      replace h109 := RdS.fr h109 F242 (by decide) (fun q (hq : q = N + 0 + 1) (hm : q = N + 4) => by omega)
                      replace h113 := RdS.fr h113 F242 (by decide) (fun q (hq : q = N + 0 + 1) (hm : q = N + 4) => by omega)
                      replace h117 := RdS.fr h117 F242 (by decide) (fun q (hq : q = N + 0 + 1) (hm : q = N + 4) => by omega)
                      replace h121 := RdS.fr h121 F242 (by decide) (fun q (hq : q = N + 0 + 1) (hm : q = N + 4) => by omega)
                      replace h127 := h127.fr F242 (fun (hm : N + 2 = N + 4) => by omega)
                      replace h230 := RdS.fr h230 F242 (by decide) (fun q (hq : q = N + 0 + 1) (hm : q = N + 4) => by omega)
                      replace h25 := OwS.fr h25 F242 (fun c' hc (hm : c' = N + 4) => by omega)
                      replace hF := hF.trans F242 (fun c' (hm : c' = N + 4) => by show N ≤ c'; omega)
                      refine st_val hS241 rfl rfl rfl (r_move hS241 rfl rfl) fun a243 hS243 => ?_
                      refine st_enter hS243 rfl rfl rfl (r_call hS243 rfl rfl (by kernel_rfl)) (help_Mod.calls (p0 := p3) (p1 := 8) (g := g242) (N + 8)   hr245) ?_
                      rintro _ a246 w247 ⟨g247, rfl, F247⟩ hS246
                      replace h109 := RdS.fr h109 F247 (by decide) (fun q (hq : q = N + 0 + 1) (hm : N + 8 ≤ q) => by omega)
                      replace h113 := RdS.fr h113 F247 (by decide) (fun q (hq : q = N + 0 + 1) (hm : N + 8 ≤ q) => by omega)
                      replace h117 := RdS.fr h117 F247 (by decide) (fun q (hq : q = N + 0 + 1) (hm : N + 8 ≤ q) => by omega)
                      replace h121 := RdS.fr h121 F247 (by decide) (fun q (hq : q = N + 0 + 1) (hm : N + 8 ≤ q) => by omega)
                      replace h127 := h127.fr F247 (fun (hm : N + 8 ≤ N + 2) => by omega)
                      replace h230 := RdS.fr h230 F247 (by decide) (fun q (hq : q = N + 0 + 1) (hm : N + 8 ≤ q) => by omega)
                      replace h239 := OwS.fr h239 F247 (fun c' hc (hm : N + 8 ≤ c') => by omega)
                      replace h25 := OwS.fr h25 F247 (fun c' hc (hm : N + 8 ≤ c') => by omega)
                      replace hF := hF.trans F247 (fun c' (hm : N + 8 ≤ c') => by show N ≤ c'; omega)
                      refine st_val hS246 rfl rfl rfl (r_bin hS246 rfl rfl rfl b_sub) fun a248 hS248 => ?_
                      refine st_eff hS248 rfl rfl rfl (e_lit (e := 3) (parts := [(0, .int .i64 (wi (r244 - 1)))]) (cs := [.int .i64 (wi (r244 - 1))]) (kint .i64) [wi (r244 - 1)] (N + 6) g247 hS248 rfl rfl (fun _ => by kernel_rfl) rfl (by decide) (Rows.cons (cs := [.int .i64 (wi (r244 - 1))]) rfl Rows.nil)) ?_
                      rintro _ a252 w253 g253 ⟨⟨A249, rfl, h250⟩, F253⟩ hS252
                      replace h109 := RdS.fr h109 F253 (by decide) (fun _ _ h => h)
                      replace h113 := RdS.fr h113 F253 (by decide) (fun _ _ h => h)
                      replace h117 := RdS.fr h117 F253 (by decide) (fun _ _ h => h)
                      replace h121 := RdS.fr h121 F253 (by decide) (fun _ _ h => h)
                      replace h127 := h127.fr F253 (fun h => h)
                      replace h230 := RdS.fr h230 F253 (by decide) (fun _ _ h => h)
                      replace h239 := OwS.fr h239 F253 (fun _ _ h => h)
                      replace h25 := OwS.fr h25 F253 (fun _ _ h => h)
                      replace hF := hF.trans F253 (fun _ h => h.elim)
                      refine st_eff hS252 rfl rfl rfl (e_append (e := 3) (sz := 1) (by_ := 8) (z := [.int .i64 0]) (kd := (kint .i64)) g253 hS252 rfl rfl rfl rfl (by kernel_rfl) (by kernel_rfl) rfl rfl rfl rfl h239 (OwD.rdx h250) (fun _ _ _ h => h) hy255) ?_
                      rintro _ a260 w261 g261 ⟨⟨A256, cap257, rfl, h258⟩, F261⟩ hS260
                      replace h109 := RdS.fr h109 F261 (by decide) (fun q (hq : q = N + 0 + 1) (hm : q = N + 4) => by omega)
                      replace h113 := RdS.fr h113 F261 (by decide) (fun q (hq : q = N + 0 + 1) (hm : q = N + 4) => by omega)
                      replace h117 := RdS.fr h117 F261 (by decide) (fun q (hq : q = N + 0 + 1) (hm : q = N + 4) => by omega)
                      replace h121 := RdS.fr h121 F261 (by decide) (fun q (hq : q = N + 0 + 1) (hm : q = N + 4) => by omega)
                      replace h127 := h127.fr F261 (fun (hm : N + 2 = N + 4) => by omega)
                      replace h230 := RdS.fr h230 F261 (by decide) (fun q (hq : q = N + 0 + 1) (hm : q = N + 4) => by omega)
                      replace h250 := OwS.fr h250 F261 (fun c' hc (hm : c' = N + 4) => by omega)
                      replace h25 := OwS.fr h25 F261 (fun c' hc (hm : c' = N + 4) => by omega)
                      replace hF := hF.trans F261 (fun c' (hm : c' = N + 4) => by show N ≤ c'; omega)
                      refine st_val hS260 rfl rfl rfl (r_fieldB (off := 1) hS260 rfl rfl (by kernel_rfl)) fun a262 hS262 => ?_
                      obtain ⟨A266, cap267, he265, h268⟩ : ∃ (A266 : Option Addr) (cap267 : Nat), (([.int .i64 x104.Parent, .slice A107 x104.Rails.a0.length cap108, .slice A111 x104.Rails.a1.length cap112, .slice A115 x104.Rails.a2.length cap116, .slice A119 x104.Rails.a3.length cap120, .int .i64 x104.Deepest.a0, .int .i64 x104.Deepest.a1, .int .i64 x104.Deepest.a2, .int .i64 x104.Deepest.a3, .int .i64 x104.Deepest.a4, .int .i64 x104.Deepest.a5, .int .i64 x104.WakeDevice, .int .i64 x104.WakeSystem] : List Value).drop (1 + r210.toNat * 1)).take 1 = [.slice A266 x263.length cap267] ∧ RdS (kint .i64) w261 g261 (fun q => q = N + 0 + 1) A266 cap267 x263 := by
                        rcases Ar4.cases hx264 with ⟨e, e2⟩ | ⟨e, e2⟩ | ⟨e, e2⟩ | ⟨e, e2⟩
                        · subst e2; exact ⟨A107, cap108, (by rw [e] <;> rfl), h109⟩
                        · subst e2; exact ⟨A111, cap112, (by rw [e] <;> rfl), h113⟩
                        · subst e2; exact ⟨A115, cap116, (by rw [e] <;> rfl), h117⟩
                        · subst e2; exact ⟨A119, cap120, (by rw [e] <;> rfl), h121⟩
                      refine st_val hS262 rfl rfl rfl (r_ixB (n := 4) (e := 29) (sz := 1) (bb := false) hS262 rfl rfl rfl (by kernel_rfl) (idx_lo hx264) (Ar4.lt hx264)) fun a271 hS271 => ?_
                      have F274 : Fr (fun q => q = N + 4) w261 g261 w261 (recol g261 (N + 4) (N + 0 + 1)) := Fr.recol w261 g261 (N + 4) (N + 0 + 1) rfl
                      replace h109 := RdS.fr h109 F274 (by decide) (fun q (hq : q = N + 0 + 1) (hm : q = N + 4) => by omega)
                      replace h113 := RdS.fr h113 F274 (by decide) (fun q (hq : q = N + 0 + 1) (hm : q = N + 4) => by omega)
                      replace h117 := RdS.fr h117 F274 (by decide) (fun q (hq : q = N + 0 + 1) (hm : q = N + 4) => by omega)
                      replace h121 := RdS.fr h121 F274 (by decide) (fun q (hq : q = N + 0 + 1) (hm : q = N + 4) => by omega)
                      replace h127 := h127.fr F274 (fun (hm : N + 2 = N + 4) => by omega)
                      replace h230 := RdS.fr h230 F274 (by decide) (fun q (hq : q = N + 0 + 1) (hm : q = N + 4) => by omega)
                      replace h250 := OwS.fr h250 F274 (fun c' hc (hm : c' = N + 4) => by omega)
                      replace h258 : RdS (kint .i64) w261 (recol g261 (N + 4) (N + 0 + 1)) (fun q => q = N + 0 + 1) A256 cap257 y254 := RdS.recolC (OwD.rdf (fun _ _ _ _ _ _ h => h) h258) (by decide) (N + 4) (N + 0 + 1) (fun q (hq : q = N + 4) => show (fun q => q = N + 0 + 1) (if q = N + 4 then N + 0 + 1 else q) from (by rw [if_pos hq] <;> exact rfl))
                      replace h25 := OwS.fr h25 F274 (fun c' hc (hm : c' = N + 4) => by omega)
                      replace h268 := RdS.fr h268 F274 (by decide) (fun q (hq : q = N + 0 + 1) (hm : q = N + 4) => by omega)
                      replace hF := hF.trans F274 (fun c' (hm : c' = N + 4) => by show N ≤ c'; omega)
                      obtain ⟨A275, cap279, A276, cap280, A277, cap281, A278, cap282, hsp287, h283, h284, h285, h286⟩ : ∃ (A275 : Option Addr) (cap279 : Nat) (A276 : Option Addr) (cap280 : Nat) (A277 : Option Addr) (cap281 : Nat) (A278 : Option Addr) (cap282 : Nat), splice ([.int .i64 x104.Parent, .slice A107 x104.Rails.a0.length cap108, .slice A111 x104.Rails.a1.length cap112, .slice A115 x104.Rails.a2.length cap116, .slice A119 x104.Rails.a3.length cap120, .int .i64 x104.Deepest.a0, .int .i64 x104.Deepest.a1, .int .i64 x104.Deepest.a2, .int .i64 x104.Deepest.a3, .int .i64 x104.Deepest.a4, .int .i64 x104.Deepest.a5, .int .i64 x104.WakeDevice, .int .i64 x104.WakeSystem] : List Value) (1 + r210.toNat * 1) [.slice A256 y254.length cap257] = [.int .i64 x104.Parent, .slice A275 y272.a0.length cap279, .slice A276 y272.a1.length cap280, .slice A277 y272.a2.length cap281, .slice A278 y272.a3.length cap282, .int .i64 x104.Deepest.a0, .int .i64 x104.Deepest.a1, .int .i64 x104.Deepest.a2, .int .i64 x104.Deepest.a3, .int .i64 x104.Deepest.a4, .int .i64 x104.Deepest.a5, .int .i64 x104.WakeDevice, .int .i64 x104.WakeSystem] ∧ RdS (kint .i64) w261 (recol g261 (N + 4) (N + 0 + 1)) (fun q => q = N + 0 + 1) A275 cap279 y272.a0 ∧ RdS (kint .i64) w261 (recol g261 (N + 4) (N + 0 + 1)) (fun q => q = N + 0 + 1) A276 cap280 y272.a1 ∧ RdS (kint .i64) w261 (recol g261 (N + 4) (N + 0 + 1)) (fun q => q = N + 0 + 1) A277 cap281 y272.a2 ∧ RdS (kint .i64) w261 (recol g261 (N + 4) (N + 0 + 1)) (fun q => q = N + 0 + 1) A278 cap282 y272.a3 := by
                        rcases Ar4.put_cases hy273 with ⟨e, e2⟩ | ⟨e, e2⟩ | ⟨e, e2⟩ | ⟨e, e2⟩
                        · subst e2; exact ⟨A256, cap257, A111, cap112, A115, cap116, A119, cap120, (by rw [e] <;> rfl), h258, h113, h117, h121⟩
                        · subst e2; exact ⟨A107, cap108, A256, cap257, A115, cap116, A119, cap120, (by rw [e] <;> rfl), h109, h258, h117, h121⟩
                        · subst e2; exact ⟨A107, cap108, A111, cap112, A256, cap257, A119, cap120, (by rw [e] <;> rfl), h109, h113, h258, h121⟩
                        · subst e2; exact ⟨A107, cap108, A111, cap112, A115, cap116, A256, cap257, (by rw [e] <;> rfl), h109, h113, h117, h258⟩
                      refine st_effS hS271 rfl rfl (e_storeB (n := 1) (bb := false) (cs' := [.int .i64 x104.Parent, .slice A275 y272.a0.length cap279, .slice A276 y272.a1.length cap280, .slice A277 y272.a2.length cap281, .slice A278 y272.a3.length cap282, .int .i64 x104.Deepest.a0, .int .i64 x104.Deepest.a1, .int .i64 x104.Deepest.a2, .int .i64 x104.Deepest.a3, .int .i64 x104.Deepest.a4, .int .i64 x104.Deepest.a5, .int .i64 x104.WakeDevice, .int .i64 x104.WakeSystem]) (recol g261 (N + 4) (N + 0 + 1)) hS271 rfl rfl rfl (by kernel_rfl) rfl rfl rfl h127 (by rcases Ar4.put_cases hy273 with ⟨e, e2⟩ | ⟨e, e2⟩ | ⟨e, e2⟩ | ⟨e, e2⟩ <;> (rw [e] <;> rfl)) hsp287) ?_
                      rintro a292 w293 g293 ⟨h127, F293⟩ hS292
                      replace h109 := RdS.fr h109 F293 (by decide) (fun q (hq : q = N + 0 + 1) (hm : q = N + 2) => by omega)
                      replace h113 := RdS.fr h113 F293 (by decide) (fun q (hq : q = N + 0 + 1) (hm : q = N + 2) => by omega)
                      replace h117 := RdS.fr h117 F293 (by decide) (fun q (hq : q = N + 0 + 1) (hm : q = N + 2) => by omega)
                      replace h121 := RdS.fr h121 F293 (by decide) (fun q (hq : q = N + 0 + 1) (hm : q = N + 2) => by omega)
                      replace h230 := RdS.fr h230 F293 (by decide) (fun q (hq : q = N + 0 + 1) (hm : q = N + 2) => by omega)
                      replace h250 := OwS.fr h250 F293 (fun c' hc (hm : c' = N + 2) => by omega)
                      replace h258 := RdS.fr h258 F293 (by decide) (fun q (hq : q = N + 0 + 1) (hm : q = N + 2) => by omega)
                      replace h25 := OwS.fr h25 F293 (fun c' hc (hm : c' = N + 2) => by omega)
                      replace h268 := RdS.fr h268 F293 (by decide) (fun q (hq : q = N + 0 + 1) (hm : q = N + 2) => by omega)
                      replace h283 := RdS.fr h283 F293 (by decide) (fun q (hq : q = N + 0 + 1) (hm : q = N + 2) => by omega)
                      replace h284 := RdS.fr h284 F293 (by decide) (fun q (hq : q = N + 0 + 1) (hm : q = N + 2) => by omega)
                      replace h285 := RdS.fr h285 F293 (by decide) (fun q (hq : q = N + 0 + 1) (hm : q = N + 2) => by omega)
                      replace h286 := RdS.fr h286 F293 (by decide) (fun q (hq : q = N + 0 + 1) (hm : q = N + 2) => by omega)
                      replace hF := hF.trans F293 (fun c' (hm : c' = N + 2) => by show N ≤ c'; omega)
                      refine wpList_nil (hK _ _ ?_)
                      replace hS : Sl 110 _ [(2, .int .i64 p2), (11, .int .i64 r14), (12, .slice A23 r21.length cap24), (13, .pointer (some ⟨b126, 0, none⟩))] := hS292.re ⟨rfl, rfl, rfl, rfl, trivial⟩
                      clear hK K
                      try clear hS209 hS212 hS217 hS219 hS222 hS224 hS233 hS234 hS241 hS243 hS246 hS248 hS252 hS260 hS262 hS271 hS292
                      obtain ⟨a, ha⟩ : ∃ a', a' = a292 := ⟨_, rfl⟩
                      rw [← ha] at hS ⊢; clear ha
                      have e := Option.some.inj H
                      subst e
                      exact ⟨g293, A275, cap279, A276, cap280, A277, cap281, A278, cap282, hS.re ⟨rfl, rfl, rfl, rfl, trivial⟩, h127, h25, h283, h284, h285, h286, hF⟩
                    · replace H := ite_f hb208 H
                      refine wp_skip ?_
                      have e := Option.some.inj H
                      subst e
                      exact ⟨g132, A107, cap108, A111, cap112, A115, cap116, A119, cap120, hS.re ⟨rfl, rfl, rfl, rfl, trivial⟩, h127, h25, h109, h113, h117, h121, hF⟩
          · clear H
            clear h25 h109 h113 h117 h121 h127 hF
            clear hS
            rintro a w133 ⟨g133, A134, cap135, A137, cap138, A140, cap141, A143, cap144, hS, h127, h25, h136, h139, h142, h145, hF⟩
            have H := Hl148
            clear Hl148
            obtain ⟨r294, hr295, H⟩ := bind_el H
            obtain ⟨x296, hx297, H⟩ := bind_el H
            refine c_draw1 (fun K hK => d_start (fun q => N + 8 ≤ q) g133 [7] 8 #[false, false, false, false, false, false, false, false] (by kernel_rfl) rfl rfl (fun w316 hw316 => ?_))
            have F316 : Fr (fun _ => False) w133 g133 w316 g133 := by rw [hw316]; exact Fr.drew _ _ _
            replace h127 := h127.fr F316 (fun h => h)
            replace h25 := OwS.fr h25 F316 (fun _ _ h => h)
            replace h136 := RdS.fr h136 F316 (by decide) (fun _ _ h => h)
            replace h139 := RdS.fr h139 F316 (by decide) (fun _ _ h => h)
            replace h142 := RdS.fr h142 F316 (by decide) (fun _ _ h => h)
            replace h145 := RdS.fr h145 F316 (by decide) (fun _ _ h => h)
            replace hF := hF.trans F316 (fun _ h => h.elim)
            have hC : Fr (fun q => N + 8 ≤ q) w316 g133 w316 g133 := Fr.refl _ _ _
            refine d_pure hS 0 #[true, false, false, false, false, false, false, false] rfl rfl rfl rfl (by kernel_rfl) (fun _ _ _ h => h) (fun _ => (r_move hS rfl rfl)) fun a317 hS317 => d_pure hS317 1 #[true, true, false, false, false, false, false, false] rfl rfl rfl rfl (by kernel_rfl) (fun _ _ _ h => h) (fun _ => (r_move hS317 rfl rfl)) fun a318 hS318 => d_pure hS318 2 #[true, true, true, false, false, false, false, false] rfl rfl rfl rfl (by kernel_rfl) (fun _ _ _ h => h) (fun _ => (r_move hS318 rfl rfl)) fun a319 hS319 => d_pure hS319 3 #[true, true, true, true, false, false, false, false] rfl rfl rfl rfl (by kernel_rfl) (fun _ _ _ h => h) (fun _ => (r_len (e := 33) (sz := 13) (by_ := 168) hS319 rfl rfl (by kernel_rfl))) fun a320 hS320 => d_take hS320 5 #[true, true, true, true, false, true, false, false] rfl rfl rfl rfl (by kernel_rfl) (fun _ _ _ h => h) ⟨_, hC⟩ (fun w' g' Fz => (r_loadN (n := 13) (cs := [.int .i64 v146.Parent, .slice A134 v146.Rails.a0.length cap135, .slice A137 v146.Rails.a1.length cap138, .slice A140 v146.Rails.a2.length cap141, .slice A143 v146.Rails.a3.length cap144, .int .i64 v146.Deepest.a0, .int .i64 v146.Deepest.a1, .int .i64 v146.Deepest.a2, .int .i64 v146.Deepest.a3, .int .i64 v146.Deepest.a4, .int .i64 v146.Deepest.a5, .int .i64 v146.WakeDevice, .int .i64 v146.WakeSystem]) hS320 rfl rfl (by kernel_rfl) rfl (Bx.cells_off (h127.fr Fz (fun (hm : N + 8 ≤ N + 2) => by omega)) 0 13))) fun a321 hS321 => ?_
            refine d_one 4 #[true, true, true, true, true, true, false, false] rfl (by kernel_rfl) (arm_call hS321 rfl rfl rfl (r_call hS321 rfl rfl (by kernel_rfl)) (help_Mod.calls (p0 := p2) (p1 := (r21.length : Int)) (g := g133) (N + 8)   hr295) (fun _ _ ⟨g', _, Fz⟩ _ => ⟨g', hC.trans Fz (fun c' (hm : N + 8 ≤ c') => by show N + 8 ≤ c'; omega)⟩) ?_)
            rintro _ a322 w323 ⟨g323, rfl, F323⟩ hS322
            have hC323 := hC.trans F323 (fun c' (hm : N + 8 ≤ c') => by show N + 8 ≤ c'; omega)
            replace h127 := h127.fr F323 (fun (hm : N + 8 ≤ N + 2) => by omega)
            replace h25 := OwS.fr h25 F323 (fun c' hc (hm : N + 8 ≤ c') => by omega)
            replace h136 := RdS.fr h136 F323 (by decide) (fun q (hq : q = N + 0 + 1) (hm : N + 8 ≤ q) => by omega)
            replace h139 := RdS.fr h139 F323 (by decide) (fun q (hq : q = N + 0 + 1) (hm : N + 8 ≤ q) => by omega)
            replace h142 := RdS.fr h142 F323 (by decide) (fun q (hq : q = N + 0 + 1) (hm : N + 8 ≤ q) => by omega)
            replace h145 := RdS.fr h145 F323 (by decide) (fun q (hq : q = N + 0 + 1) (hm : N + 8 ≤ q) => by omega)
            replace hF := hF.trans F323 (fun c' (hm : N + 8 ≤ c') => by show N ≤ c'; omega)
            obtain ⟨_, ⟨A325, cap326, A329, cap330, A333, cap334, A337, cap338, rfl, h327, h331, h335, h339⟩, hel324⟩ := El.of (OwD.rdx h25) hx297 (by decide)
            replace hel324 : El w323 g323 (fun q => q = N + 0) A23 (r294.toNat * 13) [.int .i64 x296.Parent, .slice A325 x296.Rails.a0.length cap326, .slice A329 x296.Rails.a1.length cap330, .slice A333 x296.Rails.a2.length cap334, .slice A337 x296.Rails.a3.length cap338, .int .i64 x296.Deepest.a0, .int .i64 x296.Deepest.a1, .int .i64 x296.Deepest.a2, .int .i64 x296.Deepest.a3, .int .i64 x296.Deepest.a4, .int .i64 x296.Deepest.a5, .int .i64 x296.WakeDevice, .int .i64 x296.WakeSystem] := hel324
            refine d_pure hS322 6 #[true, true, true, true, true, true, true, false] rfl rfl rfl rfl (by kernel_rfl) (fun _ _ _ h => h) (fun _ => (r_index (e := 33) (sz := 13) (by_ := 168) hS322 rfl rfl rfl (by kernel_rfl) (RdS.some_ (OwS.rd h25) hx297) (idx_lo hx297) (idx_hi hx297))) fun a342 hS342 => ?_
            refine d_one 7 #[true, true, true, true, true, true, true, true] rfl (by kernel_rfl) (arm_effS hS342 rfl rfl (e_storeW (n := 13) (bb := true) (kd := kd_api_PowerDevice) (x' := v146) (us := [.int .i64 v146.Parent, .slice A134 v146.Rails.a0.length cap135, .slice A137 v146.Rails.a1.length cap138, .slice A140 v146.Rails.a2.length cap141, .slice A143 v146.Rails.a3.length cap144, .int .i64 v146.Deepest.a0, .int .i64 v146.Deepest.a1, .int .i64 v146.Deepest.a2, .int .i64 v146.Deepest.a3, .int .i64 v146.Deepest.a4, .int .i64 v146.Deepest.a5, .int .i64 v146.WakeDevice, .int .i64 v146.WakeSystem]) g323 hS342 rfl rfl rfl rfl (by kernel_rfl) rfl rfl h25 (fun q (hq : q = N + 0 + 1) => by omega) hx297 ⟨A134, cap135, A137, cap138, A140, cap141, A143, cap144, rfl, h136, h139, h142, h145⟩) (.inl (by decide)) ?_)
            rintro a343 w344 g344 ⟨h25, F344⟩ hS343
            replace h127 := h127.fr F344 (fun (hm : N + 2 = N + 0) => by omega)
            replace h327 := RdS.fr h327 F344 (by decide) (fun q (hq : q = N + 0 + 1) (hm : q = N + 0) => by omega)
            replace h331 := RdS.fr h331 F344 (by decide) (fun q (hq : q = N + 0 + 1) (hm : q = N + 0) => by omega)
            replace h335 := RdS.fr h335 F344 (by decide) (fun q (hq : q = N + 0 + 1) (hm : q = N + 0) => by omega)
            replace h339 := RdS.fr h339 F344 (by decide) (fun q (hq : q = N + 0 + 1) (hm : q = N + 0) => by omega)
            replace h136 := RdS.fr h136 F344 (by decide) (fun q (hq : q = N + 0 + 1) (hm : q = N + 0) => by omega)
            replace h139 := RdS.fr h139 F344 (by decide) (fun q (hq : q = N + 0 + 1) (hm : q = N + 0) => by omega)
            replace h142 := RdS.fr h142 F344 (by decide) (fun q (hq : q = N + 0 + 1) (hm : q = N + 0) => by omega)
            replace h145 := RdS.fr h145 F344 (by decide) (fun q (hq : q = N + 0 + 1) (hm : q = N + 0) => by omega)
            replace hF := hF.trans F344 (fun c' (hm : c' = N + 0) => by show N ≤ c'; omega)
            have hT : Sl 110 a343 [(11, .int .i64 r14), (12, .slice A23 r21.length cap24)] := hS343.re ⟨rfl, rfl, trivial⟩
            replace hS343 : Sl 110 a343 [(11, .int .i64 r14), (12, .slice A23 (upd r21 r294 v146).length cap24)] := by simpa only [upd_length] using hT
            clear hT
            refine d_done (by kernel_rfl) (hK _ _ ?_)
            replace hS : Sl 110 _ [(11, .int .i64 r14), (12, .slice A23 (upd r21 r294 v146).length cap24)] := hS343.re ⟨rfl, rfl, trivial⟩
            clear hK K hC
            try clear hS317 hS318 hS319 hS320 hS321 hS322 hS342 hS343
            obtain ⟨a, ha⟩ : ∃ a', a' = a343 := ⟨_, rfl⟩
            rw [← ha] at hS ⊢; clear ha
            have e := Option.some.inj H
            subst e
            exact ⟨g344, hS.re ⟨rfl, rfl, trivial⟩, h25, hF⟩
        · replace H := ite_f hb95 H
          refine wp_skip ?_
          have e := Option.some.inj H
          subst e
          exact ⟨g60, hS.re ⟨rfl, rfl, trivial⟩, h25, hF⟩
      · clear H
        clear h25 hF
        clear hS
        rintro a w88 ⟨g88, hS, h25, hF⟩
        have H := Hl91
        clear Hl91
        obtain ⟨r347, hr348, H⟩ := bind_el H
        obtain ⟨r353, hr354, H⟩ := bind_el H
        obtain ⟨t364, ht365, H⟩ := bind_el H
        refine c_region (fun K hK => ?_)
        refine st_val hS rfl rfl rfl (r_move hS rfl rfl) fun a345 hS345 => st_val hS345 rfl rfl rfl (r_move hS345 rfl rfl) fun a346 hS346 => ?_
        refine st_enter hS346 rfl rfl rfl (r_call hS346 rfl rfl (by kernel_rfl)) (device_Check.calls (C0 := (fun q => q = N + 0 ∨ q = N + 0 + 1)) (p0 := v89) (p1 := r14) (g := g88) (N + 8)  (OwS.rd h25) (fun q (hq : q = N + 0 ∨ q = N + 0 + 1) => by rcases hq with hq | hq; all_goals first | (omega; done) | (omega; done)) hr348) ?_
        rintro _ a349 w350 ⟨g350, rfl, F350⟩ hS349
        replace h25 := OwS.fr h25 F350 (fun c' hc (hm : N + 8 ≤ c') => by omega)
        replace hF := hF.trans F350 (fun c' (hm : N + 8 ≤ c') => by show N ≤ c'; omega)
        refine st_val hS349 rfl rfl rfl (r_move hS349 rfl rfl) fun a351 hS351 => st_val hS351 rfl rfl rfl (r_move hS351 rfl rfl) fun a352 hS352 => ?_
        refine st_enter hS352 rfl rfl rfl (r_call hS352 rfl rfl (by kernel_rfl)) (ref27_Check.calls (C0 := (fun q => q = N + 0 ∨ q = N + 0 + 1)) (p0 := v89) (p1 := r14) (g := g350) (N + 8)  (OwS.rd h25) (fun q (hq : q = N + 0 ∨ q = N + 0 + 1) => by rcases hq with hq | hq; all_goals first | (omega; done) | (omega; done)) hr354) ?_
        rintro _ a355 w356 ⟨g356, rfl, F356⟩ hS355
        replace h25 := OwS.fr h25 F356 (fun c' hc (hm : N + 8 ≤ c') => by omega)
        replace hF := hF.trans F356 (fun c' (hm : N + 8 ≤ c') => by show N ≤ c'; omega)
        refine st_val hS355 rfl rfl rfl (r_bin hS355 rfl rfl rfl b_eql) fun a357 hS357 => st_val hS357 rfl rfl rfl (r_move hS357 rfl rfl) fun a358 hS358 => ?_
        refine g_joinR 2 (fun a w366 => ∃ (g366 : Nat → Nat), Sl 110 a [(109, .bool t364)] ∧ Fr (fun q => N ≤ q) w g w366 g366) ?_ (fun hk => ?_)
        rotate_left
        · rcases Bool.eq_false_or_eq_true ((r347 == r353)) with hb359 | hb359
          · have H := ite_t hb359 ht365
            obtain ⟨r367, hr368, H⟩ := bind_el H
            have e371 := Option.some.inj H
            refine st_enterW hS358 (want_on hS358 rfl rfl rfl hb359) rfl rfl (r_call hS358 rfl rfl (by kernel_rfl)) (law27_awake.calls (g := g356) (N + 8)   hr368) ?_
            rintro _ a369 w370 ⟨g370, rfl, F370⟩ hS369
            replace h25 := OwS.fr h25 F370 (fun c' hc (hm : N + 8 ≤ c') => by omega)
            replace hF := hF.trans F370 (fun c' (hm : N + 8 ≤ c') => by show N ≤ c'; omega)
            refine st_val hS369 rfl rfl rfl (r_pickT hS369 rfl rfl rfl hb359) fun a372 hS372 => hk _ _ ?_
            exact ⟨g370, hS372.re ⟨(by rw [← e371]; rfl), trivial⟩, hF⟩
          · have H := ite_f hb359 ht365
            have e373 := Option.some.inj H
            refine st_off hS358 (want_off hS358 rfl rfl rfl hb359) rfl rfl fun a374 hS374 => st_val hS374 rfl rfl rfl (r_pickF hS374 rfl rfl rfl hb359) fun a375 hS375 => hk _ _ ?_
            exact ⟨g356, hS375.re ⟨(by rw [← e373]; rfl), trivial⟩, hF⟩
        rintro a376 w366 ⟨g366, hS376, hF⟩
        refine st_val hS376 rfl rfl rfl (r_assign hS376 rfl rfl) fun a377 hS377 => wpList_nil (hK _ _ ?_)
        replace hS : Sl 110 _ [(10, .bool t364)] := hS377.re ⟨rfl, trivial⟩
        clear hK K
        try clear hS345 hS346 hS349 hS351 hS352 hS355 hS357 hS358 hS376 hS377
        obtain ⟨a, ha⟩ : ∃ a', a' = a377 := ⟨_, rfl⟩
        rw [← ha] at hS ⊢; clear ha
        refine wp_ret ?_
        have e := Option.some.inj H
        subst e
        repeat (with_reducible first | refine then_ret ?_ | refine inBlock_ret ?_)
        exact c_ret1 hS Try.results3 rfl ⟨_, rfl, g366, rfl, hF⟩

/-! ### law27_DeviceTargetAgrees: function 4 -/
def law27_DeviceTargetAgrees.f (p0 : api_PowerDevice) (p1 : Int) (p2 : Bool) : Option (Bool) := (law27_Some.f [p0] 3).bind fun r13 => (help_Mod.f p1 6).bind fun r23 => (device_Target.f p0 p1 p2).bind fun r31 => (ref27_Target.f p0 p1 p2).bind fun r43 => (idx r13 0).bind fun x53 => (device_Target.f x53 r23 p2).bind fun r77 => (ref27_Target.f x53 r23 p2).bind fun r109 => (if ((((r31.1 == r43.1) && (r31.2 == r43.2)) && (r77.1 == r109.1)) && (r77.2 == r109.2)) = true then (law27_awake.f ).bind fun r165 => some r165 else some false).bind fun t169 => some t169
set_option maxRecDepth 100000 in
set_option maxHeartbeats 4000000 in
theorem law27_DeviceTargetAgrees.calls {p0 : api_PowerDevice} {C0 : Nat → Prop} {A0_0 : Option Addr} {cap0_0 : Nat} {A0_1 : Option Addr} {cap0_1 : Nat} {A0_2 : Option Addr} {cap0_2 : Nat} {A0_3 : Option Addr} {cap0_3 : Nat} {p1 : Int} {p2 : Bool} {w : World} {g : Nat → Nat} {out : Bool} (N : Nat) (hp0_0 : RdS (kint .i64) w g C0 A0_0 cap0_0 p0.Rails.a0) (hp0_1 : RdS (kint .i64) w g C0 A0_1 cap0_1 p0.Rails.a1) (hp0_2 : RdS (kint .i64) w g C0 A0_2 cap0_2 p0.Rails.a2) (hp0_3 : RdS (kint .i64) w g C0 A0_3 cap0_3 p0.Rails.a3) (hC0 : ∀ c, C0 c → c < N) (H : law27_DeviceTargetAgrees.f p0 p1 p2 = some out) :
    Calls Try.prog 4 #[.agg #[.int .i64 p0.Parent, .slice A0_0 p0.Rails.a0.length cap0_0, .slice A0_1 p0.Rails.a1.length cap0_1, .slice A0_2 p0.Rails.a2.length cap0_2, .slice A0_3 p0.Rails.a3.length cap0_3, .int .i64 p0.Deepest.a0, .int .i64 p0.Deepest.a1, .int .i64 p0.Deepest.a2, .int .i64 p0.Deepest.a3, .int .i64 p0.Deepest.a4, .int .i64 p0.Deepest.a5, .int .i64 p0.WakeDevice, .int .i64 p0.WakeSystem], .int .i64 p1, .bool p2] w (fun e w' => ∃ v, e = .returned v ∧ ∃ (g' : Nat → Nat), v = .bool out ∧ Fr (fun q => N ≤ q) w g w' g') := by
  unfold law27_DeviceTargetAgrees.f at H
  refine calls_enter Try.func4 rfl Try.ntmps4 rfl (fun a hS => ?_)
  replace hS : Sl 75 a [(0, .agg #[.int .i64 p0.Parent, .slice A0_0 p0.Rails.a0.length cap0_0, .slice A0_1 p0.Rails.a1.length cap0_1, .slice A0_2 p0.Rails.a2.length cap0_2, .slice A0_3 p0.Rails.a3.length cap0_3, .int .i64 p0.Deepest.a0, .int .i64 p0.Deepest.a1, .int .i64 p0.Deepest.a2, .int .i64 p0.Deepest.a3, .int .i64 p0.Deepest.a4, .int .i64 p0.Deepest.a5, .int .i64 p0.WakeDevice, .int .i64 p0.WakeSystem]), (1, .int .i64 p1), (2, .bool p2)] := hS
  have hF : Fr (fun q => N ≤ q) w g w g := Fr.refl _ _ _
  refine c_region (fun K hK => ?_)
  refine st_eff hS rfl rfl rfl (e_box (cs := [.int .i64 p0.Parent, .slice A0_0 p0.Rails.a0.length cap0_0, .slice A0_1 p0.Rails.a1.length cap0_1, .slice A0_2 p0.Rails.a2.length cap0_2, .slice A0_3 p0.Rails.a3.length cap0_3, .int .i64 p0.Deepest.a0, .int .i64 p0.Deepest.a1, .int .i64 p0.Deepest.a2, .int .i64 p0.Deepest.a3, .int .i64 p0.Deepest.a4, .int .i64 p0.Deepest.a5, .int .i64 p0.WakeDevice, .int .i64 p0.WakeSystem]) (N + 0) g hS rfl rfl rfl) ?_
  rintro _ a4 w5 g5 ⟨⟨b1, rfl, h2⟩, F5⟩ hS4
  replace hp0_0 := RdS.fr hp0_0 F5 (by decide) (fun _ _ h => h)
  replace hp0_1 := RdS.fr hp0_1 F5 (by decide) (fun _ _ h => h)
  replace hp0_2 := RdS.fr hp0_2 F5 (by decide) (fun _ _ h => h)
  replace hp0_3 := RdS.fr hp0_3 F5 (by decide) (fun _ _ h => h)
  replace hF := hF.trans F5 (fun _ h => h.elim)
  refine st_val hS4 rfl rfl rfl (r_assign hS4 rfl rfl) fun a6 hS6 => wpList_nil (hK _ _ ?_)
  replace hS : Sl 75 _ [(1, .int .i64 p1), (2, .bool p2), (3, .pointer (some ⟨b1, 0, none⟩))] := hS6.re ⟨rfl, rfl, rfl, trivial⟩
  clear hK K
  try clear hS4 hS6
  obtain ⟨a, ha⟩ : ∃ a', a' = a6 := ⟨_, rfl⟩
  rw [← ha] at hS ⊢; clear ha
  obtain ⟨r13, hr14, H⟩ := bind_el H
  refine c_region (fun K hK => ?_)
  refine st_val hS rfl rfl rfl (r_loadN (n := 13) (cs := [.int .i64 p0.Parent, .slice A0_0 p0.Rails.a0.length cap0_0, .slice A0_1 p0.Rails.a1.length cap0_1, .slice A0_2 p0.Rails.a2.length cap0_2, .slice A0_3 p0.Rails.a3.length cap0_3, .int .i64 p0.Deepest.a0, .int .i64 p0.Deepest.a1, .int .i64 p0.Deepest.a2, .int .i64 p0.Deepest.a3, .int .i64 p0.Deepest.a4, .int .i64 p0.Deepest.a5, .int .i64 p0.WakeDevice, .int .i64 p0.WakeSystem]) hS rfl rfl (by kernel_rfl) rfl (Bx.cells_off h2 0 13)) fun a7 hS7 => ?_
  refine st_eff hS7 rfl rfl rfl (e_litD (D := C0) (e := 33) (parts := [(0, .agg #[.int .i64 p0.Parent, .slice A0_0 p0.Rails.a0.length cap0_0, .slice A0_1 p0.Rails.a1.length cap0_1, .slice A0_2 p0.Rails.a2.length cap0_2, .slice A0_3 p0.Rails.a3.length cap0_3, .int .i64 p0.Deepest.a0, .int .i64 p0.Deepest.a1, .int .i64 p0.Deepest.a2, .int .i64 p0.Deepest.a3, .int .i64 p0.Deepest.a4, .int .i64 p0.Deepest.a5, .int .i64 p0.WakeDevice, .int .i64 p0.WakeSystem])]) (cs := [.int .i64 p0.Parent, .slice A0_0 p0.Rails.a0.length cap0_0, .slice A0_1 p0.Rails.a1.length cap0_1, .slice A0_2 p0.Rails.a2.length cap0_2, .slice A0_3 p0.Rails.a3.length cap0_3, .int .i64 p0.Deepest.a0, .int .i64 p0.Deepest.a1, .int .i64 p0.Deepest.a2, .int .i64 p0.Deepest.a3, .int .i64 p0.Deepest.a4, .int .i64 p0.Deepest.a5, .int .i64 p0.WakeDevice, .int .i64 p0.WakeSystem]) kd_api_PowerDevice [p0] (N + 2) g5 hS7 rfl rfl (fun _ => by kernel_rfl) rfl (by decide) (Rows.cons (cs := [.int .i64 p0.Parent, .slice A0_0 p0.Rails.a0.length cap0_0, .slice A0_1 p0.Rails.a1.length cap0_1, .slice A0_2 p0.Rails.a2.length cap0_2, .slice A0_3 p0.Rails.a3.length cap0_3, .int .i64 p0.Deepest.a0, .int .i64 p0.Deepest.a1, .int .i64 p0.Deepest.a2, .int .i64 p0.Deepest.a3, .int .i64 p0.Deepest.a4, .int .i64 p0.Deepest.a5, .int .i64 p0.WakeDevice, .int .i64 p0.WakeSystem]) ⟨A0_0, cap0_0, A0_1, cap0_1, A0_2, cap0_2, A0_3, cap0_3, rfl, hp0_0, hp0_1, hp0_2, hp0_3⟩ Rows.nil)) ?_
  rintro _ a11 w12 g12 ⟨⟨A8, rfl, h9⟩, F12⟩ hS11
  replace h2 := h2.fr F12 (fun h => h)
  replace hp0_0 := RdS.fr hp0_0 F12 (by decide) (fun _ _ h => h)
  replace hp0_1 := RdS.fr hp0_1 F12 (by decide) (fun _ _ h => h)
  replace hp0_2 := RdS.fr hp0_2 F12 (by decide) (fun _ _ h => h)
  replace hp0_3 := RdS.fr hp0_3 F12 (by decide) (fun _ _ h => h)
  replace hF := hF.trans F12 (fun _ h => h.elim)
  refine st_enter hS11 rfl rfl rfl (r_call hS11 rfl rfl (by kernel_rfl)) (law27_Some.calls (C0 := (fun q => q = N + 2 ∨ C0 q)) (p0 := [p0]) (p1 := 3) (g := g12) (N + 6) (N + 4) (OwD.rd h9) (fun q (hq : q = N + 2 ∨ C0 q) => by rcases hq with hq | hq; all_goals first | (omega; done) | (have := hC0 q hq; omega; done)) (by omega) hr14) ?_
  rintro _ a19 w20 ⟨g20, A15, cap16, rfl, h17, F20⟩ hS19
  replace h9 := OwD.fr h9 F20 (fun (hm : (N + 4 ≤ N + 2 ∧ N + 2 < N + 4 + 2) ∨ N + 6 ≤ N + 2) => by omega) (fun q (hq : C0 q) (hm : (N + 4 ≤ q ∧ q < N + 4 + 2) ∨ N + 6 ≤ q) => by have := hC0 q hq; omega)
  replace h2 := h2.fr F20 (fun (hm : (N + 4 ≤ N + 0 ∧ N + 0 < N + 4 + 2) ∨ N + 6 ≤ N + 0) => by omega)
  replace hp0_0 := RdS.fr hp0_0 F20 (by decide) (fun q (hq : C0 q) (hm : (N + 4 ≤ q ∧ q < N + 4 + 2) ∨ N + 6 ≤ q) => by have := hC0 q hq; omega)
  replace hp0_1 := RdS.fr hp0_1 F20 (by decide) (fun q (hq : C0 q) (hm : (N + 4 ≤ q ∧ q < N + 4 + 2) ∨ N + 6 ≤ q) => by have := hC0 q hq; omega)
  replace hp0_2 := RdS.fr hp0_2 F20 (by decide) (fun q (hq : C0 q) (hm : (N + 4 ≤ q ∧ q < N + 4 + 2) ∨ N + 6 ≤ q) => by have := hC0 q hq; omega)
  replace hp0_3 := RdS.fr hp0_3 F20 (by decide) (fun q (hq : C0 q) (hm : (N + 4 ≤ q ∧ q < N + 4 + 2) ∨ N + 6 ≤ q) => by have := hC0 q hq; omega)
  replace hF := hF.trans F20 (fun c' (hm : (N + 4 ≤ c' ∧ c' < N + 4 + 2) ∨ N + 6 ≤ c') => by show N ≤ c'; omega)
  refine st_val hS19 rfl rfl rfl (r_assign hS19 rfl rfl) fun a21 hS21 => wpList_nil (hK _ _ ?_)
  replace hS : Sl 75 _ [(1, .int .i64 p1), (2, .bool p2), (3, .pointer (some ⟨b1, 0, none⟩)), (7, .slice A15 r13.length cap16)] := hS21.re ⟨rfl, rfl, rfl, rfl, trivial⟩
  clear hK K
  try clear hS7 hS11 hS19 hS21
  obtain ⟨a, ha⟩ : ∃ a', a' = a21 := ⟨_, rfl⟩
  rw [← ha] at hS ⊢; clear ha
  obtain ⟨r23, hr24, H⟩ := bind_el H
  refine c_region (fun K hK => ?_)
  refine st_val hS rfl rfl rfl (r_move hS rfl rfl) fun a22 hS22 => ?_
  refine st_enter hS22 rfl rfl rfl (r_call hS22 rfl rfl (by kernel_rfl)) (help_Mod.calls (p0 := p1) (p1 := 6) (g := g20) (N + 6)   hr24) ?_
  rintro _ a25 w26 ⟨g26, rfl, F26⟩ hS25
  replace h17 := OwS.fr h17 F26 (fun c' hc (hm : N + 6 ≤ c') => by omega)
  replace h2 := h2.fr F26 (fun (hm : N + 6 ≤ N + 0) => by omega)
  replace hp0_0 := RdS.fr hp0_0 F26 (by decide) (fun q (hq : C0 q) (hm : N + 6 ≤ q) => by have := hC0 q hq; omega)
  replace hp0_1 := RdS.fr hp0_1 F26 (by decide) (fun q (hq : C0 q) (hm : N + 6 ≤ q) => by have := hC0 q hq; omega)
  replace hp0_2 := RdS.fr hp0_2 F26 (by decide) (fun q (hq : C0 q) (hm : N + 6 ≤ q) => by have := hC0 q hq; omega)
  replace hp0_3 := RdS.fr hp0_3 F26 (by decide) (fun q (hq : C0 q) (hm : N + 6 ≤ q) => by have := hC0 q hq; omega)
  replace hF := hF.trans F26 (fun c' (hm : N + 6 ≤ c') => by show N ≤ c'; omega)
  refine st_val hS25 rfl rfl rfl (r_assign hS25 rfl rfl) fun a27 hS27 => wpList_nil (hK _ _ ?_)
  replace hS : Sl 75 _ [(1, .int .i64 p1), (2, .bool p2), (3, .pointer (some ⟨b1, 0, none⟩)), (7, .slice A15 r13.length cap16), (8, .int .i64 r23)] := hS27.re ⟨rfl, rfl, rfl, rfl, rfl, trivial⟩
  clear hK K
  try clear hS22 hS25 hS27
  obtain ⟨a, ha⟩ : ∃ a', a' = a27 := ⟨_, rfl⟩
  rw [← ha] at hS ⊢; clear ha
  obtain ⟨r31, hr32, H⟩ := bind_el H
  refine c_region (fun K hK => ?_)
  refine st_val hS rfl rfl rfl (r_loadN (n := 13) (cs := [.int .i64 p0.Parent, .slice A0_0 p0.Rails.a0.length cap0_0, .slice A0_1 p0.Rails.a1.length cap0_1, .slice A0_2 p0.Rails.a2.length cap0_2, .slice A0_3 p0.Rails.a3.length cap0_3, .int .i64 p0.Deepest.a0, .int .i64 p0.Deepest.a1, .int .i64 p0.Deepest.a2, .int .i64 p0.Deepest.a3, .int .i64 p0.Deepest.a4, .int .i64 p0.Deepest.a5, .int .i64 p0.WakeDevice, .int .i64 p0.WakeSystem]) hS rfl rfl (by kernel_rfl) rfl (Bx.cells_off h2 0 13)) fun a28 hS28 => st_val hS28 rfl rfl rfl (r_move hS28 rfl rfl) fun a29 hS29 => st_val hS29 rfl rfl rfl (r_move hS29 rfl rfl) fun a30 hS30 => ?_
  refine st_enter hS30 rfl rfl rfl (r_call hS30 rfl rfl (by kernel_rfl)) (device_Target.calls (C0 := C0) (p0 := p0) (p1 := p1) (p2 := p2) (g := g26) (N + 6)  hp0_0 hp0_1 hp0_2 hp0_3 (fun q (hq : C0 q) => by have := hC0 q hq; omega) hr32) ?_
  rintro _ a33 w34 ⟨g34, rfl, F34⟩ hS33
  replace h17 := OwS.fr h17 F34 (fun c' hc (hm : N + 6 ≤ c') => by omega)
  replace h2 := h2.fr F34 (fun (hm : N + 6 ≤ N + 0) => by omega)
  replace hp0_0 := RdS.fr hp0_0 F34 (by decide) (fun q (hq : C0 q) (hm : N + 6 ≤ q) => by have := hC0 q hq; omega)
  replace hp0_1 := RdS.fr hp0_1 F34 (by decide) (fun q (hq : C0 q) (hm : N + 6 ≤ q) => by have := hC0 q hq; omega)
  replace hp0_2 := RdS.fr hp0_2 F34 (by decide) (fun q (hq : C0 q) (hm : N + 6 ≤ q) => by have := hC0 q hq; omega)
  replace hp0_3 := RdS.fr hp0_3 F34 (by decide) (fun q (hq : C0 q) (hm : N + 6 ≤ q) => by have := hC0 q hq; omega)
  replace hF := hF.trans F34 (fun c' (hm : N + 6 ≤ c') => by show N ≤ c'; omega)
  refine st_val hS33 rfl rfl rfl (r_move hS33 rfl rfl) fun a35 hS35 => st_val hS35 rfl rfl rfl (r_extract hS35 rfl rfl rfl) fun a36 hS36 => st_val hS36 rfl rfl rfl (r_extract hS36 rfl rfl rfl) fun a37 hS37 => st_val hS37 rfl rfl rfl (r_assign hS37 rfl rfl) fun a38 hS38 => st_val hS38 rfl rfl rfl (r_assign hS38 rfl rfl) fun a39 hS39 => wpList_nil (hK _ _ ?_)
  replace hS : Sl 75 _ [(1, .int .i64 p1), (2, .bool p2), (3, .pointer (some ⟨b1, 0, none⟩)), (7, .slice A15 r13.length cap16), (8, .int .i64 r23), (9, .int .i64 r31.1), (10, .int .i64 r31.2)] := hS39.re ⟨rfl, rfl, rfl, rfl, rfl, rfl, rfl, trivial⟩
  clear hK K
  try clear hS28 hS29 hS30 hS33 hS35 hS36 hS37 hS38 hS39
  obtain ⟨a, ha⟩ : ∃ a', a' = a39 := ⟨_, rfl⟩
  rw [← ha] at hS ⊢; clear ha
  obtain ⟨r43, hr44, H⟩ := bind_el H
  refine c_region (fun K hK => ?_)
  refine st_val hS rfl rfl rfl (r_loadN (n := 13) (cs := [.int .i64 p0.Parent, .slice A0_0 p0.Rails.a0.length cap0_0, .slice A0_1 p0.Rails.a1.length cap0_1, .slice A0_2 p0.Rails.a2.length cap0_2, .slice A0_3 p0.Rails.a3.length cap0_3, .int .i64 p0.Deepest.a0, .int .i64 p0.Deepest.a1, .int .i64 p0.Deepest.a2, .int .i64 p0.Deepest.a3, .int .i64 p0.Deepest.a4, .int .i64 p0.Deepest.a5, .int .i64 p0.WakeDevice, .int .i64 p0.WakeSystem]) hS rfl rfl (by kernel_rfl) rfl (Bx.cells_off h2 0 13)) fun a40 hS40 => st_val hS40 rfl rfl rfl (r_move hS40 rfl rfl) fun a41 hS41 => st_val hS41 rfl rfl rfl (r_move hS41 rfl rfl) fun a42 hS42 => ?_
  refine st_enter hS42 rfl rfl rfl (r_call hS42 rfl rfl (by kernel_rfl)) (ref27_Target.calls (C0 := C0) (p0 := p0) (p1 := p1) (p2 := p2) (g := g34) (N + 6)  hp0_0 hp0_1 hp0_2 hp0_3 (fun q (hq : C0 q) => by have := hC0 q hq; omega) hr44) ?_
  rintro _ a45 w46 ⟨g46, rfl, F46⟩ hS45
  replace h17 := OwS.fr h17 F46 (fun c' hc (hm : N + 6 ≤ c') => by omega)
  replace h2 := h2.fr F46 (fun (hm : N + 6 ≤ N + 0) => by omega)
  replace hp0_0 := RdS.fr hp0_0 F46 (by decide) (fun q (hq : C0 q) (hm : N + 6 ≤ q) => by have := hC0 q hq; omega)
  replace hp0_1 := RdS.fr hp0_1 F46 (by decide) (fun q (hq : C0 q) (hm : N + 6 ≤ q) => by have := hC0 q hq; omega)
  replace hp0_2 := RdS.fr hp0_2 F46 (by decide) (fun q (hq : C0 q) (hm : N + 6 ≤ q) => by have := hC0 q hq; omega)
  replace hp0_3 := RdS.fr hp0_3 F46 (by decide) (fun q (hq : C0 q) (hm : N + 6 ≤ q) => by have := hC0 q hq; omega)
  replace hF := hF.trans F46 (fun c' (hm : N + 6 ≤ c') => by show N ≤ c'; omega)
  refine st_val hS45 rfl rfl rfl (r_move hS45 rfl rfl) fun a47 hS47 => st_val hS47 rfl rfl rfl (r_extract hS47 rfl rfl rfl) fun a48 hS48 => st_val hS48 rfl rfl rfl (r_extract hS48 rfl rfl rfl) fun a49 hS49 => st_val hS49 rfl rfl rfl (r_assign hS49 rfl rfl) fun a50 hS50 => st_val hS50 rfl rfl rfl (r_assign hS50 rfl rfl) fun a51 hS51 => wpList_nil (hK _ _ ?_)
  replace hS : Sl 75 _ [(2, .bool p2), (7, .slice A15 r13.length cap16), (8, .int .i64 r23), (9, .int .i64 r31.1), (10, .int .i64 r31.2), (11, .int .i64 r43.1), (12, .int .i64 r43.2)] := hS51.re ⟨rfl, rfl, rfl, rfl, rfl, rfl, rfl, trivial⟩
  clear hK K
  try clear hS40 hS41 hS42 hS45 hS47 hS48 hS49 hS50 hS51
  obtain ⟨a, ha⟩ : ∃ a', a' = a51 := ⟨_, rfl⟩
  rw [← ha] at hS ⊢; clear ha
  obtain ⟨x53, hx54, H⟩ := bind_el H
  obtain ⟨r77, hr78, H⟩ := bind_el H
  refine c_region (fun K hK => ?_)
  refine st_val hS rfl rfl rfl (r_move hS rfl rfl) fun a52 hS52 => ?_
  obtain ⟨_, ⟨A56, cap57, A60, cap61, A64, cap65, A68, cap69, rfl, h58, h62, h66, h70⟩, hel55⟩ := El.of (OwD.rdx h17) hx54 (by decide)
  replace hel55 : El w46 g46 (fun q => q = N + 4) A15 ((0 : Int).toNat * 13) [.int .i64 x53.Parent, .slice A56 x53.Rails.a0.length cap57, .slice A60 x53.Rails.a1.length cap61, .slice A64 x53.Rails.a2.length cap65, .slice A68 x53.Rails.a3.length cap69, .int .i64 x53.Deepest.a0, .int .i64 x53.Deepest.a1, .int .i64 x53.Deepest.a2, .int .i64 x53.Deepest.a3, .int .i64 x53.Deepest.a4, .int .i64 x53.Deepest.a5, .int .i64 x53.WakeDevice, .int .i64 x53.WakeSystem] := hel55
  refine st_val hS52 rfl rfl rfl (r_index (e := 33) (sz := 13) (by_ := 168) hS52 rfl rfl rfl (by kernel_rfl) (RdS.some_ (OwS.rd h17) hx54) (idx_lo hx54) (idx_hi hx54)) fun a73 hS73 => st_val hS73 rfl rfl rfl (r_loadN (n := 13) (cs := [.int .i64 x53.Parent, .slice A56 x53.Rails.a0.length cap57, .slice A60 x53.Rails.a1.length cap61, .slice A64 x53.Rails.a2.length cap65, .slice A68 x53.Rails.a3.length cap69, .int .i64 x53.Deepest.a0, .int .i64 x53.Deepest.a1, .int .i64 x53.Deepest.a2, .int .i64 x53.Deepest.a3, .int .i64 x53.Deepest.a4, .int .i64 x53.Deepest.a5, .int .i64 x53.WakeDevice, .int .i64 x53.WakeSystem]) hS73 rfl rfl (by kernel_rfl) rfl (El.cells_off hel55 0 13)) fun a74 hS74 => st_val hS74 rfl rfl rfl (r_move hS74 rfl rfl) fun a75 hS75 => st_val hS75 rfl rfl rfl (r_move hS75 rfl rfl) fun a76 hS76 => ?_
  refine st_enter hS76 rfl rfl rfl (r_call hS76 rfl rfl (by kernel_rfl)) (device_Target.calls (C0 := (fun q => q = N + 4 + 1)) (p0 := x53) (p1 := r23) (p2 := p2) (g := g46) (N + 6)  h58 h62 h66 h70 (fun q (hq : q = N + 4 + 1) => by omega) hr78) ?_
  rintro _ a79 w80 ⟨g80, rfl, F80⟩ hS79
  replace h17 := OwS.fr h17 F80 (fun c' hc (hm : N + 6 ≤ c') => by omega)
  replace h58 := RdS.fr h58 F80 (by decide) (fun q (hq : q = N + 4 + 1) (hm : N + 6 ≤ q) => by omega)
  replace h62 := RdS.fr h62 F80 (by decide) (fun q (hq : q = N + 4 + 1) (hm : N + 6 ≤ q) => by omega)
  replace h66 := RdS.fr h66 F80 (by decide) (fun q (hq : q = N + 4 + 1) (hm : N + 6 ≤ q) => by omega)
  replace h70 := RdS.fr h70 F80 (by decide) (fun q (hq : q = N + 4 + 1) (hm : N + 6 ≤ q) => by omega)
  replace hel55 := hel55.fr F80 (fun q (hq : q = N + 4) (hm : N + 6 ≤ q) => by omega)
  replace hF := hF.trans F80 (fun c' (hm : N + 6 ≤ c') => by show N ≤ c'; omega)
  refine st_val hS79 rfl rfl rfl (r_move hS79 rfl rfl) fun a81 hS81 => st_val hS81 rfl rfl rfl (r_extract hS81 rfl rfl rfl) fun a82 hS82 => st_val hS82 rfl rfl rfl (r_extract hS82 rfl rfl rfl) fun a83 hS83 => st_val hS83 rfl rfl rfl (r_assign hS83 rfl rfl) fun a84 hS84 => st_val hS84 rfl rfl rfl (r_assign hS84 rfl rfl) fun a85 hS85 => wpList_nil (hK _ _ ?_)
  replace hS : Sl 75 _ [(2, .bool p2), (7, .slice A15 r13.length cap16), (8, .int .i64 r23), (9, .int .i64 r31.1), (10, .int .i64 r31.2), (11, .int .i64 r43.1), (12, .int .i64 r43.2), (13, .int .i64 r77.1), (14, .int .i64 r77.2)] := hS85.re ⟨rfl, rfl, rfl, rfl, rfl, rfl, rfl, rfl, rfl, trivial⟩
  clear hK K
  try clear hS52 hS73 hS74 hS75 hS76 hS79 hS81 hS82 hS83 hS84 hS85
  obtain ⟨a, ha⟩ : ∃ a', a' = a85 := ⟨_, rfl⟩
  rw [← ha] at hS ⊢; clear ha
  obtain ⟨r109, hr110, H⟩ := bind_el H
  refine c_region (fun K hK => ?_)
  refine st_val hS rfl rfl rfl (r_move hS rfl rfl) fun a86 hS86 => ?_
  obtain ⟨_, ⟨A88, cap89, A92, cap93, A96, cap97, A100, cap101, rfl, h90, h94, h98, h102⟩, hel87⟩ := El.of (OwD.rdx h17) hx54 (by decide)
  replace hel87 : El w80 g80 (fun q => q = N + 4) A15 ((0 : Int).toNat * 13) [.int .i64 x53.Parent, .slice A88 x53.Rails.a0.length cap89, .slice A92 x53.Rails.a1.length cap93, .slice A96 x53.Rails.a2.length cap97, .slice A100 x53.Rails.a3.length cap101, .int .i64 x53.Deepest.a0, .int .i64 x53.Deepest.a1, .int .i64 x53.Deepest.a2, .int .i64 x53.Deepest.a3, .int .i64 x53.Deepest.a4, .int .i64 x53.Deepest.a5, .int .i64 x53.WakeDevice, .int .i64 x53.WakeSystem] := hel87
  refine st_val hS86 rfl rfl rfl (r_index (e := 33) (sz := 13) (by_ := 168) hS86 rfl rfl rfl (by kernel_rfl) (RdS.some_ (OwS.rd h17) hx54) (idx_lo hx54) (idx_hi hx54)) fun a105 hS105 => st_val hS105 rfl rfl rfl (r_loadN (n := 13) (cs := [.int .i64 x53.Parent, .slice A88 x53.Rails.a0.length cap89, .slice A92 x53.Rails.a1.length cap93, .slice A96 x53.Rails.a2.length cap97, .slice A100 x53.Rails.a3.length cap101, .int .i64 x53.Deepest.a0, .int .i64 x53.Deepest.a1, .int .i64 x53.Deepest.a2, .int .i64 x53.Deepest.a3, .int .i64 x53.Deepest.a4, .int .i64 x53.Deepest.a5, .int .i64 x53.WakeDevice, .int .i64 x53.WakeSystem]) hS105 rfl rfl (by kernel_rfl) rfl (El.cells_off hel87 0 13)) fun a106 hS106 => st_val hS106 rfl rfl rfl (r_move hS106 rfl rfl) fun a107 hS107 => st_val hS107 rfl rfl rfl (r_move hS107 rfl rfl) fun a108 hS108 => ?_
  refine st_enter hS108 rfl rfl rfl (r_call hS108 rfl rfl (by kernel_rfl)) (ref27_Target.calls (C0 := (fun q => q = N + 4 + 1)) (p0 := x53) (p1 := r23) (p2 := p2) (g := g80) (N + 6)  h90 h94 h98 h102 (fun q (hq : q = N + 4 + 1) => by omega) hr110) ?_
  rintro _ a111 w112 ⟨g112, rfl, F112⟩ hS111
  replace h102 := RdS.fr h102 F112 (by decide) (fun q (hq : q = N + 4 + 1) (hm : N + 6 ≤ q) => by omega)
  replace hel87 := hel87.fr F112 (fun q (hq : q = N + 4) (hm : N + 6 ≤ q) => by omega)
  replace h17 := OwS.fr h17 F112 (fun c' hc (hm : N + 6 ≤ c') => by omega)
  replace h90 := RdS.fr h90 F112 (by decide) (fun q (hq : q = N + 4 + 1) (hm : N + 6 ≤ q) => by omega)
  replace h94 := RdS.fr h94 F112 (by decide) (fun q (hq : q = N + 4 + 1) (hm : N + 6 ≤ q) => by omega)
  replace h98 := RdS.fr h98 F112 (by decide) (fun q (hq : q = N + 4 + 1) (hm : N + 6 ≤ q) => by omega)
  replace hF := hF.trans F112 (fun c' (hm : N + 6 ≤ c') => by show N ≤ c'; omega)
  refine st_val hS111 rfl rfl rfl (r_move hS111 rfl rfl) fun a113 hS113 => st_val hS113 rfl rfl rfl (r_extract hS113 rfl rfl rfl) fun a114 hS114 => st_val hS114 rfl rfl rfl (r_extract hS114 rfl rfl rfl) fun a115 hS115 => st_val hS115 rfl rfl rfl (r_assign hS115 rfl rfl) fun a116 hS116 => st_val hS116 rfl rfl rfl (r_assign hS116 rfl rfl) fun a117 hS117 => wpList_nil (hK _ _ ?_)
  replace hS : Sl 75 _ [(9, .int .i64 r31.1), (10, .int .i64 r31.2), (11, .int .i64 r43.1), (12, .int .i64 r43.2), (13, .int .i64 r77.1), (14, .int .i64 r77.2), (15, .int .i64 r109.1), (16, .int .i64 r109.2)] := hS117.re ⟨rfl, rfl, rfl, rfl, rfl, rfl, rfl, rfl, trivial⟩
  clear hK K
  try clear hS86 hS105 hS106 hS107 hS108 hS111 hS113 hS114 hS115 hS116 hS117
  obtain ⟨a, ha⟩ : ∃ a', a' = a117 := ⟨_, rfl⟩
  rw [← ha] at hS ⊢; clear ha
  obtain ⟨t169, ht170, H⟩ := bind_el H
  refine c_region (fun K hK => ?_)
  refine st_val hS rfl rfl rfl (r_move hS rfl rfl) fun a118 hS118 => st_val hS118 rfl rfl rfl (r_move hS118 rfl rfl) fun a119 hS119 => st_val hS119 rfl rfl rfl (r_bin hS119 rfl rfl rfl b_eql) fun a120 hS120 => st_val hS120 rfl rfl rfl (r_move hS120 rfl rfl) fun a121 hS121 => ?_
  refine g_join (N := 75) 4 [(13, .int .i64 r77.1), (14, .int .i64 r77.2), (15, .int .i64 r109.1), (16, .int .i64 r109.2), (61, .bool ((r31.1 == r43.1) && (r31.2 == r43.2)))] ?_ (fun hk => ?_)
  rotate_left
  · rcases Bool.eq_false_or_eq_true ((r31.1 == r43.1)) with hb122 | hb122
    · refine st_valW hS121 (want_on hS121 rfl rfl rfl hb122) rfl rfl (r_move hS121 rfl rfl) fun a126 hS126 => st_valW hS126 (want_on hS126 rfl rfl rfl hb122) rfl rfl (r_move hS126 rfl rfl) fun a127 hS127 => st_valW hS127 (want_on hS127 rfl rfl rfl hb122) rfl rfl (r_bin hS127 rfl rfl rfl b_eql) fun a128 hS128 => st_val hS128 rfl rfl rfl (r_pickT hS128 rfl rfl rfl hb122) fun a129 hS129 => hk _ (hS129.re ⟨rfl, rfl, rfl, rfl, (by rw [hb122]; rfl), trivial⟩)
    · refine st_off hS121 (want_off hS121 rfl rfl rfl hb122) rfl rfl fun a130 hS130 => st_off hS130 (want_off hS130 rfl rfl rfl hb122) rfl rfl fun a131 hS131 => st_off hS131 (want_off hS131 rfl rfl rfl hb122) rfl rfl fun a132 hS132 => st_val hS132 rfl rfl rfl (r_pickF hS132 rfl rfl rfl hb122) fun a133 hS133 => hk _ (hS133.re ⟨rfl, rfl, rfl, rfl, (by rw [hb122]; rfl), trivial⟩)
  intro a134 hS134
  refine st_val hS134 rfl rfl rfl (r_move hS134 rfl rfl) fun a135 hS135 => ?_
  refine g_join (N := 75) 4 [(14, .int .i64 r77.2), (16, .int .i64 r109.2), (66, .bool (((r31.1 == r43.1) && (r31.2 == r43.2)) && (r77.1 == r109.1)))] ?_ (fun hk => ?_)
  rotate_left
  · rcases Bool.eq_false_or_eq_true (((r31.1 == r43.1) && (r31.2 == r43.2))) with hb136 | hb136
    · refine st_valW hS135 (want_on hS135 rfl rfl rfl hb136) rfl rfl (r_move hS135 rfl rfl) fun a140 hS140 => st_valW hS140 (want_on hS140 rfl rfl rfl hb136) rfl rfl (r_move hS140 rfl rfl) fun a141 hS141 => st_valW hS141 (want_on hS141 rfl rfl rfl hb136) rfl rfl (r_bin hS141 rfl rfl rfl b_eql) fun a142 hS142 => st_val hS142 rfl rfl rfl (r_pickT hS142 rfl rfl rfl hb136) fun a143 hS143 => hk _ (hS143.re ⟨rfl, rfl, (by rw [hb136]; rfl), trivial⟩)
    · refine st_off hS135 (want_off hS135 rfl rfl rfl hb136) rfl rfl fun a144 hS144 => st_off hS144 (want_off hS144 rfl rfl rfl hb136) rfl rfl fun a145 hS145 => st_off hS145 (want_off hS145 rfl rfl rfl hb136) rfl rfl fun a146 hS146 => st_val hS146 rfl rfl rfl (r_pickF hS146 rfl rfl rfl hb136) fun a147 hS147 => hk _ (hS147.re ⟨rfl, rfl, (by rw [hb136]; rfl), trivial⟩)
  intro a148 hS148
  refine st_val hS148 rfl rfl rfl (r_move hS148 rfl rfl) fun a149 hS149 => ?_
  refine g_join (N := 75) 4 [(71, .bool ((((r31.1 == r43.1) && (r31.2 == r43.2)) && (r77.1 == r109.1)) && (r77.2 == r109.2)))] ?_ (fun hk => ?_)
  rotate_left
  · rcases Bool.eq_false_or_eq_true ((((r31.1 == r43.1) && (r31.2 == r43.2)) && (r77.1 == r109.1))) with hb150 | hb150
    · refine st_valW hS149 (want_on hS149 rfl rfl rfl hb150) rfl rfl (r_move hS149 rfl rfl) fun a154 hS154 => st_valW hS154 (want_on hS154 rfl rfl rfl hb150) rfl rfl (r_move hS154 rfl rfl) fun a155 hS155 => st_valW hS155 (want_on hS155 rfl rfl rfl hb150) rfl rfl (r_bin hS155 rfl rfl rfl b_eql) fun a156 hS156 => st_val hS156 rfl rfl rfl (r_pickT hS156 rfl rfl rfl hb150) fun a157 hS157 => hk _ (hS157.re ⟨(by rw [hb150]; rfl), trivial⟩)
    · refine st_off hS149 (want_off hS149 rfl rfl rfl hb150) rfl rfl fun a158 hS158 => st_off hS158 (want_off hS158 rfl rfl rfl hb150) rfl rfl fun a159 hS159 => st_off hS159 (want_off hS159 rfl rfl rfl hb150) rfl rfl fun a160 hS160 => st_val hS160 rfl rfl rfl (r_pickF hS160 rfl rfl rfl hb150) fun a161 hS161 => hk _ (hS161.re ⟨(by rw [hb150]; rfl), trivial⟩)
  intro a162 hS162
  refine st_val hS162 rfl rfl rfl (r_move hS162 rfl rfl) fun a163 hS163 => ?_
  refine g_joinR 2 (fun a w171 => ∃ (g171 : Nat → Nat), Sl 75 a [(74, .bool t169)] ∧ Fr (fun q => N ≤ q) w g w171 g171) ?_ (fun hk => ?_)
  rotate_left
  · rcases Bool.eq_false_or_eq_true (((((r31.1 == r43.1) && (r31.2 == r43.2)) && (r77.1 == r109.1)) && (r77.2 == r109.2))) with hb164 | hb164
    · have H := ite_t hb164 ht170
      obtain ⟨r172, hr173, H⟩ := bind_el H
      have e176 := Option.some.inj H
      refine st_enterW hS163 (want_on hS163 rfl rfl rfl hb164) rfl rfl (r_call hS163 rfl rfl (by kernel_rfl)) (law27_awake.calls (g := g112) (N + 6)   hr173) ?_
      rintro _ a174 w175 ⟨g175, rfl, F175⟩ hS174
      replace hF := hF.trans F175 (fun c' (hm : N + 6 ≤ c') => by show N ≤ c'; omega)
      refine st_val hS174 rfl rfl rfl (r_pickT hS174 rfl rfl rfl hb164) fun a177 hS177 => hk _ _ ?_
      exact ⟨g175, hS177.re ⟨(by rw [← e176]; rfl), trivial⟩, hF⟩
    · have H := ite_f hb164 ht170
      have e178 := Option.some.inj H
      refine st_off hS163 (want_off hS163 rfl rfl rfl hb164) rfl rfl fun a179 hS179 => st_val hS179 rfl rfl rfl (r_pickF hS179 rfl rfl rfl hb164) fun a180 hS180 => hk _ _ ?_
      exact ⟨g112, hS180.re ⟨(by rw [← e178]; rfl), trivial⟩, hF⟩
  rintro a181 w171 ⟨g171, hS181, hF⟩
  refine st_val hS181 rfl rfl rfl (r_assign hS181 rfl rfl) fun a182 hS182 => wpList_nil (hK _ _ ?_)
  replace hS : Sl 75 _ [(6, .bool t169)] := hS182.re ⟨rfl, trivial⟩
  clear hK K
  try clear hS118 hS119 hS120 hS121 hS134 hS135 hS148 hS149 hS162 hS163 hS181 hS182
  obtain ⟨a, ha⟩ : ∃ a', a' = a182 := ⟨_, rfl⟩
  rw [← ha] at hS ⊢; clear ha
  refine wp_ret ?_
  have e := Option.some.inj H
  subst e
  repeat (with_reducible first | refine then_ret ?_ | refine inBlock_ret ?_)
  exact c_ret1 hS Try.results4 rfl ⟨_, rfl, g171, rfl, hF⟩

/-! ### law27_DeviceTargetPermitsWake: function 5 -/
def law27_DeviceTargetPermitsWake.f (p0 : api_PowerDevice) (p1 : Int) : Option (Bool) := (law27_Some.f [p0] 3).bind fun r13 => (idx r13 0).bind fun x22 => (help_Mod.f p1 6).bind fun r42 => (device_Target.f x22 r42 true).bind fun r150 => (device_Target.f x22 r42 false).bind fun r161 => (if ((!((r150.2 == 0) == (decide (r42 ≤ x22.WakeSystem)))) || (r161.2 != 0)) = true then some true else (idx (Ar6.l x22.Deepest) r42).bind fun x193 => some (r161.1 != x193)).bind fun t200 => if t200 = true then (some false) else (if ((r150.2 == 0) && (((decide (x22.WakeDevice < r150.1)) || (decide (r161.1 < r150.1))) || ((r150.1 != x22.WakeDevice) && (r150.1 != r161.1)))) = true then (some false) else ((if decide (0 < r42) = true then ((device_Target.f x22 (wi (r42 - 1)) false).bind fun r400 => if ((r400.2 != 0) || (decide (r161.1 < r400.1))) = true then (some (.out false)) else (some (.nxt ()))) else (some (.nxt ())) : Option (Fl (Bool) (Unit))).bind fun o392 => o392.go fun _ => (law27_awake.f ).bind fun r427 => some r427))
set_option maxRecDepth 100000 in
set_option maxHeartbeats 4000000 in
theorem law27_DeviceTargetPermitsWake.calls {p0 : api_PowerDevice} {C0 : Nat → Prop} {A0_0 : Option Addr} {cap0_0 : Nat} {A0_1 : Option Addr} {cap0_1 : Nat} {A0_2 : Option Addr} {cap0_2 : Nat} {A0_3 : Option Addr} {cap0_3 : Nat} {p1 : Int} {w : World} {g : Nat → Nat} {out : Bool} (N : Nat) (hp0_0 : RdS (kint .i64) w g C0 A0_0 cap0_0 p0.Rails.a0) (hp0_1 : RdS (kint .i64) w g C0 A0_1 cap0_1 p0.Rails.a1) (hp0_2 : RdS (kint .i64) w g C0 A0_2 cap0_2 p0.Rails.a2) (hp0_3 : RdS (kint .i64) w g C0 A0_3 cap0_3 p0.Rails.a3) (hC0 : ∀ c, C0 c → c < N) (H : law27_DeviceTargetPermitsWake.f p0 p1 = some out) :
    Calls Try.prog 5 #[.agg #[.int .i64 p0.Parent, .slice A0_0 p0.Rails.a0.length cap0_0, .slice A0_1 p0.Rails.a1.length cap0_1, .slice A0_2 p0.Rails.a2.length cap0_2, .slice A0_3 p0.Rails.a3.length cap0_3, .int .i64 p0.Deepest.a0, .int .i64 p0.Deepest.a1, .int .i64 p0.Deepest.a2, .int .i64 p0.Deepest.a3, .int .i64 p0.Deepest.a4, .int .i64 p0.Deepest.a5, .int .i64 p0.WakeDevice, .int .i64 p0.WakeSystem], .int .i64 p1] w (fun e w' => ∃ v, e = .returned v ∧ ∃ (g' : Nat → Nat), v = .bool out ∧ Fr (fun q => N ≤ q) w g w' g') := by
  unfold law27_DeviceTargetPermitsWake.f at H
  refine calls_enter Try.func5 rfl Try.ntmps5 rfl (fun a hS => ?_)
  replace hS : Sl 94 a [(0, .agg #[.int .i64 p0.Parent, .slice A0_0 p0.Rails.a0.length cap0_0, .slice A0_1 p0.Rails.a1.length cap0_1, .slice A0_2 p0.Rails.a2.length cap0_2, .slice A0_3 p0.Rails.a3.length cap0_3, .int .i64 p0.Deepest.a0, .int .i64 p0.Deepest.a1, .int .i64 p0.Deepest.a2, .int .i64 p0.Deepest.a3, .int .i64 p0.Deepest.a4, .int .i64 p0.Deepest.a5, .int .i64 p0.WakeDevice, .int .i64 p0.WakeSystem]), (1, .int .i64 p1)] := hS
  have hF : Fr (fun q => N ≤ q) w g w g := Fr.refl _ _ _
  refine c_region (fun K hK => ?_)
  refine st_eff hS rfl rfl rfl (e_box (cs := [.int .i64 p0.Parent, .slice A0_0 p0.Rails.a0.length cap0_0, .slice A0_1 p0.Rails.a1.length cap0_1, .slice A0_2 p0.Rails.a2.length cap0_2, .slice A0_3 p0.Rails.a3.length cap0_3, .int .i64 p0.Deepest.a0, .int .i64 p0.Deepest.a1, .int .i64 p0.Deepest.a2, .int .i64 p0.Deepest.a3, .int .i64 p0.Deepest.a4, .int .i64 p0.Deepest.a5, .int .i64 p0.WakeDevice, .int .i64 p0.WakeSystem]) (N + 0) g hS rfl rfl rfl) ?_
  rintro _ a4 w5 g5 ⟨⟨b1, rfl, h2⟩, F5⟩ hS4
  replace hp0_0 := RdS.fr hp0_0 F5 (by decide) (fun _ _ h => h)
  replace hp0_1 := RdS.fr hp0_1 F5 (by decide) (fun _ _ h => h)
  replace hp0_2 := RdS.fr hp0_2 F5 (by decide) (fun _ _ h => h)
  replace hp0_3 := RdS.fr hp0_3 F5 (by decide) (fun _ _ h => h)
  replace hF := hF.trans F5 (fun _ h => h.elim)
  refine st_val hS4 rfl rfl rfl (r_assign hS4 rfl rfl) fun a6 hS6 => wpList_nil (hK _ _ ?_)
  replace hS : Sl 94 _ [(1, .int .i64 p1), (2, .pointer (some ⟨b1, 0, none⟩))] := hS6.re ⟨rfl, rfl, trivial⟩
  clear hK K
  try clear hS4 hS6
  obtain ⟨a, ha⟩ : ∃ a', a' = a6 := ⟨_, rfl⟩
  rw [← ha] at hS ⊢; clear ha
  obtain ⟨r13, hr14, H⟩ := bind_el H
  refine c_region (fun K hK => ?_)
  refine st_val hS rfl rfl rfl (r_loadN (n := 13) (cs := [.int .i64 p0.Parent, .slice A0_0 p0.Rails.a0.length cap0_0, .slice A0_1 p0.Rails.a1.length cap0_1, .slice A0_2 p0.Rails.a2.length cap0_2, .slice A0_3 p0.Rails.a3.length cap0_3, .int .i64 p0.Deepest.a0, .int .i64 p0.Deepest.a1, .int .i64 p0.Deepest.a2, .int .i64 p0.Deepest.a3, .int .i64 p0.Deepest.a4, .int .i64 p0.Deepest.a5, .int .i64 p0.WakeDevice, .int .i64 p0.WakeSystem]) hS rfl rfl (by kernel_rfl) rfl (Bx.cells_off h2 0 13)) fun a7 hS7 => ?_
  refine st_eff hS7 rfl rfl rfl (e_litD (D := C0) (e := 33) (parts := [(0, .agg #[.int .i64 p0.Parent, .slice A0_0 p0.Rails.a0.length cap0_0, .slice A0_1 p0.Rails.a1.length cap0_1, .slice A0_2 p0.Rails.a2.length cap0_2, .slice A0_3 p0.Rails.a3.length cap0_3, .int .i64 p0.Deepest.a0, .int .i64 p0.Deepest.a1, .int .i64 p0.Deepest.a2, .int .i64 p0.Deepest.a3, .int .i64 p0.Deepest.a4, .int .i64 p0.Deepest.a5, .int .i64 p0.WakeDevice, .int .i64 p0.WakeSystem])]) (cs := [.int .i64 p0.Parent, .slice A0_0 p0.Rails.a0.length cap0_0, .slice A0_1 p0.Rails.a1.length cap0_1, .slice A0_2 p0.Rails.a2.length cap0_2, .slice A0_3 p0.Rails.a3.length cap0_3, .int .i64 p0.Deepest.a0, .int .i64 p0.Deepest.a1, .int .i64 p0.Deepest.a2, .int .i64 p0.Deepest.a3, .int .i64 p0.Deepest.a4, .int .i64 p0.Deepest.a5, .int .i64 p0.WakeDevice, .int .i64 p0.WakeSystem]) kd_api_PowerDevice [p0] (N + 2) g5 hS7 rfl rfl (fun _ => by kernel_rfl) rfl (by decide) (Rows.cons (cs := [.int .i64 p0.Parent, .slice A0_0 p0.Rails.a0.length cap0_0, .slice A0_1 p0.Rails.a1.length cap0_1, .slice A0_2 p0.Rails.a2.length cap0_2, .slice A0_3 p0.Rails.a3.length cap0_3, .int .i64 p0.Deepest.a0, .int .i64 p0.Deepest.a1, .int .i64 p0.Deepest.a2, .int .i64 p0.Deepest.a3, .int .i64 p0.Deepest.a4, .int .i64 p0.Deepest.a5, .int .i64 p0.WakeDevice, .int .i64 p0.WakeSystem]) ⟨A0_0, cap0_0, A0_1, cap0_1, A0_2, cap0_2, A0_3, cap0_3, rfl, hp0_0, hp0_1, hp0_2, hp0_3⟩ Rows.nil)) ?_
  rintro _ a11 w12 g12 ⟨⟨A8, rfl, h9⟩, F12⟩ hS11
  replace h2 := h2.fr F12 (fun h => h)
  replace hp0_0 := RdS.fr hp0_0 F12 (by decide) (fun _ _ h => h)
  replace hp0_1 := RdS.fr hp0_1 F12 (by decide) (fun _ _ h => h)
  replace hp0_2 := RdS.fr hp0_2 F12 (by decide) (fun _ _ h => h)
  replace hp0_3 := RdS.fr hp0_3 F12 (by decide) (fun _ _ h => h)
  replace hF := hF.trans F12 (fun _ h => h.elim)
  refine st_enter hS11 rfl rfl rfl (r_call hS11 rfl rfl (by kernel_rfl)) (law27_Some.calls (C0 := (fun q => q = N + 2 ∨ C0 q)) (p0 := [p0]) (p1 := 3) (g := g12) (N + 8) (N + 4) (OwD.rd h9) (fun q (hq : q = N + 2 ∨ C0 q) => by rcases hq with hq | hq; all_goals first | (omega; done) | (have := hC0 q hq; omega; done)) (by omega) hr14) ?_
  rintro _ a19 w20 ⟨g20, A15, cap16, rfl, h17, F20⟩ hS19
  replace h9 := OwD.fr h9 F20 (fun (hm : (N + 4 ≤ N + 2 ∧ N + 2 < N + 4 + 2) ∨ N + 8 ≤ N + 2) => by omega) (fun q (hq : C0 q) (hm : (N + 4 ≤ q ∧ q < N + 4 + 2) ∨ N + 8 ≤ q) => by have := hC0 q hq; omega)
  replace h2 := h2.fr F20 (fun (hm : (N + 4 ≤ N + 0 ∧ N + 0 < N + 4 + 2) ∨ N + 8 ≤ N + 0) => by omega)
  replace hp0_0 := RdS.fr hp0_0 F20 (by decide) (fun q (hq : C0 q) (hm : (N + 4 ≤ q ∧ q < N + 4 + 2) ∨ N + 8 ≤ q) => by have := hC0 q hq; omega)
  replace hp0_1 := RdS.fr hp0_1 F20 (by decide) (fun q (hq : C0 q) (hm : (N + 4 ≤ q ∧ q < N + 4 + 2) ∨ N + 8 ≤ q) => by have := hC0 q hq; omega)
  replace hp0_2 := RdS.fr hp0_2 F20 (by decide) (fun q (hq : C0 q) (hm : (N + 4 ≤ q ∧ q < N + 4 + 2) ∨ N + 8 ≤ q) => by have := hC0 q hq; omega)
  replace hp0_3 := RdS.fr hp0_3 F20 (by decide) (fun q (hq : C0 q) (hm : (N + 4 ≤ q ∧ q < N + 4 + 2) ∨ N + 8 ≤ q) => by have := hC0 q hq; omega)
  replace hF := hF.trans F20 (fun c' (hm : (N + 4 ≤ c' ∧ c' < N + 4 + 2) ∨ N + 8 ≤ c') => by show N ≤ c'; omega)
  refine st_val hS19 rfl rfl rfl (r_assign hS19 rfl rfl) fun a21 hS21 => wpList_nil (hK _ _ ?_)
  replace hS : Sl 94 _ [(1, .int .i64 p1), (5, .slice A15 r13.length cap16)] := hS21.re ⟨rfl, rfl, trivial⟩
  clear hK K
  try clear hS7 hS11 hS19 hS21
  obtain ⟨a, ha⟩ : ∃ a', a' = a21 := ⟨_, rfl⟩
  rw [← ha] at hS ⊢; clear ha
  obtain ⟨x22, hx23, H⟩ := bind_el H
  obtain ⟨r42, hr43, H⟩ := bind_el H
  refine c_cut (fun a w90 => ∃ (g90 : Nat → Nat), ∃ (b91 : Nat), ∃ (A93 : Option Addr), ∃ (cap94 : Nat), ∃ (A96 : Option Addr), ∃ (cap97 : Nat), ∃ (A99 : Option Addr), ∃ (cap100 : Nat), ∃ (A102 : Option Addr), ∃ (cap103 : Nat), Sl 94 a [(6, .pointer (some ⟨b91, 0, none⟩)), (7, .int .i64 r42)] ∧ RdS (kint .i64) w90 g90 (fun q => q = N + 4 + 1) A93 cap94 x22.Rails.a0 ∧ RdS (kint .i64) w90 g90 (fun q => q = N + 4 + 1) A96 cap97 x22.Rails.a1 ∧ RdS (kint .i64) w90 g90 (fun q => q = N + 4 + 1) A99 cap100 x22.Rails.a2 ∧ RdS (kint .i64) w90 g90 (fun q => q = N + 4 + 1) A102 cap103 x22.Rails.a3 ∧ Bx w90 g90 (N + 6) b91 33 [.int .i64 x22.Parent, .slice A93 x22.Rails.a0.length cap94, .slice A96 x22.Rails.a1.length cap97, .slice A99 x22.Rails.a2.length cap100, .slice A102 x22.Rails.a3.length cap103, .int .i64 x22.Deepest.a0, .int .i64 x22.Deepest.a1, .int .i64 x22.Deepest.a2, .int .i64 x22.Deepest.a3, .int .i64 x22.Deepest.a4, .int .i64 x22.Deepest.a5, .int .i64 x22.WakeDevice, .int .i64 x22.WakeSystem] ∧ Fr (fun q => N ≤ q) w g w90 g90) (d_start (fun q => N + 8 ≤ q) g20 [6] 8 #[false, false, false, false, false, false, false, false] (by kernel_rfl) rfl rfl (fun w105 hw105 => ?_)) ?_
  · have F105 : Fr (fun _ => False) w20 g20 w105 g20 := by rw [hw105]; exact Fr.drew _ _ _
    replace h17 := OwS.fr h17 F105 (fun _ _ h => h)
    replace hF := hF.trans F105 (fun _ h => h.elim)
    have hC : Fr (fun q => N + 8 ≤ q) w105 g20 w105 g20 := Fr.refl _ _ _
    refine d_pure hS 0 #[true, false, false, false, false, false, false, false] rfl rfl rfl rfl (by kernel_rfl) (fun _ _ _ h => h) (fun _ => (r_move hS rfl rfl)) fun a106 hS106 => ?_
    obtain ⟨_, ⟨A108, cap109, A112, cap113, A116, cap117, A120, cap121, rfl, h110, h114, h118, h122⟩, hel107⟩ := El.of (OwD.rdx h17) hx23 (by decide)
    replace hel107 : El w105 g20 (fun q => q = N + 4) A15 ((0 : Int).toNat * 13) [.int .i64 x22.Parent, .slice A108 x22.Rails.a0.length cap109, .slice A112 x22.Rails.a1.length cap113, .slice A116 x22.Rails.a2.length cap117, .slice A120 x22.Rails.a3.length cap121, .int .i64 x22.Deepest.a0, .int .i64 x22.Deepest.a1, .int .i64 x22.Deepest.a2, .int .i64 x22.Deepest.a3, .int .i64 x22.Deepest.a4, .int .i64 x22.Deepest.a5, .int .i64 x22.WakeDevice, .int .i64 x22.WakeSystem] := hel107
    refine d_pure hS106 1 #[true, true, false, false, false, false, false, false] rfl rfl rfl rfl (by kernel_rfl) (fun _ _ _ h => h) (fun _ => (r_index (e := 33) (sz := 13) (by_ := 168) hS106 rfl rfl rfl (by kernel_rfl) (RdS.some_ (OwS.rd h17) hx23) (idx_lo hx23) (idx_hi hx23))) fun a125 hS125 => d_take hS125 2 #[true, true, true, false, false, false, false, false] rfl rfl rfl rfl (by kernel_rfl) (fun _ _ _ h => h) ⟨_, hC⟩ (fun w' g' Fz => (r_loadN (n := 13) (cs := [.int .i64 x22.Parent, .slice A108 x22.Rails.a0.length cap109, .slice A112 x22.Rails.a1.length cap113, .slice A116 x22.Rails.a2.length cap117, .slice A120 x22.Rails.a3.length cap121, .int .i64 x22.Deepest.a0, .int .i64 x22.Deepest.a1, .int .i64 x22.Deepest.a2, .int .i64 x22.Deepest.a3, .int .i64 x22.Deepest.a4, .int .i64 x22.Deepest.a5, .int .i64 x22.WakeDevice, .int .i64 x22.WakeSystem]) hS125 rfl rfl (by kernel_rfl) rfl (El.cells_off (hel107.fr Fz (fun q (hq : q = N + 4) (hm : N + 8 ≤ q) => by omega)) 0 13))) fun a126 hS126 => d_pure hS126 3 #[true, true, true, true, false, false, false, false] rfl rfl rfl rfl (by kernel_rfl) (fun _ _ _ h => h) (fun _ => (r_move hS126 rfl rfl)) fun a127 hS127 => ?_
    refine d_two 4 5 #[true, true, true, true, true, false, false, false] #[true, true, true, true, false, true, false, false] rfl rfl (by kernel_rfl) (arm_call hS127 rfl rfl rfl (r_call hS127 rfl rfl (by kernel_rfl)) (help_Mod.calls (p0 := p1) (p1 := 6) (g := g20) (N + 8)   hr43) (fun _ _ ⟨g', _, Fz⟩ _ => ⟨g', hC.trans Fz (fun c' (hm : N + 8 ≤ c') => by show N + 8 ≤ c'; omega)⟩) ?_) (arm_eff hS127 rfl rfl rfl (e_alloc (cs := [.int .i64 0, .slice none 0 0, .slice none 0 0, .slice none 0 0, .slice none 0 0, .int .i64 0, .int .i64 0, .int .i64 0, .int .i64 0, .int .i64 0, .int .i64 0, .int .i64 0, .int .i64 0]) (N + 6) g20 hS127 rfl (by kernel_rfl)) (fun _ _ g' hR _ => ⟨g', hC.trans hR.2 (fun _ h => h.elim)⟩) ?_)
    · rintro _ a128 w129 ⟨g129, rfl, F129⟩ hS128
      have hC129 := hC.trans F129 (fun c' (hm : N + 8 ≤ c') => by show N + 8 ≤ c'; omega)
      replace h110 := RdS.fr h110 F129 (by decide) (fun q (hq : q = N + 4 + 1) (hm : N + 8 ≤ q) => by omega)
      replace h114 := RdS.fr h114 F129 (by decide) (fun q (hq : q = N + 4 + 1) (hm : N + 8 ≤ q) => by omega)
      replace h118 := RdS.fr h118 F129 (by decide) (fun q (hq : q = N + 4 + 1) (hm : N + 8 ≤ q) => by omega)
      replace h122 := RdS.fr h122 F129 (by decide) (fun q (hq : q = N + 4 + 1) (hm : N + 8 ≤ q) => by omega)
      replace hel107 := hel107.fr F129 (fun q (hq : q = N + 4) (hm : N + 8 ≤ q) => by omega)
      replace h17 := OwS.fr h17 F129 (fun c' hc (hm : N + 8 ≤ c') => by omega)
      replace hF := hF.trans F129 (fun c' (hm : N + 8 ≤ c') => by show N ≤ c'; omega)
      refine d_one 5 #[true, true, true, true, true, true, false, false] rfl (by kernel_rfl) (arm_eff hS128 rfl rfl rfl (e_alloc (cs := [.int .i64 0, .slice none 0 0, .slice none 0 0, .slice none 0 0, .slice none 0 0, .int .i64 0, .int .i64 0, .int .i64 0, .int .i64 0, .int .i64 0, .int .i64 0, .int .i64 0, .int .i64 0]) (N + 6) g129 hS128 rfl (by kernel_rfl)) (fun _ _ g' hR _ => ⟨g', hC129.trans hR.2 (fun _ h => h.elim)⟩) ?_)
      rintro _ a133 w134 g134 ⟨⟨b130, rfl, h131⟩, F134⟩ hS133
      have hC134 := hC129.trans F134 (fun _ h => h.elim)
      replace h110 := RdS.fr h110 F134 (by decide) (fun _ _ h => h)
      replace h114 := RdS.fr h114 F134 (by decide) (fun _ _ h => h)
      replace h118 := RdS.fr h118 F134 (by decide) (fun _ _ h => h)
      replace h122 := RdS.fr h122 F134 (by decide) (fun _ _ h => h)
      replace hel107 := hel107.fr F134 (fun _ _ h => h)
      replace h17 := OwS.fr h17 F134 (fun _ _ h => h)
      replace hF := hF.trans F134 (fun _ h => h.elim)
      refine d_one 6 #[true, true, true, true, true, true, true, false] rfl (by kernel_rfl) (arm_effS hS133 rfl rfl (e_storeB (n := 13) (bb := true) (cs' := [.int .i64 x22.Parent, .slice A108 x22.Rails.a0.length cap109, .slice A112 x22.Rails.a1.length cap113, .slice A116 x22.Rails.a2.length cap117, .slice A120 x22.Rails.a3.length cap121, .int .i64 x22.Deepest.a0, .int .i64 x22.Deepest.a1, .int .i64 x22.Deepest.a2, .int .i64 x22.Deepest.a3, .int .i64 x22.Deepest.a4, .int .i64 x22.Deepest.a5, .int .i64 x22.WakeDevice, .int .i64 x22.WakeSystem]) g134 hS133 rfl rfl rfl (by kernel_rfl) rfl rfl rfl h131 rfl rfl) (.inl (by decide)) ?_)
      rintro a135 w136 g136 ⟨h131, F136⟩ hS135
      replace h110 := RdS.fr h110 F136 (by decide) (fun q (hq : q = N + 4 + 1) (hm : q = N + 6) => by omega)
      replace h114 := RdS.fr h114 F136 (by decide) (fun q (hq : q = N + 4 + 1) (hm : q = N + 6) => by omega)
      replace h118 := RdS.fr h118 F136 (by decide) (fun q (hq : q = N + 4 + 1) (hm : q = N + 6) => by omega)
      replace h122 := RdS.fr h122 F136 (by decide) (fun q (hq : q = N + 4 + 1) (hm : q = N + 6) => by omega)
      replace hel107 := hel107.fr F136 (fun q (hq : q = N + 4) (hm : q = N + 6) => by omega)
      replace h17 := OwS.fr h17 F136 (fun c' hc (hm : c' = N + 6) => by omega)
      replace hF := hF.trans F136 (fun c' (hm : c' = N + 6) => by show N ≤ c'; omega)
      refine d_pure hS135 7 #[true, true, true, true, true, true, true, true] rfl rfl rfl rfl (by kernel_rfl) (fun _ _ _ h => h) (fun _ => (r_assign hS135 rfl rfl)) fun a137 hS137 => d_done (by kernel_rfl) ?_
      exact ⟨g136, b130, A108, cap109, A112, cap113, A116, cap117, A120, cap121, hS137.re ⟨rfl, rfl, trivial⟩, h110, h114, h118, h122, h131, hF⟩
    · rintro _ a141 w142 g142 ⟨⟨b138, rfl, h139⟩, F142⟩ hS141
      have hC142 := hC.trans F142 (fun _ h => h.elim)
      replace h110 := RdS.fr h110 F142 (by decide) (fun _ _ h => h)
      replace h114 := RdS.fr h114 F142 (by decide) (fun _ _ h => h)
      replace h118 := RdS.fr h118 F142 (by decide) (fun _ _ h => h)
      replace h122 := RdS.fr h122 F142 (by decide) (fun _ _ h => h)
      replace hel107 := hel107.fr F142 (fun _ _ h => h)
      replace h17 := OwS.fr h17 F142 (fun _ _ h => h)
      replace hF := hF.trans F142 (fun _ h => h.elim)
      refine d_one 4 #[true, true, true, true, true, true, false, false] rfl (by kernel_rfl) (arm_call hS141 rfl rfl rfl (r_call hS141 rfl rfl (by kernel_rfl)) (help_Mod.calls (p0 := p1) (p1 := 6) (g := g142) (N + 8)   hr43) (fun _ _ ⟨g', _, Fz⟩ _ => ⟨g', hC142.trans Fz (fun c' (hm : N + 8 ≤ c') => by show N + 8 ≤ c'; omega)⟩) ?_)
      rintro _ a143 w144 ⟨g144, rfl, F144⟩ hS143
      have hC144 := hC142.trans F144 (fun c' (hm : N + 8 ≤ c') => by show N + 8 ≤ c'; omega)
      replace h110 := RdS.fr h110 F144 (by decide) (fun q (hq : q = N + 4 + 1) (hm : N + 8 ≤ q) => by omega)
      replace h114 := RdS.fr h114 F144 (by decide) (fun q (hq : q = N + 4 + 1) (hm : N + 8 ≤ q) => by omega)
      replace h118 := RdS.fr h118 F144 (by decide) (fun q (hq : q = N + 4 + 1) (hm : N + 8 ≤ q) => by omega)
      replace h122 := RdS.fr h122 F144 (by decide) (fun q (hq : q = N + 4 + 1) (hm : N + 8 ≤ q) => by omega)
      replace hel107 := hel107.fr F144 (fun q (hq : q = N + 4) (hm : N + 8 ≤ q) => by omega)
      replace h139 := h139.fr F144 (fun (hm : N + 8 ≤ N + 6) => by omega)
      replace h17 := OwS.fr h17 F144 (fun c' hc (hm : N + 8 ≤ c') => by omega)
      replace hF := hF.trans F144 (fun c' (hm : N + 8 ≤ c') => by show N ≤ c'; omega)
      refine d_one 6 #[true, true, true, true, true, true, true, false] rfl (by kernel_rfl) (arm_effS hS143 rfl rfl (e_storeB (n := 13) (bb := true) (cs' := [.int .i64 x22.Parent, .slice A108 x22.Rails.a0.length cap109, .slice A112 x22.Rails.a1.length cap113, .slice A116 x22.Rails.a2.length cap117, .slice A120 x22.Rails.a3.length cap121, .int .i64 x22.Deepest.a0, .int .i64 x22.Deepest.a1, .int .i64 x22.Deepest.a2, .int .i64 x22.Deepest.a3, .int .i64 x22.Deepest.a4, .int .i64 x22.Deepest.a5, .int .i64 x22.WakeDevice, .int .i64 x22.WakeSystem]) g144 hS143 rfl rfl rfl (by kernel_rfl) rfl rfl rfl h139 rfl rfl) (.inl (by decide)) ?_)
      rintro a145 w146 g146 ⟨h139, F146⟩ hS145
      replace h110 := RdS.fr h110 F146 (by decide) (fun q (hq : q = N + 4 + 1) (hm : q = N + 6) => by omega)
      replace h114 := RdS.fr h114 F146 (by decide) (fun q (hq : q = N + 4 + 1) (hm : q = N + 6) => by omega)
      replace h118 := RdS.fr h118 F146 (by decide) (fun q (hq : q = N + 4 + 1) (hm : q = N + 6) => by omega)
      replace h122 := RdS.fr h122 F146 (by decide) (fun q (hq : q = N + 4 + 1) (hm : q = N + 6) => by omega)
      replace hel107 := hel107.fr F146 (fun q (hq : q = N + 4) (hm : q = N + 6) => by omega)
      replace h17 := OwS.fr h17 F146 (fun c' hc (hm : c' = N + 6) => by omega)
      replace hF := hF.trans F146 (fun c' (hm : c' = N + 6) => by show N ≤ c'; omega)
      refine d_pure hS145 7 #[true, true, true, true, true, true, true, true] rfl rfl rfl rfl (by kernel_rfl) (fun _ _ _ h => h) (fun _ => (r_assign hS145 rfl rfl)) fun a147 hS147 => d_done (by kernel_rfl) ?_
      exact ⟨g146, b138, A108, cap109, A112, cap113, A116, cap117, A120, cap121, hS147.re ⟨rfl, rfl, trivial⟩, h110, h114, h118, h122, h139, hF⟩
  clear h17 hF
  clear hS
  rintro a w90 ⟨g90, b91, A93, cap94, A96, cap97, A99, cap100, A102, cap103, hS, h95, h98, h101, h104, h92, hF⟩
  obtain ⟨r150, hr151, H⟩ := bind_el H
  refine c_region (fun K hK => ?_)
  refine st_val hS rfl rfl rfl (r_loadN (n := 13) (cs := [.int .i64 x22.Parent, .slice A93 x22.Rails.a0.length cap94, .slice A96 x22.Rails.a1.length cap97, .slice A99 x22.Rails.a2.length cap100, .slice A102 x22.Rails.a3.length cap103, .int .i64 x22.Deepest.a0, .int .i64 x22.Deepest.a1, .int .i64 x22.Deepest.a2, .int .i64 x22.Deepest.a3, .int .i64 x22.Deepest.a4, .int .i64 x22.Deepest.a5, .int .i64 x22.WakeDevice, .int .i64 x22.WakeSystem]) hS rfl rfl (by kernel_rfl) rfl (Bx.cells_off h92 0 13)) fun a148 hS148 => st_val hS148 rfl rfl rfl (r_move hS148 rfl rfl) fun a149 hS149 => ?_
  refine st_enter hS149 rfl rfl rfl (r_call hS149 rfl rfl (by kernel_rfl)) (device_Target.calls (C0 := (fun q => q = N + 4 + 1)) (p0 := x22) (p1 := r42) (p2 := true) (g := g90) (N + 8)  h95 h98 h101 h104 (fun q (hq : q = N + 4 + 1) => by omega) hr151) ?_
  rintro _ a152 w153 ⟨g153, rfl, F153⟩ hS152
  replace h95 := RdS.fr h95 F153 (by decide) (fun q (hq : q = N + 4 + 1) (hm : N + 8 ≤ q) => by omega)
  replace h98 := RdS.fr h98 F153 (by decide) (fun q (hq : q = N + 4 + 1) (hm : N + 8 ≤ q) => by omega)
  replace h101 := RdS.fr h101 F153 (by decide) (fun q (hq : q = N + 4 + 1) (hm : N + 8 ≤ q) => by omega)
  replace h104 := RdS.fr h104 F153 (by decide) (fun q (hq : q = N + 4 + 1) (hm : N + 8 ≤ q) => by omega)
  replace h92 := h92.fr F153 (fun (hm : N + 8 ≤ N + 6) => by omega)
  replace hF := hF.trans F153 (fun c' (hm : N + 8 ≤ c') => by show N ≤ c'; omega)
  refine st_val hS152 rfl rfl rfl (r_move hS152 rfl rfl) fun a154 hS154 => st_val hS154 rfl rfl rfl (r_extract hS154 rfl rfl rfl) fun a155 hS155 => st_val hS155 rfl rfl rfl (r_extract hS155 rfl rfl rfl) fun a156 hS156 => st_val hS156 rfl rfl rfl (r_assign hS156 rfl rfl) fun a157 hS157 => st_val hS157 rfl rfl rfl (r_assign hS157 rfl rfl) fun a158 hS158 => wpList_nil (hK _ _ ?_)
  replace hS : Sl 94 _ [(6, .pointer (some ⟨b91, 0, none⟩)), (7, .int .i64 r42), (8, .int .i64 r150.1), (9, .int .i64 r150.2)] := hS158.re ⟨rfl, rfl, rfl, rfl, trivial⟩
  clear hK K
  try clear hS148 hS149 hS152 hS154 hS155 hS156 hS157 hS158
  obtain ⟨a, ha⟩ : ∃ a', a' = a158 := ⟨_, rfl⟩
  rw [← ha] at hS ⊢; clear ha
  obtain ⟨r161, hr162, H⟩ := bind_el H
  refine c_region (fun K hK => ?_)
  refine st_val hS rfl rfl rfl (r_loadN (n := 13) (cs := [.int .i64 x22.Parent, .slice A93 x22.Rails.a0.length cap94, .slice A96 x22.Rails.a1.length cap97, .slice A99 x22.Rails.a2.length cap100, .slice A102 x22.Rails.a3.length cap103, .int .i64 x22.Deepest.a0, .int .i64 x22.Deepest.a1, .int .i64 x22.Deepest.a2, .int .i64 x22.Deepest.a3, .int .i64 x22.Deepest.a4, .int .i64 x22.Deepest.a5, .int .i64 x22.WakeDevice, .int .i64 x22.WakeSystem]) hS rfl rfl (by kernel_rfl) rfl (Bx.cells_off h92 0 13)) fun a159 hS159 => st_val hS159 rfl rfl rfl (r_move hS159 rfl rfl) fun a160 hS160 => ?_
  refine st_enter hS160 rfl rfl rfl (r_call hS160 rfl rfl (by kernel_rfl)) (device_Target.calls (C0 := (fun q => q = N + 4 + 1)) (p0 := x22) (p1 := r42) (p2 := false) (g := g153) (N + 8)  h95 h98 h101 h104 (fun q (hq : q = N + 4 + 1) => by omega) hr162) ?_
  rintro _ a163 w164 ⟨g164, rfl, F164⟩ hS163
  replace h95 := RdS.fr h95 F164 (by decide) (fun q (hq : q = N + 4 + 1) (hm : N + 8 ≤ q) => by omega)
  replace h98 := RdS.fr h98 F164 (by decide) (fun q (hq : q = N + 4 + 1) (hm : N + 8 ≤ q) => by omega)
  replace h101 := RdS.fr h101 F164 (by decide) (fun q (hq : q = N + 4 + 1) (hm : N + 8 ≤ q) => by omega)
  replace h104 := RdS.fr h104 F164 (by decide) (fun q (hq : q = N + 4 + 1) (hm : N + 8 ≤ q) => by omega)
  replace h92 := h92.fr F164 (fun (hm : N + 8 ≤ N + 6) => by omega)
  replace hF := hF.trans F164 (fun c' (hm : N + 8 ≤ c') => by show N ≤ c'; omega)
  refine st_val hS163 rfl rfl rfl (r_move hS163 rfl rfl) fun a165 hS165 => st_val hS165 rfl rfl rfl (r_extract hS165 rfl rfl rfl) fun a166 hS166 => st_val hS166 rfl rfl rfl (r_extract hS166 rfl rfl rfl) fun a167 hS167 => st_val hS167 rfl rfl rfl (r_assign hS167 rfl rfl) fun a168 hS168 => st_val hS168 rfl rfl rfl (r_assign hS168 rfl rfl) fun a169 hS169 => wpList_nil (hK _ _ ?_)
  replace hS : Sl 94 _ [(6, .pointer (some ⟨b91, 0, none⟩)), (7, .int .i64 r42), (8, .int .i64 r150.1), (9, .int .i64 r150.2), (10, .int .i64 r161.1), (11, .int .i64 r161.2)] := hS169.re ⟨rfl, rfl, rfl, rfl, rfl, rfl, trivial⟩
  clear hK K
  try clear hS159 hS160 hS163 hS165 hS166 hS167 hS168 hS169
  obtain ⟨a, ha⟩ : ∃ a', a' = a169 := ⟨_, rfl⟩
  rw [← ha] at hS ⊢; clear ha
  refine wp_seq ?_
  obtain ⟨t200, ht201, H⟩ := bind_el H
  refine c_region (fun K hK => ?_)
  refine st_val hS rfl rfl rfl (r_move hS rfl rfl) fun a170 hS170 => st_val hS170 rfl rfl rfl (r_bin hS170 rfl rfl rfl b_eql) fun a171 hS171 => st_val hS171 rfl rfl rfl (r_move hS171 rfl rfl) fun a172 hS172 => st_val hS172 rfl rfl rfl (r_fieldB (off := 12) hS172 rfl rfl (by kernel_rfl)) fun a173 hS173 => st_val hS173 rfl rfl rfl (r_load1 (n := 1) hS173 rfl rfl (by kernel_rfl) (Bx.cell h92 rfl)) fun a174 hS174 => st_val hS174 rfl rfl rfl (r_bin hS174 rfl rfl rfl b_leq) fun a175 hS175 => st_val hS175 rfl rfl rfl (r_binB hS175 rfl rfl rfl (b_neqB (by kernel_rfl))) fun a176 hS176 => st_val hS176 rfl rfl rfl (r_move hS176 rfl rfl) fun a177 hS177 => ?_
  refine g_join (N := 94) 3 [(6, .pointer (some ⟨b91, 0, none⟩)), (7, .int .i64 r42), (8, .int .i64 r150.1), (9, .int .i64 r150.2), (10, .int .i64 r161.1), (44, .bool ((!((r150.2 == 0) == (decide (r42 ≤ x22.WakeSystem)))) || (r161.2 != 0)))] ?_ (fun hk => ?_)
  rotate_left
  · rcases Bool.eq_false_or_eq_true ((!((r150.2 == 0) == (decide (r42 ≤ x22.WakeSystem))))) with hb178 | hb178
    · refine st_off hS177 (want_off hS177 rfl rfl rfl hb178) rfl rfl fun a181 hS181 => st_off hS181 (want_off hS181 rfl rfl rfl hb178) rfl rfl fun a182 hS182 => st_val hS182 rfl rfl rfl (r_pickT hS182 rfl rfl rfl hb178) fun a183 hS183 => hk _ (hS183.re ⟨rfl, rfl, rfl, rfl, rfl, (by rw [hb178]; rfl), trivial⟩)
    · refine st_valW hS177 (want_on hS177 rfl rfl rfl hb178) rfl rfl (r_move hS177 rfl rfl) fun a184 hS184 => st_valW hS184 (want_on hS184 rfl rfl rfl hb178) rfl rfl (r_bin hS184 rfl rfl rfl b_neq) fun a185 hS185 => st_val hS185 rfl rfl rfl (r_pickF hS185 rfl rfl rfl hb178) fun a186 hS186 => hk _ (hS186.re ⟨rfl, rfl, rfl, rfl, rfl, (by rw [hb178]; rfl), trivial⟩)
  intro a187 hS187
  refine st_val hS187 rfl rfl rfl (r_move hS187 rfl rfl) fun a188 hS188 => ?_
  refine g_join (N := 94) 7 [(6, .pointer (some ⟨b91, 0, none⟩)), (7, .int .i64 r42), (8, .int .i64 r150.1), (9, .int .i64 r150.2), (10, .int .i64 r161.1), (52, .bool t200)] ?_ (fun hk => ?_)
  rotate_left
  · rcases Bool.eq_false_or_eq_true (((!((r150.2 == 0) == (decide (r42 ≤ x22.WakeSystem)))) || (r161.2 != 0))) with hb189 | hb189
    · have H := ite_t hb189 ht201
      have e202 := Option.some.inj H
      refine st_off hS188 (want_off hS188 rfl rfl rfl hb189) rfl rfl fun a203 hS203 => st_off hS203 (want_off hS203 rfl rfl rfl hb189) rfl rfl fun a204 hS204 => st_off hS204 (want_off hS204 rfl rfl rfl hb189) rfl rfl fun a205 hS205 => st_off hS205 (want_off hS205 rfl rfl rfl hb189) rfl rfl fun a206 hS206 => st_off hS206 (want_off hS206 rfl rfl rfl hb189) rfl rfl fun a207 hS207 => st_off hS207 (want_off hS207 rfl rfl rfl hb189) rfl rfl fun a208 hS208 => st_val hS208 rfl rfl rfl (r_pickT hS208 rfl rfl rfl hb189) fun a209 hS209 => hk _ (hS209.re ⟨rfl, rfl, rfl, rfl, rfl, (by rw [← e202]; rfl), trivial⟩)
    · have H := ite_f hb189 ht201
      obtain ⟨x213, hx214, H⟩ := bind_el H
      have e220 := Option.some.inj H
      refine st_valW hS188 (want_on hS188 rfl rfl rfl hb189) rfl rfl (r_move hS188 rfl rfl) fun a210 hS210 => st_valW hS210 (want_on hS210 rfl rfl rfl hb189) rfl rfl (r_move hS210 rfl rfl) fun a211 hS211 => st_valW hS211 (want_on hS211 rfl rfl rfl hb189) rfl rfl (r_fieldB (off := 5) hS211 rfl rfl (by kernel_rfl)) fun a212 hS212 => ?_
      have he215 : (([.int .i64 x22.Parent, .slice A93 x22.Rails.a0.length cap94, .slice A96 x22.Rails.a1.length cap97, .slice A99 x22.Rails.a2.length cap100, .slice A102 x22.Rails.a3.length cap103, .int .i64 x22.Deepest.a0, .int .i64 x22.Deepest.a1, .int .i64 x22.Deepest.a2, .int .i64 x22.Deepest.a3, .int .i64 x22.Deepest.a4, .int .i64 x22.Deepest.a5, .int .i64 x22.WakeDevice, .int .i64 x22.WakeSystem] : List Value).drop (5 + r42.toNat * 1)).take 1 = [.int .i64 x213] := by rcases Ar6.cases hx214 with ⟨e, e2⟩ | ⟨e, e2⟩ | ⟨e, e2⟩ | ⟨e, e2⟩ | ⟨e, e2⟩ | ⟨e, e2⟩ <;> (rw [e, e2] <;> rfl)
      refine st_valW hS212 (want_on hS212 rfl rfl rfl hb189) rfl rfl (r_ixB (n := 6) (e := 3) (sz := 1) (bb := false) hS212 rfl rfl rfl (by kernel_rfl) (idx_lo hx214) (Ar6.lt hx214)) fun a217 hS217 => st_valW hS217 (want_on hS217 rfl rfl rfl hb189) rfl rfl (r_load1 (n := 1) hS217 rfl rfl (by kernel_rfl) (Bx.at_ (j := 0) h92 he215 rfl)) fun a218 hS218 => st_valW hS218 (want_on hS218 rfl rfl rfl hb189) rfl rfl (r_bin hS218 rfl rfl rfl b_neq) fun a219 hS219 => st_val hS219 rfl rfl rfl (r_pickF hS219 rfl rfl rfl hb189) fun a221 hS221 => hk _ (hS221.re ⟨rfl, rfl, rfl, rfl, rfl, (by rw [← e220]; rfl), trivial⟩)
  intro a222 hS222
  refine wpList_nil (hK _ _ ?_)
  replace hS : Sl 94 _ [(6, .pointer (some ⟨b91, 0, none⟩)), (7, .int .i64 r42), (8, .int .i64 r150.1), (9, .int .i64 r150.2), (10, .int .i64 r161.1), (52, .bool t200)] := hS222.re ⟨rfl, rfl, rfl, rfl, rfl, rfl, trivial⟩
  clear hK K
  try clear hS170 hS171 hS172 hS173 hS174 hS175 hS176 hS177 hS187 hS188 hS222
  obtain ⟨a, ha⟩ : ∃ a', a' = a222 := ⟨_, rfl⟩
  rw [← ha] at hS ⊢; clear ha
  refine c_cond hS rfl (fun hb223 => ?_) (fun hb223 => ?_)
  · replace H := ite_t hb223 H
    refine c_pure [(4, .bool false)] (fun R hR => st_val hS rfl rfl rfl (r_assign hS rfl rfl) fun a224 hS224 => wpList_nil (hR _ (hS224.re ⟨rfl, trivial⟩))) ?_
    clear hS
    clear a
    intro a hS
    refine wp_ret ?_
    have e := Option.some.inj H
    subst e
    repeat (with_reducible first | refine then_ret ?_ | refine inBlock_ret ?_)
    exact c_ret1 hS Try.results5 rfl ⟨_, rfl, g164, rfl, hF⟩
  · replace H := ite_f hb223 H
    refine wp_skip ?_
    change Code.wp _ _ _ _ _
    refine wp_seq ?_
    refine c_region (fun K hK => ?_)
    refine st_val hS rfl rfl rfl (r_move hS rfl rfl) fun a225 hS225 => st_val hS225 rfl rfl rfl (r_bin hS225 rfl rfl rfl b_eql) fun a226 hS226 => st_val hS226 rfl rfl rfl (r_move hS226 rfl rfl) fun a227 hS227 => ?_
    refine g_join (N := 94) 21 [(6, .pointer (some ⟨b91, 0, none⟩)), (7, .int .i64 r42), (10, .int .i64 r161.1), (76, .bool ((r150.2 == 0) && (((decide (x22.WakeDevice < r150.1)) || (decide (r161.1 < r150.1))) || ((r150.1 != x22.WakeDevice) && (r150.1 != r161.1)))))] ?_ (fun hk => ?_)
    rotate_left
    · rcases Bool.eq_false_or_eq_true ((r150.2 == 0)) with hb228 | hb228
      · refine st_valW hS227 (want_on hS227 rfl rfl rfl hb228) rfl rfl (r_move hS227 rfl rfl) fun a297 hS297 => st_valW hS297 (want_on hS297 rfl rfl rfl hb228) rfl rfl (r_fieldB (off := 11) hS297 rfl rfl (by kernel_rfl)) fun a298 hS298 => st_valW hS298 (want_on hS298 rfl rfl rfl hb228) rfl rfl (r_load1 (n := 1) hS298 rfl rfl (by kernel_rfl) (Bx.cell h92 rfl)) fun a299 hS299 => st_valW hS299 (want_on hS299 rfl rfl rfl hb228) rfl rfl (r_bin hS299 rfl rfl rfl b_gtr) fun a300 hS300 => st_valW hS300 (want_on hS300 rfl rfl rfl hb228) rfl rfl (r_move hS300 rfl rfl) fun a301 hS301 => ?_
        refine g_join (N := 94) 4 [(6, .pointer (some ⟨b91, 0, none⟩)), (7, .int .i64 r42), (8, .int .i64 r150.1), (10, .int .i64 r161.1), (55, .bool (r150.2 == 0)), (64, .bool ((decide (x22.WakeDevice < r150.1)) || (decide (r161.1 < r150.1))))] ?_ (fun hk => ?_)
        rotate_left
        · rcases Bool.eq_false_or_eq_true (decide (x22.WakeDevice < r150.1)) with hb302 | hb302
          · refine st_off hS301 (want_off hS301 rfl rfl rfl hb302) rfl rfl fun a306 hS306 => st_off hS306 (want_off hS306 rfl rfl rfl hb302) rfl rfl fun a307 hS307 => st_off hS307 (want_off hS307 rfl rfl rfl hb302) rfl rfl fun a308 hS308 => st_valW hS308 (want_on hS308 rfl rfl rfl hb228) rfl rfl (r_pickT hS308 rfl rfl rfl hb302) fun a309 hS309 => hk _ (hS309.re ⟨rfl, rfl, rfl, rfl, rfl, (by rw [hb302]; rfl), trivial⟩)
          · refine st_valW hS301 (want_on hS301 rfl rfl rfl hb302) rfl rfl (r_move hS301 rfl rfl) fun a310 hS310 => st_valW hS310 (want_on hS310 rfl rfl rfl hb302) rfl rfl (r_move hS310 rfl rfl) fun a311 hS311 => st_valW hS311 (want_on hS311 rfl rfl rfl hb302) rfl rfl (r_bin hS311 rfl rfl rfl b_gtr) fun a312 hS312 => st_valW hS312 (want_on hS312 rfl rfl rfl hb228) rfl rfl (r_pickF hS312 rfl rfl rfl hb302) fun a313 hS313 => hk _ (hS313.re ⟨rfl, rfl, rfl, rfl, rfl, (by rw [hb302]; rfl), trivial⟩)
        intro a314 hS314
        refine st_valW hS314 (want_on hS314 rfl rfl rfl hb228) rfl rfl (r_move hS314 rfl rfl) fun a315 hS315 => ?_
        refine g_join (N := 94) 10 [(6, .pointer (some ⟨b91, 0, none⟩)), (7, .int .i64 r42), (10, .int .i64 r161.1), (55, .bool (r150.2 == 0)), (75, .bool (((decide (x22.WakeDevice < r150.1)) || (decide (r161.1 < r150.1))) || ((r150.1 != x22.WakeDevice) && (r150.1 != r161.1))))] ?_ (fun hk => ?_)
        rotate_left
        · rcases Bool.eq_false_or_eq_true (((decide (x22.WakeDevice < r150.1)) || (decide (r161.1 < r150.1)))) with hb316 | hb316
          · refine st_off hS315 (want_off hS315 rfl rfl rfl hb316) rfl rfl fun a335 hS335 => st_off hS335 (want_off hS335 rfl rfl rfl hb316) rfl rfl fun a336 hS336 => st_off hS336 (want_off hS336 rfl rfl rfl hb316) rfl rfl fun a337 hS337 => st_off hS337 (want_off hS337 rfl rfl rfl hb316) rfl rfl fun a338 hS338 => st_off hS338 (want_off hS338 rfl rfl rfl hb316) rfl rfl fun a339 hS339 => st_off hS339 (want_un hS339 rfl rfl rfl) rfl rfl fun a340 hS340 => st_off hS340 (want_un hS340 rfl rfl rfl) rfl rfl fun a341 hS341 => st_off hS341 (want_un hS341 rfl rfl rfl) rfl rfl fun a342 hS342 => st_off hS342 (want_off hS342 rfl rfl rfl hb316) rfl rfl fun a343 hS343 => st_valW hS343 (want_on hS343 rfl rfl rfl hb228) rfl rfl (r_pickT hS343 rfl rfl rfl hb316) fun a344 hS344 => hk _ (hS344.re ⟨rfl, rfl, rfl, rfl, (by rw [hb316]; rfl), trivial⟩)
          · refine st_valW hS315 (want_on hS315 rfl rfl rfl hb316) rfl rfl (r_move hS315 rfl rfl) fun a345 hS345 => st_valW hS345 (want_on hS345 rfl rfl rfl hb316) rfl rfl (r_fieldB (off := 11) hS345 rfl rfl (by kernel_rfl)) fun a346 hS346 => st_valW hS346 (want_on hS346 rfl rfl rfl hb316) rfl rfl (r_load1 (n := 1) hS346 rfl rfl (by kernel_rfl) (Bx.cell h92 rfl)) fun a347 hS347 => st_valW hS347 (want_on hS347 rfl rfl rfl hb316) rfl rfl (r_bin hS347 rfl rfl rfl b_neq) fun a348 hS348 => st_valW hS348 (want_on hS348 rfl rfl rfl hb316) rfl rfl (r_move hS348 rfl rfl) fun a349 hS349 => ?_
            refine g_join (N := 94) 4 [(6, .pointer (some ⟨b91, 0, none⟩)), (7, .int .i64 r42), (10, .int .i64 r161.1), (55, .bool (r150.2 == 0)), (65, .bool ((decide (x22.WakeDevice < r150.1)) || (decide (r161.1 < r150.1)))), (74, .bool ((r150.1 != x22.WakeDevice) && (r150.1 != r161.1)))] ?_ (fun hk => ?_)
            rotate_left
            · rcases Bool.eq_false_or_eq_true ((r150.1 != x22.WakeDevice)) with hb350 | hb350
              · refine st_valW hS349 (want_on hS349 rfl rfl rfl hb350) rfl rfl (r_move hS349 rfl rfl) fun a354 hS354 => st_valW hS354 (want_on hS354 rfl rfl rfl hb350) rfl rfl (r_move hS354 rfl rfl) fun a355 hS355 => st_valW hS355 (want_on hS355 rfl rfl rfl hb350) rfl rfl (r_bin hS355 rfl rfl rfl b_neq) fun a356 hS356 => st_valW hS356 (want_on hS356 rfl rfl rfl hb316) rfl rfl (r_pickT hS356 rfl rfl rfl hb350) fun a357 hS357 => hk _ (hS357.re ⟨rfl, rfl, rfl, rfl, rfl, (by rw [hb350]; rfl), trivial⟩)
              · refine st_off hS349 (want_off hS349 rfl rfl rfl hb350) rfl rfl fun a358 hS358 => st_off hS358 (want_off hS358 rfl rfl rfl hb350) rfl rfl fun a359 hS359 => st_off hS359 (want_off hS359 rfl rfl rfl hb350) rfl rfl fun a360 hS360 => st_valW hS360 (want_on hS360 rfl rfl rfl hb316) rfl rfl (r_pickF hS360 rfl rfl rfl hb350) fun a361 hS361 => hk _ (hS361.re ⟨rfl, rfl, rfl, rfl, rfl, (by rw [hb350]; rfl), trivial⟩)
            intro a362 hS362
            refine st_valW hS362 (want_on hS362 rfl rfl rfl hb228) rfl rfl (r_pickF hS362 rfl rfl rfl hb316) fun a363 hS363 => hk _ (hS363.re ⟨rfl, rfl, rfl, rfl, (by rw [hb316]; rfl), trivial⟩)
        intro a364 hS364
        refine st_val hS364 rfl rfl rfl (r_pickT hS364 rfl rfl rfl hb228) fun a365 hS365 => hk _ (hS365.re ⟨rfl, rfl, rfl, (by rw [hb228]; rfl), trivial⟩)
      · refine st_off hS227 (want_off hS227 rfl rfl rfl hb228) rfl rfl fun a366 hS366 => st_off hS366 (want_off hS366 rfl rfl rfl hb228) rfl rfl fun a367 hS367 => st_off hS367 (want_off hS367 rfl rfl rfl hb228) rfl rfl fun a368 hS368 => st_off hS368 (want_off hS368 rfl rfl rfl hb228) rfl rfl fun a369 hS369 => st_off hS369 (want_off hS369 rfl rfl rfl hb228) rfl rfl fun a370 hS370 => st_off hS370 (want_un hS370 rfl rfl rfl) rfl rfl fun a371 hS371 => st_off hS371 (want_un hS371 rfl rfl rfl) rfl rfl fun a372 hS372 => st_off hS372 (want_un hS372 rfl rfl rfl) rfl rfl fun a373 hS373 => st_off hS373 (want_off hS373 rfl rfl rfl hb228) rfl rfl fun a374 hS374 => st_off hS374 (want_off hS374 rfl rfl rfl hb228) rfl rfl fun a375 hS375 => st_off hS375 (want_un hS375 rfl rfl rfl) rfl rfl fun a376 hS376 => st_off hS376 (want_un hS376 rfl rfl rfl) rfl rfl fun a377 hS377 => st_off hS377 (want_un hS377 rfl rfl rfl) rfl rfl fun a378 hS378 => st_off hS378 (want_un hS378 rfl rfl rfl) rfl rfl fun a379 hS379 => st_off hS379 (want_un hS379 rfl rfl rfl) rfl rfl fun a380 hS380 => st_off hS380 (want_un hS380 rfl rfl rfl) rfl rfl fun a381 hS381 => st_off hS381 (want_un hS381 rfl rfl rfl) rfl rfl fun a382 hS382 => st_off hS382 (want_un hS382 rfl rfl rfl) rfl rfl fun a383 hS383 => st_off hS383 (want_un hS383 rfl rfl rfl) rfl rfl fun a384 hS384 => st_off hS384 (want_off hS384 rfl rfl rfl hb228) rfl rfl fun a385 hS385 => st_val hS385 rfl rfl rfl (r_pickF hS385 rfl rfl rfl hb228) fun a386 hS386 => hk _ (hS386.re ⟨rfl, rfl, rfl, (by rw [hb228]; rfl), trivial⟩)
    intro a387 hS387
    refine wpList_nil (hK _ _ ?_)
    replace hS : Sl 94 _ [(6, .pointer (some ⟨b91, 0, none⟩)), (7, .int .i64 r42), (10, .int .i64 r161.1), (76, .bool ((r150.2 == 0) && (((decide (x22.WakeDevice < r150.1)) || (decide (r161.1 < r150.1))) || ((r150.1 != x22.WakeDevice) && (r150.1 != r161.1)))))] := hS387.re ⟨rfl, rfl, rfl, rfl, trivial⟩
    clear hK K
    try clear hS225 hS226 hS227 hS387
    obtain ⟨a, ha⟩ : ∃ a', a' = a387 := ⟨_, rfl⟩
    rw [← ha] at hS ⊢; clear ha
    refine c_cond hS rfl (fun hb388 => ?_) (fun hb388 => ?_)
    · replace H := ite_t hb388 H
      refine c_pure [(4, .bool false)] (fun R hR => st_val hS rfl rfl rfl (r_assign hS rfl rfl) fun a389 hS389 => wpList_nil (hR _ (hS389.re ⟨rfl, trivial⟩))) ?_
      clear hS
      clear a
      intro a hS
      refine wp_ret ?_
      have e := Option.some.inj H
      subst e
      repeat (with_reducible first | refine then_ret ?_ | refine inBlock_ret ?_)
      exact c_ret1 hS Try.results5 rfl ⟨_, rfl, g164, rfl, hF⟩
    · replace H := ite_f hb388 H
      refine wp_skip ?_
      change Code.wp _ _ _ _ _
      obtain ⟨o392, H, Hl393⟩ := bind_el H
      refine c_cut (fun a w390 => ∃ (g390 : Nat → Nat), o392 = .nxt () ∧ Sl 94 a [] ∧ Fr (fun q => N ≤ q) w g w390 g390) ?_ ?_
      · refine c_pure [(6, .pointer (some ⟨b91, 0, none⟩)), (7, .int .i64 r42), (10, .int .i64 r161.1), (78, .bool (decide (0 < r42)))] (fun R hR => st_val hS rfl rfl rfl (r_move hS rfl rfl) fun a394 hS394 => st_val hS394 rfl rfl rfl (r_bin hS394 rfl rfl rfl b_gtr) fun a395 hS395 => wpList_nil (hR _ (hS395.re ⟨rfl, rfl, rfl, rfl, trivial⟩))) ?_
        clear hS
        clear a
        intro a hS
        refine c_cond hS rfl (fun hb396 => ?_) (fun hb396 => ?_)
        · replace H := ite_t hb396 H
          obtain ⟨r400, hr401, H⟩ := bind_el H
          refine c_region (fun K hK => ?_)
          refine st_val hS rfl rfl rfl (r_loadN (n := 13) (cs := [.int .i64 x22.Parent, .slice A93 x22.Rails.a0.length cap94, .slice A96 x22.Rails.a1.length cap97, .slice A99 x22.Rails.a2.length cap100, .slice A102 x22.Rails.a3.length cap103, .int .i64 x22.Deepest.a0, .int .i64 x22.Deepest.a1, .int .i64 x22.Deepest.a2, .int .i64 x22.Deepest.a3, .int .i64 x22.Deepest.a4, .int .i64 x22.Deepest.a5, .int .i64 x22.WakeDevice, .int .i64 x22.WakeSystem]) hS rfl rfl (by kernel_rfl) rfl (Bx.cells_off h92 0 13)) fun a397 hS397 => st_val hS397 rfl rfl rfl (r_move hS397 rfl rfl) fun a398 hS398 => st_val hS398 rfl rfl rfl (r_bin hS398 rfl rfl rfl b_sub) fun a399 hS399 => ?_
          refine st_enter hS399 rfl rfl rfl (r_call hS399 rfl rfl (by kernel_rfl)) (device_Target.calls (C0 := (fun q => q = N + 4 + 1)) (p0 := x22) (p1 := (wi (r42 - 1))) (p2 := false) (g := g164) (N + 8)  h95 h98 h101 h104 (fun q (hq : q = N + 4 + 1) => by omega) hr401) ?_
          rintro _ a402 w403 ⟨g403, rfl, F403⟩ hS402
          replace h95 := RdS.fr h95 F403 (by decide) (fun q (hq : q = N + 4 + 1) (hm : N + 8 ≤ q) => by omega)
          replace h98 := RdS.fr h98 F403 (by decide) (fun q (hq : q = N + 4 + 1) (hm : N + 8 ≤ q) => by omega)
          replace h101 := RdS.fr h101 F403 (by decide) (fun q (hq : q = N + 4 + 1) (hm : N + 8 ≤ q) => by omega)
          replace h104 := RdS.fr h104 F403 (by decide) (fun q (hq : q = N + 4 + 1) (hm : N + 8 ≤ q) => by omega)
          replace h92 := h92.fr F403 (fun (hm : N + 8 ≤ N + 6) => by omega)
          replace hF := hF.trans F403 (fun c' (hm : N + 8 ≤ c') => by show N ≤ c'; omega)
          refine st_val hS402 rfl rfl rfl (r_move hS402 rfl rfl) fun a404 hS404 => st_val hS404 rfl rfl rfl (r_extract hS404 rfl rfl rfl) fun a405 hS405 => st_val hS405 rfl rfl rfl (r_extract hS405 rfl rfl rfl) fun a406 hS406 => st_val hS406 rfl rfl rfl (r_assign hS406 rfl rfl) fun a407 hS407 => st_val hS407 rfl rfl rfl (r_assign hS407 rfl rfl) fun a408 hS408 => wpList_nil (hK _ _ ?_)
          replace hS : Sl 94 _ [(10, .int .i64 r161.1), (12, .int .i64 r400.1), (13, .int .i64 r400.2)] := hS408.re ⟨rfl, rfl, rfl, trivial⟩
          clear hK K
          try clear hS397 hS398 hS399 hS402 hS404 hS405 hS406 hS407 hS408
          obtain ⟨a, ha⟩ : ∃ a', a' = a408 := ⟨_, rfl⟩
          rw [← ha] at hS ⊢; clear ha
          refine c_region (fun K hK => ?_)
          refine st_val hS rfl rfl rfl (r_move hS rfl rfl) fun a409 hS409 => st_val hS409 rfl rfl rfl (r_bin hS409 rfl rfl rfl b_neq) fun a410 hS410 => st_val hS410 rfl rfl rfl (r_move hS410 rfl rfl) fun a411 hS411 => ?_
          refine g_join (N := 94) 4 [(92, .bool ((r400.2 != 0) || (decide (r161.1 < r400.1))))] ?_ (fun hk => ?_)
          rotate_left
          · rcases Bool.eq_false_or_eq_true ((r400.2 != 0)) with hb412 | hb412
            · refine st_off hS411 (want_off hS411 rfl rfl rfl hb412) rfl rfl fun a416 hS416 => st_off hS416 (want_off hS416 rfl rfl rfl hb412) rfl rfl fun a417 hS417 => st_off hS417 (want_off hS417 rfl rfl rfl hb412) rfl rfl fun a418 hS418 => st_val hS418 rfl rfl rfl (r_pickT hS418 rfl rfl rfl hb412) fun a419 hS419 => hk _ (hS419.re ⟨(by rw [hb412]; rfl), trivial⟩)
            · refine st_valW hS411 (want_on hS411 rfl rfl rfl hb412) rfl rfl (r_move hS411 rfl rfl) fun a420 hS420 => st_valW hS420 (want_on hS420 rfl rfl rfl hb412) rfl rfl (r_move hS420 rfl rfl) fun a421 hS421 => st_valW hS421 (want_on hS421 rfl rfl rfl hb412) rfl rfl (r_bin hS421 rfl rfl rfl b_gtr) fun a422 hS422 => st_val hS422 rfl rfl rfl (r_pickF hS422 rfl rfl rfl hb412) fun a423 hS423 => hk _ (hS423.re ⟨(by rw [hb412]; rfl), trivial⟩)
          intro a424 hS424
          refine wpList_nil (hK _ _ ?_)
          replace hS : Sl 94 _ [(92, .bool ((r400.2 != 0) || (decide (r161.1 < r400.1))))] := hS424.re ⟨rfl, trivial⟩
          clear hK K
          try clear hS409 hS410 hS411 hS424
          obtain ⟨a, ha⟩ : ∃ a', a' = a424 := ⟨_, rfl⟩
          rw [← ha] at hS ⊢; clear ha
          refine c_cond hS rfl (fun hb425 => ?_) (fun hb425 => ?_)
          · replace H := ite_t hb425 H
            refine c_pure [(4, .bool false)] (fun R hR => st_val hS rfl rfl rfl (r_assign hS rfl rfl) fun a426 hS426 => wpList_nil (hR _ (hS426.re ⟨rfl, trivial⟩))) ?_
            clear hS
            clear a
            intro a hS
            refine wp_ret ?_
            have e := Option.some.inj H
            subst e
            replace H := Fl.go_out Hl393
            have e := Option.some.inj H
            subst e
            repeat (with_reducible first | refine then_ret ?_ | refine inBlock_ret ?_)
            exact c_ret1 hS Try.results5 rfl ⟨_, rfl, g403, rfl, hF⟩
          · replace H := ite_f hb425 H
            refine wp_skip ?_
            have e := Option.some.inj H
            exact ⟨g403, e.symm, hS.re trivial, hF⟩
        · replace H := ite_f hb396 H
          refine wp_skip ?_
          have e := Option.some.inj H
          exact ⟨g164, e.symm, hS.re trivial, hF⟩
      · clear H
        clear h95 h98 h101 h104 h92 hF
        clear hS
        rintro a w390 ⟨g390, hpre0, hS, hF⟩
        subst hpre0
        have H := Fl.go_nxt Hl393
        clear Hl393
        obtain ⟨r427, hr428, H⟩ := bind_el H
        refine c_region (fun K hK => ?_)
        refine st_enter hS rfl rfl rfl (r_call hS rfl rfl (by kernel_rfl)) (law27_awake.calls (g := g390) (N + 8)   hr428) ?_
        rintro _ a429 w430 ⟨g430, rfl, F430⟩ hS429
        replace hF := hF.trans F430 (fun c' (hm : N + 8 ≤ c') => by show N ≤ c'; omega)
        refine st_val hS429 rfl rfl rfl (r_assign hS429 rfl rfl) fun a431 hS431 => wpList_nil (hK _ _ ?_)
        replace hS : Sl 94 _ [(4, .bool r427)] := hS431.re ⟨rfl, trivial⟩
        clear hK K
        try clear hS429 hS431
        obtain ⟨a, ha⟩ : ∃ a', a' = a431 := ⟨_, rfl⟩
        rw [← ha] at hS ⊢; clear ha
        refine wp_ret ?_
        have e := Option.some.inj H
        subst e
        repeat (with_reducible first | refine then_ret ?_ | refine inBlock_ret ?_)
        exact c_ret1 hS Try.results5 rfl ⟨_, rfl, g430, rfl, hF⟩

/-! ### law27_DeviceChangeAgrees: function 6 -/
def law27_DeviceChangeAgrees.l1 (p1 : Int) (p2 : Int) (x77 : api_PowerDevice) (r109 : Int) (r114 : Int) : Nat → Int → Option (Fl (Fl (Bool) (Unit)) (Unit))
  | 0, _ => none
  | k122 + 1, m1_0 => if decide (m1_0 < 2) = true then ((idx (Ar2.l (Ar2.mk (Ar2.mk p1 p2) (Ar2.mk r109 r114))) m1_0).bind fun x125 => (device_Change.f x77 x125.a0 x125.a1).bind fun r142 => (ref27_Change.f x77 x125.a0 x125.a1).bind fun r166 => (if (r142.2.2 != r166.2.2) = true then some true else (help_Equal_int.f r142.1 r166.1).bind fun r192 => some (!r192)).bind fun t197 => (if t197 = true then some true else (help_Equal_int.f r142.2.1 r166.2.1).bind fun r220 => some (!r220)).bind fun t225 => if t225 = true then (some (.out (.out false))) else (law27_DeviceChangeAgrees.l1 p1 p2 x77 r109 r114 k122 (wi (m1_0 + 1)))) else (some (.nxt ()))
def law27_DeviceChangeAgrees.l0 (p0 : api_PowerDevice) (p1 : Int) (p2 : Int) (x45 : api_PowerDevice) : Nat → Int → Option (Fl (Bool) (Unit))
  | 0, _ => none
  | k70 + 1, m0_0 => if decide (m0_0 < 2) = true then (((idx (Ar2.l (Ar2.mk p0 x45)) m0_0).bind fun x77 => (help_Mod.f p1 5).bind fun r109 => (help_Mod.f p2 5).bind fun r114 => law27_DeviceChangeAgrees.l1 p1 p2 x77 r109 r114 FUEL 0 : Option (Fl (Fl (Bool) (Unit)) (Unit))).bind fun o75 => o75.go fun _ => law27_DeviceChangeAgrees.l0 p0 p1 p2 x45 k70 (wi (m0_0 + 1))) else (some (.nxt ()))
def law27_DeviceChangeAgrees.f (p0 : api_PowerDevice) (p1 : Int) (p2 : Int) : Option (Bool) := (law27_large.f [p0]).bind fun r13 => if r13 = true then ((law27_awake.f ).bind fun r18 => some r18) else ((law27_Some.f [p0] 5).bind fun r29 => ((idx r29 0).bind fun x45 => law27_DeviceChangeAgrees.l0 p0 p1 p2 x45 FUEL 0 : Option (Fl (Bool) (Unit))).bind fun o40 => o40.go fun _ => (law27_awake.f ).bind fun r250 => some r250)
set_option maxRecDepth 100000 in
set_option maxHeartbeats 4000000 in
theorem law27_DeviceChangeAgrees.calls {p0 : api_PowerDevice} {C0 : Nat → Prop} {A0_0 : Option Addr} {cap0_0 : Nat} {A0_1 : Option Addr} {cap0_1 : Nat} {A0_2 : Option Addr} {cap0_2 : Nat} {A0_3 : Option Addr} {cap0_3 : Nat} {p1 : Int} {p2 : Int} {w : World} {g : Nat → Nat} {out : Bool} (N : Nat) (hp0_0 : RdS (kint .i64) w g C0 A0_0 cap0_0 p0.Rails.a0) (hp0_1 : RdS (kint .i64) w g C0 A0_1 cap0_1 p0.Rails.a1) (hp0_2 : RdS (kint .i64) w g C0 A0_2 cap0_2 p0.Rails.a2) (hp0_3 : RdS (kint .i64) w g C0 A0_3 cap0_3 p0.Rails.a3) (hC0 : ∀ c, C0 c → c < N) (H : law27_DeviceChangeAgrees.f p0 p1 p2 = some out) :
    Calls Try.prog 6 #[.agg #[.int .i64 p0.Parent, .slice A0_0 p0.Rails.a0.length cap0_0, .slice A0_1 p0.Rails.a1.length cap0_1, .slice A0_2 p0.Rails.a2.length cap0_2, .slice A0_3 p0.Rails.a3.length cap0_3, .int .i64 p0.Deepest.a0, .int .i64 p0.Deepest.a1, .int .i64 p0.Deepest.a2, .int .i64 p0.Deepest.a3, .int .i64 p0.Deepest.a4, .int .i64 p0.Deepest.a5, .int .i64 p0.WakeDevice, .int .i64 p0.WakeSystem], .int .i64 p1, .int .i64 p2] w (fun e w' => ∃ v, e = .returned v ∧ ∃ (g' : Nat → Nat), v = .bool out ∧ Fr (fun q => N ≤ q) w g w' g') := by
  unfold law27_DeviceChangeAgrees.f at H
  refine calls_enter Try.func6 rfl Try.ntmps6 rfl (fun a hS => ?_)
  replace hS : Sl 83 a [(0, .agg #[.int .i64 p0.Parent, .slice A0_0 p0.Rails.a0.length cap0_0, .slice A0_1 p0.Rails.a1.length cap0_1, .slice A0_2 p0.Rails.a2.length cap0_2, .slice A0_3 p0.Rails.a3.length cap0_3, .int .i64 p0.Deepest.a0, .int .i64 p0.Deepest.a1, .int .i64 p0.Deepest.a2, .int .i64 p0.Deepest.a3, .int .i64 p0.Deepest.a4, .int .i64 p0.Deepest.a5, .int .i64 p0.WakeDevice, .int .i64 p0.WakeSystem]), (1, .int .i64 p1), (2, .int .i64 p2)] := hS
  have hF : Fr (fun q => N ≤ q) w g w g := Fr.refl _ _ _
  refine c_region (fun K hK => ?_)
  refine st_eff hS rfl rfl rfl (e_box (cs := [.int .i64 p0.Parent, .slice A0_0 p0.Rails.a0.length cap0_0, .slice A0_1 p0.Rails.a1.length cap0_1, .slice A0_2 p0.Rails.a2.length cap0_2, .slice A0_3 p0.Rails.a3.length cap0_3, .int .i64 p0.Deepest.a0, .int .i64 p0.Deepest.a1, .int .i64 p0.Deepest.a2, .int .i64 p0.Deepest.a3, .int .i64 p0.Deepest.a4, .int .i64 p0.Deepest.a5, .int .i64 p0.WakeDevice, .int .i64 p0.WakeSystem]) (N + 0) g hS rfl rfl rfl) ?_
  rintro _ a4 w5 g5 ⟨⟨b1, rfl, h2⟩, F5⟩ hS4
  replace hp0_0 := RdS.fr hp0_0 F5 (by decide) (fun _ _ h => h)
  replace hp0_1 := RdS.fr hp0_1 F5 (by decide) (fun _ _ h => h)
  replace hp0_2 := RdS.fr hp0_2 F5 (by decide) (fun _ _ h => h)
  replace hp0_3 := RdS.fr hp0_3 F5 (by decide) (fun _ _ h => h)
  replace hF := hF.trans F5 (fun _ h => h.elim)
  refine st_val hS4 rfl rfl rfl (r_assign hS4 rfl rfl) fun a6 hS6 => wpList_nil (hK _ _ ?_)
  replace hS : Sl 83 _ [(1, .int .i64 p1), (2, .int .i64 p2), (3, .pointer (some ⟨b1, 0, none⟩))] := hS6.re ⟨rfl, rfl, rfl, trivial⟩
  clear hK K
  try clear hS4 hS6
  obtain ⟨a, ha⟩ : ∃ a', a' = a6 := ⟨_, rfl⟩
  rw [← ha] at hS ⊢; clear ha
  refine wp_seq ?_
  obtain ⟨r13, hr14, H⟩ := bind_el H
  refine c_region (fun K hK => ?_)
  refine st_val hS rfl rfl rfl (r_loadN (n := 13) (cs := [.int .i64 p0.Parent, .slice A0_0 p0.Rails.a0.length cap0_0, .slice A0_1 p0.Rails.a1.length cap0_1, .slice A0_2 p0.Rails.a2.length cap0_2, .slice A0_3 p0.Rails.a3.length cap0_3, .int .i64 p0.Deepest.a0, .int .i64 p0.Deepest.a1, .int .i64 p0.Deepest.a2, .int .i64 p0.Deepest.a3, .int .i64 p0.Deepest.a4, .int .i64 p0.Deepest.a5, .int .i64 p0.WakeDevice, .int .i64 p0.WakeSystem]) hS rfl rfl (by kernel_rfl) rfl (Bx.cells_off h2 0 13)) fun a7 hS7 => ?_
  refine st_eff hS7 rfl rfl rfl (e_litD (D := C0) (e := 33) (parts := [(0, .agg #[.int .i64 p0.Parent, .slice A0_0 p0.Rails.a0.length cap0_0, .slice A0_1 p0.Rails.a1.length cap0_1, .slice A0_2 p0.Rails.a2.length cap0_2, .slice A0_3 p0.Rails.a3.length cap0_3, .int .i64 p0.Deepest.a0, .int .i64 p0.Deepest.a1, .int .i64 p0.Deepest.a2, .int .i64 p0.Deepest.a3, .int .i64 p0.Deepest.a4, .int .i64 p0.Deepest.a5, .int .i64 p0.WakeDevice, .int .i64 p0.WakeSystem])]) (cs := [.int .i64 p0.Parent, .slice A0_0 p0.Rails.a0.length cap0_0, .slice A0_1 p0.Rails.a1.length cap0_1, .slice A0_2 p0.Rails.a2.length cap0_2, .slice A0_3 p0.Rails.a3.length cap0_3, .int .i64 p0.Deepest.a0, .int .i64 p0.Deepest.a1, .int .i64 p0.Deepest.a2, .int .i64 p0.Deepest.a3, .int .i64 p0.Deepest.a4, .int .i64 p0.Deepest.a5, .int .i64 p0.WakeDevice, .int .i64 p0.WakeSystem]) kd_api_PowerDevice [p0] (N + 2) g5 hS7 rfl rfl (fun _ => by kernel_rfl) rfl (by decide) (Rows.cons (cs := [.int .i64 p0.Parent, .slice A0_0 p0.Rails.a0.length cap0_0, .slice A0_1 p0.Rails.a1.length cap0_1, .slice A0_2 p0.Rails.a2.length cap0_2, .slice A0_3 p0.Rails.a3.length cap0_3, .int .i64 p0.Deepest.a0, .int .i64 p0.Deepest.a1, .int .i64 p0.Deepest.a2, .int .i64 p0.Deepest.a3, .int .i64 p0.Deepest.a4, .int .i64 p0.Deepest.a5, .int .i64 p0.WakeDevice, .int .i64 p0.WakeSystem]) ⟨A0_0, cap0_0, A0_1, cap0_1, A0_2, cap0_2, A0_3, cap0_3, rfl, hp0_0, hp0_1, hp0_2, hp0_3⟩ Rows.nil)) ?_
  rintro _ a11 w12 g12 ⟨⟨A8, rfl, h9⟩, F12⟩ hS11
  replace h2 := h2.fr F12 (fun h => h)
  replace hp0_0 := RdS.fr hp0_0 F12 (by decide) (fun _ _ h => h)
  replace hp0_1 := RdS.fr hp0_1 F12 (by decide) (fun _ _ h => h)
  replace hp0_2 := RdS.fr hp0_2 F12 (by decide) (fun _ _ h => h)
  replace hp0_3 := RdS.fr hp0_3 F12 (by decide) (fun _ _ h => h)
  replace hF := hF.trans F12 (fun _ h => h.elim)
  refine st_enter hS11 rfl rfl rfl (r_call hS11 rfl rfl (by kernel_rfl)) (law27_large.calls (C0 := (fun q => q = N + 2 ∨ C0 q)) (p0 := [p0]) (g := g12) (N + 20)  (OwD.rd h9) (fun q (hq : q = N + 2 ∨ C0 q) => by rcases hq with hq | hq; all_goals first | (omega; done) | (have := hC0 q hq; omega; done)) hr14) ?_
  rintro _ a15 w16 ⟨g16, rfl, F16⟩ hS15
  replace h9 := OwD.fr h9 F16 (fun (hm : N + 20 ≤ N + 2) => by omega) (fun q (hq : C0 q) (hm : N + 20 ≤ q) => by have := hC0 q hq; omega)
  replace h2 := h2.fr F16 (fun (hm : N + 20 ≤ N + 0) => by omega)
  replace hp0_0 := RdS.fr hp0_0 F16 (by decide) (fun q (hq : C0 q) (hm : N + 20 ≤ q) => by have := hC0 q hq; omega)
  replace hp0_1 := RdS.fr hp0_1 F16 (by decide) (fun q (hq : C0 q) (hm : N + 20 ≤ q) => by have := hC0 q hq; omega)
  replace hp0_2 := RdS.fr hp0_2 F16 (by decide) (fun q (hq : C0 q) (hm : N + 20 ≤ q) => by have := hC0 q hq; omega)
  replace hp0_3 := RdS.fr hp0_3 F16 (by decide) (fun q (hq : C0 q) (hm : N + 20 ≤ q) => by have := hC0 q hq; omega)
  replace hF := hF.trans F16 (fun c' (hm : N + 20 ≤ c') => by show N ≤ c'; omega)
  refine wpList_nil (hK _ _ ?_)
  replace hS : Sl 83 _ [(1, .int .i64 p1), (2, .int .i64 p2), (3, .pointer (some ⟨b1, 0, none⟩)), (20, .bool r13)] := hS15.re ⟨rfl, rfl, rfl, rfl, trivial⟩
  clear hK K
  try clear hS7 hS11 hS15
  obtain ⟨a, ha⟩ : ∃ a', a' = a15 := ⟨_, rfl⟩
  rw [← ha] at hS ⊢; clear ha
  refine c_cond hS rfl (fun hb17 => ?_) (fun hb17 => ?_)
  · replace H := ite_t hb17 H
    obtain ⟨r18, hr19, H⟩ := bind_el H
    refine c_region (fun K hK => ?_)
    refine st_enter hS rfl rfl rfl (r_call hS rfl rfl (by kernel_rfl)) (law27_awake.calls (g := g16) (N + 20)   hr19) ?_
    rintro _ a20 w21 ⟨g21, rfl, F21⟩ hS20
    replace h2 := h2.fr F21 (fun (hm : N + 20 ≤ N + 0) => by omega)
    replace hp0_0 := RdS.fr hp0_0 F21 (by decide) (fun q (hq : C0 q) (hm : N + 20 ≤ q) => by have := hC0 q hq; omega)
    replace hp0_1 := RdS.fr hp0_1 F21 (by decide) (fun q (hq : C0 q) (hm : N + 20 ≤ q) => by have := hC0 q hq; omega)
    replace hp0_2 := RdS.fr hp0_2 F21 (by decide) (fun q (hq : C0 q) (hm : N + 20 ≤ q) => by have := hC0 q hq; omega)
    replace hp0_3 := RdS.fr hp0_3 F21 (by decide) (fun q (hq : C0 q) (hm : N + 20 ≤ q) => by have := hC0 q hq; omega)
    replace hF := hF.trans F21 (fun c' (hm : N + 20 ≤ c') => by show N ≤ c'; omega)
    refine st_val hS20 rfl rfl rfl (r_assign hS20 rfl rfl) fun a22 hS22 => wpList_nil (hK _ _ ?_)
    replace hS : Sl 83 _ [(6, .bool r18)] := hS22.re ⟨rfl, trivial⟩
    clear hK K
    try clear hS20 hS22
    obtain ⟨a, ha⟩ : ∃ a', a' = a22 := ⟨_, rfl⟩
    rw [← ha] at hS ⊢; clear ha
    refine wp_ret ?_
    have e := Option.some.inj H
    subst e
    repeat (with_reducible first | refine then_ret ?_ | refine inBlock_ret ?_)
    exact c_ret1 hS Try.results6 rfl ⟨_, rfl, g21, rfl, hF⟩
  · replace H := ite_f hb17 H
    refine wp_skip ?_
    change Code.wp _ _ _ _ _
    obtain ⟨r29, hr30, H⟩ := bind_el H
    refine c_region (fun K hK => ?_)
    refine st_val hS rfl rfl rfl (r_loadN (n := 13) (cs := [.int .i64 p0.Parent, .slice A0_0 p0.Rails.a0.length cap0_0, .slice A0_1 p0.Rails.a1.length cap0_1, .slice A0_2 p0.Rails.a2.length cap0_2, .slice A0_3 p0.Rails.a3.length cap0_3, .int .i64 p0.Deepest.a0, .int .i64 p0.Deepest.a1, .int .i64 p0.Deepest.a2, .int .i64 p0.Deepest.a3, .int .i64 p0.Deepest.a4, .int .i64 p0.Deepest.a5, .int .i64 p0.WakeDevice, .int .i64 p0.WakeSystem]) hS rfl rfl (by kernel_rfl) rfl (Bx.cells_off h2 0 13)) fun a23 hS23 => ?_
    refine st_eff hS23 rfl rfl rfl (e_litD (D := C0) (e := 33) (parts := [(0, .agg #[.int .i64 p0.Parent, .slice A0_0 p0.Rails.a0.length cap0_0, .slice A0_1 p0.Rails.a1.length cap0_1, .slice A0_2 p0.Rails.a2.length cap0_2, .slice A0_3 p0.Rails.a3.length cap0_3, .int .i64 p0.Deepest.a0, .int .i64 p0.Deepest.a1, .int .i64 p0.Deepest.a2, .int .i64 p0.Deepest.a3, .int .i64 p0.Deepest.a4, .int .i64 p0.Deepest.a5, .int .i64 p0.WakeDevice, .int .i64 p0.WakeSystem])]) (cs := [.int .i64 p0.Parent, .slice A0_0 p0.Rails.a0.length cap0_0, .slice A0_1 p0.Rails.a1.length cap0_1, .slice A0_2 p0.Rails.a2.length cap0_2, .slice A0_3 p0.Rails.a3.length cap0_3, .int .i64 p0.Deepest.a0, .int .i64 p0.Deepest.a1, .int .i64 p0.Deepest.a2, .int .i64 p0.Deepest.a3, .int .i64 p0.Deepest.a4, .int .i64 p0.Deepest.a5, .int .i64 p0.WakeDevice, .int .i64 p0.WakeSystem]) kd_api_PowerDevice [p0] (N + 4) g16 hS23 rfl rfl (fun _ => by kernel_rfl) rfl (by decide) (Rows.cons (cs := [.int .i64 p0.Parent, .slice A0_0 p0.Rails.a0.length cap0_0, .slice A0_1 p0.Rails.a1.length cap0_1, .slice A0_2 p0.Rails.a2.length cap0_2, .slice A0_3 p0.Rails.a3.length cap0_3, .int .i64 p0.Deepest.a0, .int .i64 p0.Deepest.a1, .int .i64 p0.Deepest.a2, .int .i64 p0.Deepest.a3, .int .i64 p0.Deepest.a4, .int .i64 p0.Deepest.a5, .int .i64 p0.WakeDevice, .int .i64 p0.WakeSystem]) ⟨A0_0, cap0_0, A0_1, cap0_1, A0_2, cap0_2, A0_3, cap0_3, rfl, hp0_0, hp0_1, hp0_2, hp0_3⟩ Rows.nil)) ?_
    rintro _ a27 w28 g28 ⟨⟨A24, rfl, h25⟩, F28⟩ hS27
    replace h2 := h2.fr F28 (fun h => h)
    replace hp0_0 := RdS.fr hp0_0 F28 (by decide) (fun _ _ h => h)
    replace hp0_1 := RdS.fr hp0_1 F28 (by decide) (fun _ _ h => h)
    replace hp0_2 := RdS.fr hp0_2 F28 (by decide) (fun _ _ h => h)
    replace hp0_3 := RdS.fr hp0_3 F28 (by decide) (fun _ _ h => h)
    replace hF := hF.trans F28 (fun _ h => h.elim)
    refine st_enter hS27 rfl rfl rfl (r_call hS27 rfl rfl (by kernel_rfl)) (law27_Some.calls (C0 := (fun q => q = N + 4 ∨ C0 q)) (p0 := [p0]) (p1 := 5) (g := g28) (N + 20) (N + 6) (OwD.rd h25) (fun q (hq : q = N + 4 ∨ C0 q) => by rcases hq with hq | hq; all_goals first | (omega; done) | (have := hC0 q hq; omega; done)) (by omega) hr30) ?_
    rintro _ a35 w36 ⟨g36, A31, cap32, rfl, h33, F36⟩ hS35
    replace h25 := OwD.fr h25 F36 (fun (hm : (N + 6 ≤ N + 4 ∧ N + 4 < N + 6 + 2) ∨ N + 20 ≤ N + 4) => by omega) (fun q (hq : C0 q) (hm : (N + 6 ≤ q ∧ q < N + 6 + 2) ∨ N + 20 ≤ q) => by have := hC0 q hq; omega)
    replace h2 := h2.fr F36 (fun (hm : (N + 6 ≤ N + 0 ∧ N + 0 < N + 6 + 2) ∨ N + 20 ≤ N + 0) => by omega)
    replace hp0_0 := RdS.fr hp0_0 F36 (by decide) (fun q (hq : C0 q) (hm : (N + 6 ≤ q ∧ q < N + 6 + 2) ∨ N + 20 ≤ q) => by have := hC0 q hq; omega)
    replace hp0_1 := RdS.fr hp0_1 F36 (by decide) (fun q (hq : C0 q) (hm : (N + 6 ≤ q ∧ q < N + 6 + 2) ∨ N + 20 ≤ q) => by have := hC0 q hq; omega)
    replace hp0_2 := RdS.fr hp0_2 F36 (by decide) (fun q (hq : C0 q) (hm : (N + 6 ≤ q ∧ q < N + 6 + 2) ∨ N + 20 ≤ q) => by have := hC0 q hq; omega)
    replace hp0_3 := RdS.fr hp0_3 F36 (by decide) (fun q (hq : C0 q) (hm : (N + 6 ≤ q ∧ q < N + 6 + 2) ∨ N + 20 ≤ q) => by have := hC0 q hq; omega)
    replace hF := hF.trans F36 (fun c' (hm : (N + 6 ≤ c' ∧ c' < N + 6 + 2) ∨ N + 20 ≤ c') => by show N ≤ c'; omega)
    refine st_val hS35 rfl rfl rfl (r_assign hS35 rfl rfl) fun a37 hS37 => wpList_nil (hK _ _ ?_)
    replace hS : Sl 83 _ [(1, .int .i64 p1), (2, .int .i64 p2), (3, .pointer (some ⟨b1, 0, none⟩)), (7, .slice A31 r29.length cap32)] := hS37.re ⟨rfl, rfl, rfl, rfl, trivial⟩
    clear hK K
    try clear hS23 hS27 hS35 hS37
    obtain ⟨a, ha⟩ : ∃ a', a' = a37 := ⟨_, rfl⟩
    rw [← ha] at hS ⊢; clear ha
    obtain ⟨o40, H, Hl41⟩ := bind_el H
    refine c_cut (fun a w38 => ∃ (g38 : Nat → Nat), o40 = .nxt () ∧ Sl 83 a [] ∧ Fr (fun q => N ≤ q) w g w38 g38) ?_ ?_
    · obtain ⟨x45, hx46, H⟩ := bind_el H
      refine c_draw (fun K hK => d_start (fun q => False) g36 [] 6 #[false, false, false, false, false, false] (by kernel_rfl) rfl rfl (fun w42 hw42 => ?_))
      have F42 : Fr (fun _ => False) w36 g36 w42 g36 := by rw [hw42]; exact Fr.drew _ _ _
      replace h2 := h2.fr F42 (fun h => h)
      replace h33 := OwS.fr h33 F42 (fun _ _ h => h)
      replace hp0_0 := RdS.fr hp0_0 F42 (by decide) (fun _ _ h => h)
      replace hp0_1 := RdS.fr hp0_1 F42 (by decide) (fun _ _ h => h)
      replace hp0_2 := RdS.fr hp0_2 F42 (by decide) (fun _ _ h => h)
      replace hp0_3 := RdS.fr hp0_3 F42 (by decide) (fun _ _ h => h)
      replace hF := hF.trans F42 (fun _ h => h.elim)
      have hC : Fr (fun q => False) w42 g36 w42 g36 := Fr.refl _ _ _
      refine d_take hS 0 #[true, false, false, false, false, false] rfl rfl rfl rfl (by kernel_rfl) (fun _ _ _ h => h) ⟨_, hC⟩ (fun w' g' Fz => (r_loadN (n := 13) (cs := [.int .i64 p0.Parent, .slice A0_0 p0.Rails.a0.length cap0_0, .slice A0_1 p0.Rails.a1.length cap0_1, .slice A0_2 p0.Rails.a2.length cap0_2, .slice A0_3 p0.Rails.a3.length cap0_3, .int .i64 p0.Deepest.a0, .int .i64 p0.Deepest.a1, .int .i64 p0.Deepest.a2, .int .i64 p0.Deepest.a3, .int .i64 p0.Deepest.a4, .int .i64 p0.Deepest.a5, .int .i64 p0.WakeDevice, .int .i64 p0.WakeSystem]) hS rfl rfl (by kernel_rfl) rfl (Bx.cells_off (h2.fr Fz (fun h => h)) 0 13))) fun a43 hS43 => d_pure hS43 1 #[true, true, false, false, false, false] rfl rfl rfl rfl (by kernel_rfl) (fun _ _ _ h => h) (fun _ => (r_move hS43 rfl rfl)) fun a44 hS44 => ?_
      obtain ⟨_, ⟨A48, cap49, A52, cap53, A56, cap57, A60, cap61, rfl, h50, h54, h58, h62⟩, hel47⟩ := El.of (OwD.rdx h33) hx46 (by decide)
      replace hel47 : El w42 g36 (fun q => q = N + 6) A31 ((0 : Int).toNat * 13) [.int .i64 x45.Parent, .slice A48 x45.Rails.a0.length cap49, .slice A52 x45.Rails.a1.length cap53, .slice A56 x45.Rails.a2.length cap57, .slice A60 x45.Rails.a3.length cap61, .int .i64 x45.Deepest.a0, .int .i64 x45.Deepest.a1, .int .i64 x45.Deepest.a2, .int .i64 x45.Deepest.a3, .int .i64 x45.Deepest.a4, .int .i64 x45.Deepest.a5, .int .i64 x45.WakeDevice, .int .i64 x45.WakeSystem] := hel47
      refine d_pure hS44 2 #[true, true, true, false, false, false] rfl rfl rfl rfl (by kernel_rfl) (fun _ _ _ h => h) (fun _ => (r_index (e := 33) (sz := 13) (by_ := 168) hS44 rfl rfl rfl (by kernel_rfl) (RdS.some_ (OwS.rd h33) hx46) (idx_lo hx46) (idx_hi hx46))) fun a65 hS65 => d_take hS65 3 #[true, true, true, true, false, false] rfl rfl rfl rfl (by kernel_rfl) (fun _ _ _ h => h) ⟨_, hC⟩ (fun w' g' Fz => (r_loadN (n := 13) (cs := [.int .i64 x45.Parent, .slice A48 x45.Rails.a0.length cap49, .slice A52 x45.Rails.a1.length cap53, .slice A56 x45.Rails.a2.length cap57, .slice A60 x45.Rails.a3.length cap61, .int .i64 x45.Deepest.a0, .int .i64 x45.Deepest.a1, .int .i64 x45.Deepest.a2, .int .i64 x45.Deepest.a3, .int .i64 x45.Deepest.a4, .int .i64 x45.Deepest.a5, .int .i64 x45.WakeDevice, .int .i64 x45.WakeSystem]) hS65 rfl rfl (by kernel_rfl) rfl (El.cells_off (hel47.fr Fz (fun _ _ h => h)) 0 13))) fun a66 hS66 => d_pure hS66 4 #[true, true, true, true, true, false] rfl rfl rfl rfl (by kernel_rfl) (fun _ _ _ h => h) (fun _ => (r_build (parts := [(0, .agg #[.int .i64 p0.Parent, .slice A0_0 p0.Rails.a0.length cap0_0, .slice A0_1 p0.Rails.a1.length cap0_1, .slice A0_2 p0.Rails.a2.length cap0_2, .slice A0_3 p0.Rails.a3.length cap0_3, .int .i64 p0.Deepest.a0, .int .i64 p0.Deepest.a1, .int .i64 p0.Deepest.a2, .int .i64 p0.Deepest.a3, .int .i64 p0.Deepest.a4, .int .i64 p0.Deepest.a5, .int .i64 p0.WakeDevice, .int .i64 p0.WakeSystem]), (1, .agg #[.int .i64 x45.Parent, .slice A48 x45.Rails.a0.length cap49, .slice A52 x45.Rails.a1.length cap53, .slice A56 x45.Rails.a2.length cap57, .slice A60 x45.Rails.a3.length cap61, .int .i64 x45.Deepest.a0, .int .i64 x45.Deepest.a1, .int .i64 x45.Deepest.a2, .int .i64 x45.Deepest.a3, .int .i64 x45.Deepest.a4, .int .i64 x45.Deepest.a5, .int .i64 x45.WakeDevice, .int .i64 x45.WakeSystem])]) (u := .agg #[.int .i64 p0.Parent, .slice A0_0 p0.Rails.a0.length cap0_0, .slice A0_1 p0.Rails.a1.length cap0_1, .slice A0_2 p0.Rails.a2.length cap0_2, .slice A0_3 p0.Rails.a3.length cap0_3, .int .i64 p0.Deepest.a0, .int .i64 p0.Deepest.a1, .int .i64 p0.Deepest.a2, .int .i64 p0.Deepest.a3, .int .i64 p0.Deepest.a4, .int .i64 p0.Deepest.a5, .int .i64 p0.WakeDevice, .int .i64 p0.WakeSystem, .int .i64 x45.Parent, .slice A48 x45.Rails.a0.length cap49, .slice A52 x45.Rails.a1.length cap53, .slice A56 x45.Rails.a2.length cap57, .slice A60 x45.Rails.a3.length cap61, .int .i64 x45.Deepest.a0, .int .i64 x45.Deepest.a1, .int .i64 x45.Deepest.a2, .int .i64 x45.Deepest.a3, .int .i64 x45.Deepest.a4, .int .i64 x45.Deepest.a5, .int .i64 x45.WakeDevice, .int .i64 x45.WakeSystem]) hS66 rfl rfl (fun _ => by kernel_rfl))) fun a67 hS67 => d_pure hS67 5 #[true, true, true, true, true, true] rfl rfl rfl rfl (by kernel_rfl) (fun _ _ _ h => h) (fun _ => (r_move hS67 rfl rfl)) fun a68 hS68 => d_done (by kernel_rfl) (hK _ _ ?_)
      replace hS : Sl 83 _ [(1, .int .i64 p1), (2, .int .i64 p2), (29, .agg #[.int .i64 p0.Parent, .slice A0_0 p0.Rails.a0.length cap0_0, .slice A0_1 p0.Rails.a1.length cap0_1, .slice A0_2 p0.Rails.a2.length cap0_2, .slice A0_3 p0.Rails.a3.length cap0_3, .int .i64 p0.Deepest.a0, .int .i64 p0.Deepest.a1, .int .i64 p0.Deepest.a2, .int .i64 p0.Deepest.a3, .int .i64 p0.Deepest.a4, .int .i64 p0.Deepest.a5, .int .i64 p0.WakeDevice, .int .i64 p0.WakeSystem, .int .i64 x45.Parent, .slice A48 x45.Rails.a0.length cap49, .slice A52 x45.Rails.a1.length cap53, .slice A56 x45.Rails.a2.length cap57, .slice A60 x45.Rails.a3.length cap61, .int .i64 x45.Deepest.a0, .int .i64 x45.Deepest.a1, .int .i64 x45.Deepest.a2, .int .i64 x45.Deepest.a3, .int .i64 x45.Deepest.a4, .int .i64 x45.Deepest.a5, .int .i64 x45.WakeDevice, .int .i64 x45.WakeSystem]), (30, .int .i64 0)] := hS68.re ⟨rfl, rfl, rfl, rfl, trivial⟩
      clear hK K hC
      try clear hS43 hS44 hS65 hS66 hS67 hS68
      obtain ⟨a, ha⟩ : ∃ a', a' = a68 := ⟨_, rfl⟩
      rw [← ha] at hS ⊢; clear ha
      refine wp_block ?_
      refine wp_loop_ghost (fun kq => fun a w69 => ∃ (m0_0 : Int), ∃ (g69 : Nat → Nat), law27_DeviceChangeAgrees.l0 p0 p1 p2 x45 kq m0_0 = some o40 ∧ Sl 83 a [(1, .int .i64 p1), (2, .int .i64 p2), (29, .agg #[.int .i64 p0.Parent, .slice A0_0 p0.Rails.a0.length cap0_0, .slice A0_1 p0.Rails.a1.length cap0_1, .slice A0_2 p0.Rails.a2.length cap0_2, .slice A0_3 p0.Rails.a3.length cap0_3, .int .i64 p0.Deepest.a0, .int .i64 p0.Deepest.a1, .int .i64 p0.Deepest.a2, .int .i64 p0.Deepest.a3, .int .i64 p0.Deepest.a4, .int .i64 p0.Deepest.a5, .int .i64 p0.WakeDevice, .int .i64 p0.WakeSystem, .int .i64 x45.Parent, .slice A48 x45.Rails.a0.length cap49, .slice A52 x45.Rails.a1.length cap53, .slice A56 x45.Rails.a2.length cap57, .slice A60 x45.Rails.a3.length cap61, .int .i64 x45.Deepest.a0, .int .i64 x45.Deepest.a1, .int .i64 x45.Deepest.a2, .int .i64 x45.Deepest.a3, .int .i64 x45.Deepest.a4, .int .i64 x45.Deepest.a5, .int .i64 x45.WakeDevice, .int .i64 x45.WakeSystem]), (30, .int .i64 m0_0)] ∧ RdS (kint .i64) w69 g69 (fun q => q = N + 6 + 1) A48 cap49 x45.Rails.a0 ∧ RdS (kint .i64) w69 g69 (fun q => q = N + 6 + 1) A52 cap53 x45.Rails.a1 ∧ RdS (kint .i64) w69 g69 (fun q => q = N + 6 + 1) A56 cap57 x45.Rails.a2 ∧ RdS (kint .i64) w69 g69 (fun q => q = N + 6 + 1) A60 cap61 x45.Rails.a3 ∧ RdS (kint .i64) w69 g69 C0 A0_0 cap0_0 p0.Rails.a0 ∧ RdS (kint .i64) w69 g69 C0 A0_1 cap0_1 p0.Rails.a1 ∧ RdS (kint .i64) w69 g69 C0 A0_2 cap0_2 p0.Rails.a2 ∧ RdS (kint .i64) w69 g69 C0 A0_3 cap0_3 p0.Rails.a3 ∧ Fr (fun q => N ≤ q) w g w69 g69) FUEL ?_ ?_
      · exact ⟨0, g36, H, hS.re ⟨rfl, rfl, rfl, rfl, trivial⟩, h50, h54, h58, h62, hp0_0, hp0_1, hp0_2, hp0_3, hF⟩
      · clear H
        clear hp0_0 hp0_1 hp0_2 hp0_3 h50 h54 h58 h62 hF
        clear hS
        rintro k70 a w69 ⟨m0_0, g69, hpre0, hS, h50, h54, h58, h62, hp0_0, hp0_1, hp0_2, hp0_3, hF⟩
        have H := hpre0
        clear hpre0
        cases k70 with
        | zero => exact absurd H (by simp [law27_DeviceChangeAgrees.l0])
        | succ k70 =>
          rw [law27_DeviceChangeAgrees.l0] at H
          refine c_pure [(1, .int .i64 p1), (2, .int .i64 p2), (29, .agg #[.int .i64 p0.Parent, .slice A0_0 p0.Rails.a0.length cap0_0, .slice A0_1 p0.Rails.a1.length cap0_1, .slice A0_2 p0.Rails.a2.length cap0_2, .slice A0_3 p0.Rails.a3.length cap0_3, .int .i64 p0.Deepest.a0, .int .i64 p0.Deepest.a1, .int .i64 p0.Deepest.a2, .int .i64 p0.Deepest.a3, .int .i64 p0.Deepest.a4, .int .i64 p0.Deepest.a5, .int .i64 p0.WakeDevice, .int .i64 p0.WakeSystem, .int .i64 x45.Parent, .slice A48 x45.Rails.a0.length cap49, .slice A52 x45.Rails.a1.length cap53, .slice A56 x45.Rails.a2.length cap57, .slice A60 x45.Rails.a3.length cap61, .int .i64 x45.Deepest.a0, .int .i64 x45.Deepest.a1, .int .i64 x45.Deepest.a2, .int .i64 x45.Deepest.a3, .int .i64 x45.Deepest.a4, .int .i64 x45.Deepest.a5, .int .i64 x45.WakeDevice, .int .i64 x45.WakeSystem]), (30, .int .i64 m0_0), (31, .bool (decide (m0_0 < 2)))] (fun R hR => st_val hS rfl rfl rfl (r_bin hS rfl rfl rfl b_lss) fun a71 hS71 => wpList_nil (hR _ (hS71.re ⟨rfl, rfl, rfl, rfl, rfl, trivial⟩))) ?_
          clear hS
          clear a
          intro a hS
          refine c_if hS rfl (fun hb72 => ?_) (fun hb72 => ?_)
          · replace H := ite_t hb72 H
            refine wp_skip ?_
            change Code.wp _ _ _ _ _
            obtain ⟨o75, H, Hl76⟩ := bind_el H
            refine c_cut (fun a w73 => ∃ (g73 : Nat → Nat), o75 = .nxt () ∧ Sl 83 a [(1, .int .i64 p1), (2, .int .i64 p2), (29, .agg #[.int .i64 p0.Parent, .slice A0_0 p0.Rails.a0.length cap0_0, .slice A0_1 p0.Rails.a1.length cap0_1, .slice A0_2 p0.Rails.a2.length cap0_2, .slice A0_3 p0.Rails.a3.length cap0_3, .int .i64 p0.Deepest.a0, .int .i64 p0.Deepest.a1, .int .i64 p0.Deepest.a2, .int .i64 p0.Deepest.a3, .int .i64 p0.Deepest.a4, .int .i64 p0.Deepest.a5, .int .i64 p0.WakeDevice, .int .i64 p0.WakeSystem, .int .i64 x45.Parent, .slice A48 x45.Rails.a0.length cap49, .slice A52 x45.Rails.a1.length cap53, .slice A56 x45.Rails.a2.length cap57, .slice A60 x45.Rails.a3.length cap61, .int .i64 x45.Deepest.a0, .int .i64 x45.Deepest.a1, .int .i64 x45.Deepest.a2, .int .i64 x45.Deepest.a3, .int .i64 x45.Deepest.a4, .int .i64 x45.Deepest.a5, .int .i64 x45.WakeDevice, .int .i64 x45.WakeSystem]), (30, .int .i64 m0_0)] ∧ RdS (kint .i64) w73 g73 (fun q => q = N + 6 + 1) A48 cap49 x45.Rails.a0 ∧ RdS (kint .i64) w73 g73 (fun q => q = N + 6 + 1) A52 cap53 x45.Rails.a1 ∧ RdS (kint .i64) w73 g73 (fun q => q = N + 6 + 1) A56 cap57 x45.Rails.a2 ∧ RdS (kint .i64) w73 g73 (fun q => q = N + 6 + 1) A60 cap61 x45.Rails.a3 ∧ RdS (kint .i64) w73 g73 C0 A0_0 cap0_0 p0.Rails.a0 ∧ RdS (kint .i64) w73 g73 C0 A0_1 cap0_1 p0.Rails.a1 ∧ RdS (kint .i64) w73 g73 C0 A0_2 cap0_2 p0.Rails.a2 ∧ RdS (kint .i64) w73 g73 C0 A0_3 cap0_3 p0.Rails.a3 ∧ Fr (fun q => N ≤ q) w g w73 g73) ?_ ?_
            · refine wp_block ?_
              obtain ⟨x77, hx78, H⟩ := bind_el H
              refine c_region (fun K hK => ?_)
              obtain ⟨A80, cap81, A84, cap85, A88, cap89, A92, cap93, he79, h82, h86, h90, h94⟩ : ∃ (A80 : Option Addr) (cap81 : Nat) (A84 : Option Addr) (cap85 : Nat) (A88 : Option Addr) (cap89 : Nat) (A92 : Option Addr) (cap93 : Nat), (([.int .i64 p0.Parent, .slice A0_0 p0.Rails.a0.length cap0_0, .slice A0_1 p0.Rails.a1.length cap0_1, .slice A0_2 p0.Rails.a2.length cap0_2, .slice A0_3 p0.Rails.a3.length cap0_3, .int .i64 p0.Deepest.a0, .int .i64 p0.Deepest.a1, .int .i64 p0.Deepest.a2, .int .i64 p0.Deepest.a3, .int .i64 p0.Deepest.a4, .int .i64 p0.Deepest.a5, .int .i64 p0.WakeDevice, .int .i64 p0.WakeSystem, .int .i64 x45.Parent, .slice A48 x45.Rails.a0.length cap49, .slice A52 x45.Rails.a1.length cap53, .slice A56 x45.Rails.a2.length cap57, .slice A60 x45.Rails.a3.length cap61, .int .i64 x45.Deepest.a0, .int .i64 x45.Deepest.a1, .int .i64 x45.Deepest.a2, .int .i64 x45.Deepest.a3, .int .i64 x45.Deepest.a4, .int .i64 x45.Deepest.a5, .int .i64 x45.WakeDevice, .int .i64 x45.WakeSystem] : List Value).drop (m0_0.toNat * 13)).take 13 = [.int .i64 x77.Parent, .slice A80 x77.Rails.a0.length cap81, .slice A84 x77.Rails.a1.length cap85, .slice A88 x77.Rails.a2.length cap89, .slice A92 x77.Rails.a3.length cap93, .int .i64 x77.Deepest.a0, .int .i64 x77.Deepest.a1, .int .i64 x77.Deepest.a2, .int .i64 x77.Deepest.a3, .int .i64 x77.Deepest.a4, .int .i64 x77.Deepest.a5, .int .i64 x77.WakeDevice, .int .i64 x77.WakeSystem] ∧ RdS (kint .i64) w69 g69 (fun q => C0 q ∨ q = N + 6 + 1) A80 cap81 x77.Rails.a0 ∧ RdS (kint .i64) w69 g69 (fun q => C0 q ∨ q = N + 6 + 1) A84 cap85 x77.Rails.a1 ∧ RdS (kint .i64) w69 g69 (fun q => C0 q ∨ q = N + 6 + 1) A88 cap89 x77.Rails.a2 ∧ RdS (kint .i64) w69 g69 (fun q => C0 q ∨ q = N + 6 + 1) A92 cap93 x77.Rails.a3 := by
                rcases Ar2.cases hx78 with ⟨e, e2⟩ | ⟨e, e2⟩
                · subst e2; exact ⟨A0_0, cap0_0, A0_1, cap0_1, A0_2, cap0_2, A0_3, cap0_3, (by rw [e] <;> rfl), (RdS.weak hp0_0 (fun _ h => (Or.inl h))), (RdS.weak hp0_1 (fun _ h => (Or.inl h))), (RdS.weak hp0_2 (fun _ h => (Or.inl h))), (RdS.weak hp0_3 (fun _ h => (Or.inl h)))⟩
                · subst e2; exact ⟨A48, cap49, A52, cap53, A56, cap57, A60, cap61, (by rw [e] <;> rfl), (RdS.weak h50 (fun _ h => (Or.inr h))), (RdS.weak h54 (fun _ h => (Or.inr h))), (RdS.weak h58 (fun _ h => (Or.inr h))), (RdS.weak h62 (fun _ h => (Or.inr h)))⟩
              refine st_val hS rfl rfl rfl (r_atN (cs := [.int .i64 p0.Parent, .slice A0_0 p0.Rails.a0.length cap0_0, .slice A0_1 p0.Rails.a1.length cap0_1, .slice A0_2 p0.Rails.a2.length cap0_2, .slice A0_3 p0.Rails.a3.length cap0_3, .int .i64 p0.Deepest.a0, .int .i64 p0.Deepest.a1, .int .i64 p0.Deepest.a2, .int .i64 p0.Deepest.a3, .int .i64 p0.Deepest.a4, .int .i64 p0.Deepest.a5, .int .i64 p0.WakeDevice, .int .i64 p0.WakeSystem, .int .i64 x45.Parent, .slice A48 x45.Rails.a0.length cap49, .slice A52 x45.Rails.a1.length cap53, .slice A56 x45.Rails.a2.length cap57, .slice A60 x45.Rails.a3.length cap61, .int .i64 x45.Deepest.a0, .int .i64 x45.Deepest.a1, .int .i64 x45.Deepest.a2, .int .i64 x45.Deepest.a3, .int .i64 x45.Deepest.a4, .int .i64 x45.Deepest.a5, .int .i64 x45.WakeDevice, .int .i64 x45.WakeSystem]) (es := [.int .i64 x77.Parent, .slice A80 x77.Rails.a0.length cap81, .slice A84 x77.Rails.a1.length cap85, .slice A88 x77.Rails.a2.length cap89, .slice A92 x77.Rails.a3.length cap93, .int .i64 x77.Deepest.a0, .int .i64 x77.Deepest.a1, .int .i64 x77.Deepest.a2, .int .i64 x77.Deepest.a3, .int .i64 x77.Deepest.a4, .int .i64 x77.Deepest.a5, .int .i64 x77.WakeDevice, .int .i64 x77.WakeSystem]) (n := 2) (e := 33) (sz := 13) hS rfl rfl rfl (by kernel_rfl) (idx_lo hx78) (Ar2.lt hx78) he79) fun a97 hS97 => ?_
              refine st_eff hS97 rfl rfl rfl (e_alloc (cs := [.int .i64 0, .slice none 0 0, .slice none 0 0, .slice none 0 0, .slice none 0 0, .int .i64 0, .int .i64 0, .int .i64 0, .int .i64 0, .int .i64 0, .int .i64 0, .int .i64 0, .int .i64 0]) (N + 8) g69 hS97 rfl (by kernel_rfl)) ?_
              rintro _ a101 w102 g102 ⟨⟨b98, rfl, h99⟩, F102⟩ hS101
              replace h50 := RdS.fr h50 F102 (by decide) (fun _ _ h => h)
              replace h54 := RdS.fr h54 F102 (by decide) (fun _ _ h => h)
              replace h58 := RdS.fr h58 F102 (by decide) (fun _ _ h => h)
              replace h62 := RdS.fr h62 F102 (by decide) (fun _ _ h => h)
              replace h82 := RdS.fr h82 F102 (by decide) (fun _ _ h => h)
              replace h86 := RdS.fr h86 F102 (by decide) (fun _ _ h => h)
              replace h90 := RdS.fr h90 F102 (by decide) (fun _ _ h => h)
              replace h94 := RdS.fr h94 F102 (by decide) (fun _ _ h => h)
              replace hp0_0 := RdS.fr hp0_0 F102 (by decide) (fun _ _ h => h)
              replace hp0_1 := RdS.fr hp0_1 F102 (by decide) (fun _ _ h => h)
              replace hp0_2 := RdS.fr hp0_2 F102 (by decide) (fun _ _ h => h)
              replace hp0_3 := RdS.fr hp0_3 F102 (by decide) (fun _ _ h => h)
              replace hF := hF.trans F102 (fun _ h => h.elim)
              refine st_effS hS101 rfl rfl (e_storeB (n := 13) (bb := true) (cs' := [.int .i64 x77.Parent, .slice A80 x77.Rails.a0.length cap81, .slice A84 x77.Rails.a1.length cap85, .slice A88 x77.Rails.a2.length cap89, .slice A92 x77.Rails.a3.length cap93, .int .i64 x77.Deepest.a0, .int .i64 x77.Deepest.a1, .int .i64 x77.Deepest.a2, .int .i64 x77.Deepest.a3, .int .i64 x77.Deepest.a4, .int .i64 x77.Deepest.a5, .int .i64 x77.WakeDevice, .int .i64 x77.WakeSystem]) g102 hS101 rfl rfl rfl (by kernel_rfl) rfl rfl rfl h99 rfl rfl) ?_
              rintro a103 w104 g104 ⟨h99, F104⟩ hS103
              replace h50 := RdS.fr h50 F104 (by decide) (fun q (hq : q = N + 6 + 1) (hm : q = N + 8) => by omega)
              replace h54 := RdS.fr h54 F104 (by decide) (fun q (hq : q = N + 6 + 1) (hm : q = N + 8) => by omega)
              replace h58 := RdS.fr h58 F104 (by decide) (fun q (hq : q = N + 6 + 1) (hm : q = N + 8) => by omega)
              replace h62 := RdS.fr h62 F104 (by decide) (fun q (hq : q = N + 6 + 1) (hm : q = N + 8) => by omega)
              replace h82 := RdS.fr h82 F104 (by decide) (fun q (hq : C0 q ∨ q = N + 6 + 1) (hm : q = N + 8) => by rcases hq with hq | hq; all_goals first | (have := hC0 q hq; omega; done) | (omega; done))
              replace h86 := RdS.fr h86 F104 (by decide) (fun q (hq : C0 q ∨ q = N + 6 + 1) (hm : q = N + 8) => by rcases hq with hq | hq; all_goals first | (have := hC0 q hq; omega; done) | (omega; done))
              replace h90 := RdS.fr h90 F104 (by decide) (fun q (hq : C0 q ∨ q = N + 6 + 1) (hm : q = N + 8) => by rcases hq with hq | hq; all_goals first | (have := hC0 q hq; omega; done) | (omega; done))
              replace h94 := RdS.fr h94 F104 (by decide) (fun q (hq : C0 q ∨ q = N + 6 + 1) (hm : q = N + 8) => by rcases hq with hq | hq; all_goals first | (have := hC0 q hq; omega; done) | (omega; done))
              replace hp0_0 := RdS.fr hp0_0 F104 (by decide) (fun q (hq : C0 q) (hm : q = N + 8) => by have := hC0 q hq; omega)
              replace hp0_1 := RdS.fr hp0_1 F104 (by decide) (fun q (hq : C0 q) (hm : q = N + 8) => by have := hC0 q hq; omega)
              replace hp0_2 := RdS.fr hp0_2 F104 (by decide) (fun q (hq : C0 q) (hm : q = N + 8) => by have := hC0 q hq; omega)
              replace hp0_3 := RdS.fr hp0_3 F104 (by decide) (fun q (hq : C0 q) (hm : q = N + 8) => by have := hC0 q hq; omega)
              replace hF := hF.trans F104 (fun c' (hm : c' = N + 8) => by show N ≤ c'; omega)
              refine wpList_nil (hK _ _ ?_)
              replace hS : Sl 83 _ [(1, .int .i64 p1), (2, .int .i64 p2), (9, .pointer (some ⟨b98, 0, none⟩)), (29, .agg #[.int .i64 p0.Parent, .slice A0_0 p0.Rails.a0.length cap0_0, .slice A0_1 p0.Rails.a1.length cap0_1, .slice A0_2 p0.Rails.a2.length cap0_2, .slice A0_3 p0.Rails.a3.length cap0_3, .int .i64 p0.Deepest.a0, .int .i64 p0.Deepest.a1, .int .i64 p0.Deepest.a2, .int .i64 p0.Deepest.a3, .int .i64 p0.Deepest.a4, .int .i64 p0.Deepest.a5, .int .i64 p0.WakeDevice, .int .i64 p0.WakeSystem, .int .i64 x45.Parent, .slice A48 x45.Rails.a0.length cap49, .slice A52 x45.Rails.a1.length cap53, .slice A56 x45.Rails.a2.length cap57, .slice A60 x45.Rails.a3.length cap61, .int .i64 x45.Deepest.a0, .int .i64 x45.Deepest.a1, .int .i64 x45.Deepest.a2, .int .i64 x45.Deepest.a3, .int .i64 x45.Deepest.a4, .int .i64 x45.Deepest.a5, .int .i64 x45.WakeDevice, .int .i64 x45.WakeSystem]), (30, .int .i64 m0_0)] := hS103.re ⟨rfl, rfl, rfl, rfl, rfl, trivial⟩
              clear hK K
              try clear hS97 hS101 hS103
              obtain ⟨a, ha⟩ : ∃ a', a' = a103 := ⟨_, rfl⟩
              rw [← ha] at hS ⊢; clear ha
              obtain ⟨r109, hr110, H⟩ := bind_el H
              obtain ⟨r114, hr115, H⟩ := bind_el H
              refine c_region (fun K hK => ?_)
              refine st_val hS rfl rfl rfl (r_move hS rfl rfl) fun a105 hS105 => st_val hS105 rfl rfl rfl (r_move hS105 rfl rfl) fun a106 hS106 => st_val hS106 rfl rfl rfl (r_build (parts := [(0, .int .i64 p1), (1, .int .i64 p2)]) (u := .agg #[.int .i64 p1, .int .i64 p2]) hS106 rfl rfl (fun _ => by kernel_rfl)) fun a107 hS107 => st_val hS107 rfl rfl rfl (r_move hS107 rfl rfl) fun a108 hS108 => ?_
              refine st_enter hS108 rfl rfl rfl (r_call hS108 rfl rfl (by kernel_rfl)) (help_Mod.calls (p0 := p1) (p1 := 5) (g := g104) (N + 20)   hr110) ?_
              rintro _ a111 w112 ⟨g112, rfl, F112⟩ hS111
              replace h99 := h99.fr F112 (fun (hm : N + 20 ≤ N + 8) => by omega)
              replace h50 := RdS.fr h50 F112 (by decide) (fun q (hq : q = N + 6 + 1) (hm : N + 20 ≤ q) => by omega)
              replace h54 := RdS.fr h54 F112 (by decide) (fun q (hq : q = N + 6 + 1) (hm : N + 20 ≤ q) => by omega)
              replace h58 := RdS.fr h58 F112 (by decide) (fun q (hq : q = N + 6 + 1) (hm : N + 20 ≤ q) => by omega)
              replace h62 := RdS.fr h62 F112 (by decide) (fun q (hq : q = N + 6 + 1) (hm : N + 20 ≤ q) => by omega)
              replace h82 := RdS.fr h82 F112 (by decide) (fun q (hq : C0 q ∨ q = N + 6 + 1) (hm : N + 20 ≤ q) => by rcases hq with hq | hq; all_goals first | (have := hC0 q hq; omega; done) | (omega; done))
              replace h86 := RdS.fr h86 F112 (by decide) (fun q (hq : C0 q ∨ q = N + 6 + 1) (hm : N + 20 ≤ q) => by rcases hq with hq | hq; all_goals first | (have := hC0 q hq; omega; done) | (omega; done))
              replace h90 := RdS.fr h90 F112 (by decide) (fun q (hq : C0 q ∨ q = N + 6 + 1) (hm : N + 20 ≤ q) => by rcases hq with hq | hq; all_goals first | (have := hC0 q hq; omega; done) | (omega; done))
              replace h94 := RdS.fr h94 F112 (by decide) (fun q (hq : C0 q ∨ q = N + 6 + 1) (hm : N + 20 ≤ q) => by rcases hq with hq | hq; all_goals first | (have := hC0 q hq; omega; done) | (omega; done))
              replace hp0_0 := RdS.fr hp0_0 F112 (by decide) (fun q (hq : C0 q) (hm : N + 20 ≤ q) => by have := hC0 q hq; omega)
              replace hp0_1 := RdS.fr hp0_1 F112 (by decide) (fun q (hq : C0 q) (hm : N + 20 ≤ q) => by have := hC0 q hq; omega)
              replace hp0_2 := RdS.fr hp0_2 F112 (by decide) (fun q (hq : C0 q) (hm : N + 20 ≤ q) => by have := hC0 q hq; omega)
              replace hp0_3 := RdS.fr hp0_3 F112 (by decide) (fun q (hq : C0 q) (hm : N + 20 ≤ q) => by have := hC0 q hq; omega)
              replace hF := hF.trans F112 (fun c' (hm : N + 20 ≤ c') => by show N ≤ c'; omega)
              refine st_val hS111 rfl rfl rfl (r_move hS111 rfl rfl) fun a113 hS113 => ?_
              refine st_enter hS113 rfl rfl rfl (r_call hS113 rfl rfl (by kernel_rfl)) (help_Mod.calls (p0 := p2) (p1 := 5) (g := g112) (N + 20)   hr115) ?_
              rintro _ a116 w117 ⟨g117, rfl, F117⟩ hS116
              replace h99 := h99.fr F117 (fun (hm : N + 20 ≤ N + 8) => by omega)
              replace h50 := RdS.fr h50 F117 (by decide) (fun q (hq : q = N + 6 + 1) (hm : N + 20 ≤ q) => by omega)
              replace h54 := RdS.fr h54 F117 (by decide) (fun q (hq : q = N + 6 + 1) (hm : N + 20 ≤ q) => by omega)
              replace h58 := RdS.fr h58 F117 (by decide) (fun q (hq : q = N + 6 + 1) (hm : N + 20 ≤ q) => by omega)
              replace h62 := RdS.fr h62 F117 (by decide) (fun q (hq : q = N + 6 + 1) (hm : N + 20 ≤ q) => by omega)
              replace h82 := RdS.fr h82 F117 (by decide) (fun q (hq : C0 q ∨ q = N + 6 + 1) (hm : N + 20 ≤ q) => by rcases hq with hq | hq; all_goals first | (have := hC0 q hq; omega; done) | (omega; done))
              replace h86 := RdS.fr h86 F117 (by decide) (fun q (hq : C0 q ∨ q = N + 6 + 1) (hm : N + 20 ≤ q) => by rcases hq with hq | hq; all_goals first | (have := hC0 q hq; omega; done) | (omega; done))
              replace h90 := RdS.fr h90 F117 (by decide) (fun q (hq : C0 q ∨ q = N + 6 + 1) (hm : N + 20 ≤ q) => by rcases hq with hq | hq; all_goals first | (have := hC0 q hq; omega; done) | (omega; done))
              replace h94 := RdS.fr h94 F117 (by decide) (fun q (hq : C0 q ∨ q = N + 6 + 1) (hm : N + 20 ≤ q) => by rcases hq with hq | hq; all_goals first | (have := hC0 q hq; omega; done) | (omega; done))
              replace hp0_0 := RdS.fr hp0_0 F117 (by decide) (fun q (hq : C0 q) (hm : N + 20 ≤ q) => by have := hC0 q hq; omega)
              replace hp0_1 := RdS.fr hp0_1 F117 (by decide) (fun q (hq : C0 q) (hm : N + 20 ≤ q) => by have := hC0 q hq; omega)
              replace hp0_2 := RdS.fr hp0_2 F117 (by decide) (fun q (hq : C0 q) (hm : N + 20 ≤ q) => by have := hC0 q hq; omega)
              replace hp0_3 := RdS.fr hp0_3 F117 (by decide) (fun q (hq : C0 q) (hm : N + 20 ≤ q) => by have := hC0 q hq; omega)
              replace hF := hF.trans F117 (fun c' (hm : N + 20 ≤ c') => by show N ≤ c'; omega)
              refine st_val hS116 rfl rfl rfl (r_build (parts := [(0, .int .i64 r109), (1, .int .i64 r114)]) (u := .agg #[.int .i64 r109, .int .i64 r114]) hS116 rfl rfl (fun _ => by kernel_rfl)) fun a118 hS118 => st_val hS118 rfl rfl rfl (r_build (parts := [(0, .agg #[.int .i64 p1, .int .i64 p2]), (1, .agg #[.int .i64 r109, .int .i64 r114])]) (u := .agg #[.int .i64 p1, .int .i64 p2, .int .i64 r109, .int .i64 r114]) hS118 rfl rfl (fun _ => by kernel_rfl)) fun a119 hS119 => st_val hS119 rfl rfl rfl (r_move hS119 rfl rfl) fun a120 hS120 => wpList_nil (hK _ _ ?_)
              replace hS : Sl 83 _ [(1, .int .i64 p1), (2, .int .i64 p2), (9, .pointer (some ⟨b98, 0, none⟩)), (29, .agg #[.int .i64 p0.Parent, .slice A0_0 p0.Rails.a0.length cap0_0, .slice A0_1 p0.Rails.a1.length cap0_1, .slice A0_2 p0.Rails.a2.length cap0_2, .slice A0_3 p0.Rails.a3.length cap0_3, .int .i64 p0.Deepest.a0, .int .i64 p0.Deepest.a1, .int .i64 p0.Deepest.a2, .int .i64 p0.Deepest.a3, .int .i64 p0.Deepest.a4, .int .i64 p0.Deepest.a5, .int .i64 p0.WakeDevice, .int .i64 p0.WakeSystem, .int .i64 x45.Parent, .slice A48 x45.Rails.a0.length cap49, .slice A52 x45.Rails.a1.length cap53, .slice A56 x45.Rails.a2.length cap57, .slice A60 x45.Rails.a3.length cap61, .int .i64 x45.Deepest.a0, .int .i64 x45.Deepest.a1, .int .i64 x45.Deepest.a2, .int .i64 x45.Deepest.a3, .int .i64 x45.Deepest.a4, .int .i64 x45.Deepest.a5, .int .i64 x45.WakeDevice, .int .i64 x45.WakeSystem]), (30, .int .i64 m0_0), (41, .agg #[.int .i64 p1, .int .i64 p2, .int .i64 r109, .int .i64 r114]), (42, .int .i64 0)] := hS120.re ⟨rfl, rfl, rfl, rfl, rfl, rfl, rfl, trivial⟩
              clear hK K
              try clear hS105 hS106 hS107 hS108 hS111 hS113 hS116 hS118 hS119 hS120
              obtain ⟨a, ha⟩ : ∃ a', a' = a120 := ⟨_, rfl⟩
              rw [← ha] at hS ⊢; clear ha
              refine wp_block ?_
              refine wp_loop_ghost (fun kq => fun a w121 => ∃ (m1_0 : Int), ∃ (g121 : Nat → Nat), law27_DeviceChangeAgrees.l1 p1 p2 x77 r109 r114 kq m1_0 = some o75 ∧ Sl 83 a [(1, .int .i64 p1), (2, .int .i64 p2), (9, .pointer (some ⟨b98, 0, none⟩)), (29, .agg #[.int .i64 p0.Parent, .slice A0_0 p0.Rails.a0.length cap0_0, .slice A0_1 p0.Rails.a1.length cap0_1, .slice A0_2 p0.Rails.a2.length cap0_2, .slice A0_3 p0.Rails.a3.length cap0_3, .int .i64 p0.Deepest.a0, .int .i64 p0.Deepest.a1, .int .i64 p0.Deepest.a2, .int .i64 p0.Deepest.a3, .int .i64 p0.Deepest.a4, .int .i64 p0.Deepest.a5, .int .i64 p0.WakeDevice, .int .i64 p0.WakeSystem, .int .i64 x45.Parent, .slice A48 x45.Rails.a0.length cap49, .slice A52 x45.Rails.a1.length cap53, .slice A56 x45.Rails.a2.length cap57, .slice A60 x45.Rails.a3.length cap61, .int .i64 x45.Deepest.a0, .int .i64 x45.Deepest.a1, .int .i64 x45.Deepest.a2, .int .i64 x45.Deepest.a3, .int .i64 x45.Deepest.a4, .int .i64 x45.Deepest.a5, .int .i64 x45.WakeDevice, .int .i64 x45.WakeSystem]), (30, .int .i64 m0_0), (41, .agg #[.int .i64 p1, .int .i64 p2, .int .i64 r109, .int .i64 r114]), (42, .int .i64 m1_0)] ∧ Bx w121 g121 (N + 8) b98 33 [.int .i64 x77.Parent, .slice A80 x77.Rails.a0.length cap81, .slice A84 x77.Rails.a1.length cap85, .slice A88 x77.Rails.a2.length cap89, .slice A92 x77.Rails.a3.length cap93, .int .i64 x77.Deepest.a0, .int .i64 x77.Deepest.a1, .int .i64 x77.Deepest.a2, .int .i64 x77.Deepest.a3, .int .i64 x77.Deepest.a4, .int .i64 x77.Deepest.a5, .int .i64 x77.WakeDevice, .int .i64 x77.WakeSystem] ∧ RdS (kint .i64) w121 g121 (fun q => q = N + 6 + 1) A48 cap49 x45.Rails.a0 ∧ RdS (kint .i64) w121 g121 (fun q => q = N + 6 + 1) A52 cap53 x45.Rails.a1 ∧ RdS (kint .i64) w121 g121 (fun q => q = N + 6 + 1) A56 cap57 x45.Rails.a2 ∧ RdS (kint .i64) w121 g121 (fun q => q = N + 6 + 1) A60 cap61 x45.Rails.a3 ∧ RdS (kint .i64) w121 g121 (fun q => C0 q ∨ q = N + 6 + 1) A80 cap81 x77.Rails.a0 ∧ RdS (kint .i64) w121 g121 (fun q => C0 q ∨ q = N + 6 + 1) A84 cap85 x77.Rails.a1 ∧ RdS (kint .i64) w121 g121 (fun q => C0 q ∨ q = N + 6 + 1) A88 cap89 x77.Rails.a2 ∧ RdS (kint .i64) w121 g121 (fun q => C0 q ∨ q = N + 6 + 1) A92 cap93 x77.Rails.a3 ∧ RdS (kint .i64) w121 g121 C0 A0_0 cap0_0 p0.Rails.a0 ∧ RdS (kint .i64) w121 g121 C0 A0_1 cap0_1 p0.Rails.a1 ∧ RdS (kint .i64) w121 g121 C0 A0_2 cap0_2 p0.Rails.a2 ∧ RdS (kint .i64) w121 g121 C0 A0_3 cap0_3 p0.Rails.a3 ∧ Fr (fun q => N ≤ q) w g w121 g121) FUEL ?_ ?_
              · exact ⟨0, g117, H, hS.re ⟨rfl, rfl, rfl, rfl, rfl, rfl, rfl, trivial⟩, h99, h50, h54, h58, h62, h82, h86, h90, h94, hp0_0, hp0_1, hp0_2, hp0_3, hF⟩
              · clear H
                clear hp0_0 hp0_1 hp0_2 hp0_3 h50 h54 h58 h62 h82 h86 h90 h94 h99 hF
                clear hS
                rintro k122 a w121 ⟨m1_0, g121, hpre0, hS, h99, h50, h54, h58, h62, h82, h86, h90, h94, hp0_0, hp0_1, hp0_2, hp0_3, hF⟩
                have H := hpre0
                clear hpre0
                cases k122 with
                | zero => exact absurd H (by simp [law27_DeviceChangeAgrees.l1])
                | succ k122 =>
                  rw [law27_DeviceChangeAgrees.l1] at H
                  refine c_pure [(1, .int .i64 p1), (2, .int .i64 p2), (9, .pointer (some ⟨b98, 0, none⟩)), (29, .agg #[.int .i64 p0.Parent, .slice A0_0 p0.Rails.a0.length cap0_0, .slice A0_1 p0.Rails.a1.length cap0_1, .slice A0_2 p0.Rails.a2.length cap0_2, .slice A0_3 p0.Rails.a3.length cap0_3, .int .i64 p0.Deepest.a0, .int .i64 p0.Deepest.a1, .int .i64 p0.Deepest.a2, .int .i64 p0.Deepest.a3, .int .i64 p0.Deepest.a4, .int .i64 p0.Deepest.a5, .int .i64 p0.WakeDevice, .int .i64 p0.WakeSystem, .int .i64 x45.Parent, .slice A48 x45.Rails.a0.length cap49, .slice A52 x45.Rails.a1.length cap53, .slice A56 x45.Rails.a2.length cap57, .slice A60 x45.Rails.a3.length cap61, .int .i64 x45.Deepest.a0, .int .i64 x45.Deepest.a1, .int .i64 x45.Deepest.a2, .int .i64 x45.Deepest.a3, .int .i64 x45.Deepest.a4, .int .i64 x45.Deepest.a5, .int .i64 x45.WakeDevice, .int .i64 x45.WakeSystem]), (30, .int .i64 m0_0), (41, .agg #[.int .i64 p1, .int .i64 p2, .int .i64 r109, .int .i64 r114]), (42, .int .i64 m1_0), (43, .bool (decide (m1_0 < 2)))] (fun R hR => st_val hS rfl rfl rfl (r_bin hS rfl rfl rfl b_lss) fun a123 hS123 => wpList_nil (hR _ (hS123.re ⟨rfl, rfl, rfl, rfl, rfl, rfl, rfl, rfl, trivial⟩))) ?_
                  clear hS
                  clear a
                  intro a hS
                  refine c_if hS rfl (fun hb124 => ?_) (fun hb124 => ?_)
                  · replace H := ite_t hb124 H
                    refine wp_skip ?_
                    change Code.wp _ _ _ _ _
                    refine wp_seq ?_
                    refine wp_block ?_
                    obtain ⟨x125, hx126, H⟩ := bind_el H
                    refine c_region (fun K hK => ?_)
                    have he127 : (([.int .i64 p1, .int .i64 p2, .int .i64 r109, .int .i64 r114] : List Value).drop (m1_0.toNat * 2)).take 2 = [.int .i64 x125.a0, .int .i64 x125.a1] := by rcases Ar2.cases hx126 with ⟨e, e2⟩ | ⟨e, e2⟩ <;> (rw [e, e2] <;> rfl)
                    refine st_val hS rfl rfl rfl (r_atN (cs := [.int .i64 p1, .int .i64 p2, .int .i64 r109, .int .i64 r114]) (es := [.int .i64 x125.a0, .int .i64 x125.a1]) (n := 2) (e := 40) (sz := 2) hS rfl rfl rfl (by kernel_rfl) (idx_lo hx126) (Ar2.lt hx126) he127) fun a129 hS129 => ?_
                    refine st_eff hS129 rfl rfl rfl (e_alloc (cs := [.int .i64 0, .int .i64 0]) (N + 10) g121 hS129 rfl (by kernel_rfl)) ?_
                    rintro _ a133 w134 g134 ⟨⟨b130, rfl, h131⟩, F134⟩ hS133
                    replace h99 := h99.fr F134 (fun h => h)
                    replace h50 := RdS.fr h50 F134 (by decide) (fun _ _ h => h)
                    replace h54 := RdS.fr h54 F134 (by decide) (fun _ _ h => h)
                    replace h58 := RdS.fr h58 F134 (by decide) (fun _ _ h => h)
                    replace h62 := RdS.fr h62 F134 (by decide) (fun _ _ h => h)
                    replace h82 := RdS.fr h82 F134 (by decide) (fun _ _ h => h)
                    replace h86 := RdS.fr h86 F134 (by decide) (fun _ _ h => h)
                    replace h90 := RdS.fr h90 F134 (by decide) (fun _ _ h => h)
                    replace h94 := RdS.fr h94 F134 (by decide) (fun _ _ h => h)
                    replace hp0_0 := RdS.fr hp0_0 F134 (by decide) (fun _ _ h => h)
                    replace hp0_1 := RdS.fr hp0_1 F134 (by decide) (fun _ _ h => h)
                    replace hp0_2 := RdS.fr hp0_2 F134 (by decide) (fun _ _ h => h)
                    replace hp0_3 := RdS.fr hp0_3 F134 (by decide) (fun _ _ h => h)
                    replace hF := hF.trans F134 (fun _ h => h.elim)
                    refine st_effS hS133 rfl rfl (e_storeB (n := 2) (bb := true) (cs' := [.int .i64 x125.a0, .int .i64 x125.a1]) g134 hS133 rfl rfl rfl (by kernel_rfl) rfl rfl rfl h131 rfl rfl) ?_
                    rintro a135 w136 g136 ⟨h131, F136⟩ hS135
                    replace h99 := h99.fr F136 (fun (hm : N + 8 = N + 10) => by omega)
                    replace h50 := RdS.fr h50 F136 (by decide) (fun q (hq : q = N + 6 + 1) (hm : q = N + 10) => by omega)
                    replace h54 := RdS.fr h54 F136 (by decide) (fun q (hq : q = N + 6 + 1) (hm : q = N + 10) => by omega)
                    replace h58 := RdS.fr h58 F136 (by decide) (fun q (hq : q = N + 6 + 1) (hm : q = N + 10) => by omega)
                    replace h62 := RdS.fr h62 F136 (by decide) (fun q (hq : q = N + 6 + 1) (hm : q = N + 10) => by omega)
                    replace h82 := RdS.fr h82 F136 (by decide) (fun q (hq : C0 q ∨ q = N + 6 + 1) (hm : q = N + 10) => by rcases hq with hq | hq; all_goals first | (have := hC0 q hq; omega; done) | (omega; done))
                    replace h86 := RdS.fr h86 F136 (by decide) (fun q (hq : C0 q ∨ q = N + 6 + 1) (hm : q = N + 10) => by rcases hq with hq | hq; all_goals first | (have := hC0 q hq; omega; done) | (omega; done))
                    replace h90 := RdS.fr h90 F136 (by decide) (fun q (hq : C0 q ∨ q = N + 6 + 1) (hm : q = N + 10) => by rcases hq with hq | hq; all_goals first | (have := hC0 q hq; omega; done) | (omega; done))
                    replace h94 := RdS.fr h94 F136 (by decide) (fun q (hq : C0 q ∨ q = N + 6 + 1) (hm : q = N + 10) => by rcases hq with hq | hq; all_goals first | (have := hC0 q hq; omega; done) | (omega; done))
                    replace hp0_0 := RdS.fr hp0_0 F136 (by decide) (fun q (hq : C0 q) (hm : q = N + 10) => by have := hC0 q hq; omega)
                    replace hp0_1 := RdS.fr hp0_1 F136 (by decide) (fun q (hq : C0 q) (hm : q = N + 10) => by have := hC0 q hq; omega)
                    replace hp0_2 := RdS.fr hp0_2 F136 (by decide) (fun q (hq : C0 q) (hm : q = N + 10) => by have := hC0 q hq; omega)
                    replace hp0_3 := RdS.fr hp0_3 F136 (by decide) (fun q (hq : C0 q) (hm : q = N + 10) => by have := hC0 q hq; omega)
                    replace hF := hF.trans F136 (fun c' (hm : c' = N + 10) => by show N ≤ c'; omega)
                    refine wpList_nil (hK _ _ ?_)
                    replace hS : Sl 83 _ [(1, .int .i64 p1), (2, .int .i64 p2), (9, .pointer (some ⟨b98, 0, none⟩)), (11, .pointer (some ⟨b130, 0, none⟩)), (29, .agg #[.int .i64 p0.Parent, .slice A0_0 p0.Rails.a0.length cap0_0, .slice A0_1 p0.Rails.a1.length cap0_1, .slice A0_2 p0.Rails.a2.length cap0_2, .slice A0_3 p0.Rails.a3.length cap0_3, .int .i64 p0.Deepest.a0, .int .i64 p0.Deepest.a1, .int .i64 p0.Deepest.a2, .int .i64 p0.Deepest.a3, .int .i64 p0.Deepest.a4, .int .i64 p0.Deepest.a5, .int .i64 p0.WakeDevice, .int .i64 p0.WakeSystem, .int .i64 x45.Parent, .slice A48 x45.Rails.a0.length cap49, .slice A52 x45.Rails.a1.length cap53, .slice A56 x45.Rails.a2.length cap57, .slice A60 x45.Rails.a3.length cap61, .int .i64 x45.Deepest.a0, .int .i64 x45.Deepest.a1, .int .i64 x45.Deepest.a2, .int .i64 x45.Deepest.a3, .int .i64 x45.Deepest.a4, .int .i64 x45.Deepest.a5, .int .i64 x45.WakeDevice, .int .i64 x45.WakeSystem]), (30, .int .i64 m0_0), (41, .agg #[.int .i64 p1, .int .i64 p2, .int .i64 r109, .int .i64 r114]), (42, .int .i64 m1_0)] := hS135.re ⟨rfl, rfl, rfl, rfl, rfl, rfl, rfl, rfl, trivial⟩
                    clear hK K
                    try clear hS129 hS133 hS135
                    obtain ⟨a, ha⟩ : ∃ a', a' = a135 := ⟨_, rfl⟩
                    rw [← ha] at hS ⊢; clear ha
                    obtain ⟨r142, hr143, H⟩ := bind_el H
                    refine c_region (fun K hK => ?_)
                    refine st_val hS rfl rfl rfl (r_loadN (n := 13) (cs := [.int .i64 x77.Parent, .slice A80 x77.Rails.a0.length cap81, .slice A84 x77.Rails.a1.length cap85, .slice A88 x77.Rails.a2.length cap89, .slice A92 x77.Rails.a3.length cap93, .int .i64 x77.Deepest.a0, .int .i64 x77.Deepest.a1, .int .i64 x77.Deepest.a2, .int .i64 x77.Deepest.a3, .int .i64 x77.Deepest.a4, .int .i64 x77.Deepest.a5, .int .i64 x77.WakeDevice, .int .i64 x77.WakeSystem]) hS rfl rfl (by kernel_rfl) rfl (Bx.cells_off h99 0 13)) fun a137 hS137 => st_val hS137 rfl rfl rfl (r_ixB (n := 2) (e := 3) (sz := 1) (bb := false) hS137 rfl rfl rfl (by kernel_rfl) (by decide) (by decide)) fun a138 hS138 => st_val hS138 rfl rfl rfl (r_load1 (n := 1) hS138 rfl rfl (by kernel_rfl) (Bx.cell h131 rfl)) fun a139 hS139 => st_val hS139 rfl rfl rfl (r_ixB (n := 2) (e := 3) (sz := 1) (bb := false) hS139 rfl rfl rfl (by kernel_rfl) (by decide) (by decide)) fun a140 hS140 => st_val hS140 rfl rfl rfl (r_load1 (n := 1) hS140 rfl rfl (by kernel_rfl) (Bx.cell h131 rfl)) fun a141 hS141 => ?_
                    refine st_enter hS141 rfl rfl rfl (r_call hS141 rfl rfl (by kernel_rfl)) (device_Change.calls (C0 := (fun q => C0 q ∨ q = N + 6 + 1)) (p0 := x77) (p1 := x125.a0) (p2 := x125.a1) (g := g136) (N + 20) (N + 12) (N + 14) h82 h86 h90 h94 (fun q (hq : C0 q ∨ q = N + 6 + 1) => by rcases hq with hq | hq; all_goals first | (have := hC0 q hq; omega; done) | (omega; done)) (by omega) (by omega) (by omega) hr143) ?_
                    rintro _ a152 w153 ⟨g153, A144, cap145, A148, cap149, rfl, h146, h150, F153⟩ hS152
                    replace h99 := h99.fr F153 (fun (hm : (N + 12 ≤ N + 8 ∧ N + 8 < N + 12 + 2) ∨ (N + 14 ≤ N + 8 ∧ N + 8 < N + 14 + 2) ∨ N + 20 ≤ N + 8) => by omega)
                    replace h131 := h131.fr F153 (fun (hm : (N + 12 ≤ N + 10 ∧ N + 10 < N + 12 + 2) ∨ (N + 14 ≤ N + 10 ∧ N + 10 < N + 14 + 2) ∨ N + 20 ≤ N + 10) => by omega)
                    replace h50 := RdS.fr h50 F153 (by decide) (fun q (hq : q = N + 6 + 1) (hm : (N + 12 ≤ q ∧ q < N + 12 + 2) ∨ (N + 14 ≤ q ∧ q < N + 14 + 2) ∨ N + 20 ≤ q) => by omega)
                    replace h54 := RdS.fr h54 F153 (by decide) (fun q (hq : q = N + 6 + 1) (hm : (N + 12 ≤ q ∧ q < N + 12 + 2) ∨ (N + 14 ≤ q ∧ q < N + 14 + 2) ∨ N + 20 ≤ q) => by omega)
                    replace h58 := RdS.fr h58 F153 (by decide) (fun q (hq : q = N + 6 + 1) (hm : (N + 12 ≤ q ∧ q < N + 12 + 2) ∨ (N + 14 ≤ q ∧ q < N + 14 + 2) ∨ N + 20 ≤ q) => by omega)
                    replace h62 := RdS.fr h62 F153 (by decide) (fun q (hq : q = N + 6 + 1) (hm : (N + 12 ≤ q ∧ q < N + 12 + 2) ∨ (N + 14 ≤ q ∧ q < N + 14 + 2) ∨ N + 20 ≤ q) => by omega)
                    replace h82 := RdS.fr h82 F153 (by decide) (fun q (hq : C0 q ∨ q = N + 6 + 1) (hm : (N + 12 ≤ q ∧ q < N + 12 + 2) ∨ (N + 14 ≤ q ∧ q < N + 14 + 2) ∨ N + 20 ≤ q) => by rcases hq with hq | hq; all_goals first | (have := hC0 q hq; omega; done) | (omega; done))
                    replace h86 := RdS.fr h86 F153 (by decide) (fun q (hq : C0 q ∨ q = N + 6 + 1) (hm : (N + 12 ≤ q ∧ q < N + 12 + 2) ∨ (N + 14 ≤ q ∧ q < N + 14 + 2) ∨ N + 20 ≤ q) => by rcases hq with hq | hq; all_goals first | (have := hC0 q hq; omega; done) | (omega; done))
                    replace h90 := RdS.fr h90 F153 (by decide) (fun q (hq : C0 q ∨ q = N + 6 + 1) (hm : (N + 12 ≤ q ∧ q < N + 12 + 2) ∨ (N + 14 ≤ q ∧ q < N + 14 + 2) ∨ N + 20 ≤ q) => by rcases hq with hq | hq; all_goals first | (have := hC0 q hq; omega; done) | (omega; done))
                    replace h94 := RdS.fr h94 F153 (by decide) (fun q (hq : C0 q ∨ q = N + 6 + 1) (hm : (N + 12 ≤ q ∧ q < N + 12 + 2) ∨ (N + 14 ≤ q ∧ q < N + 14 + 2) ∨ N + 20 ≤ q) => by rcases hq with hq | hq; all_goals first | (have := hC0 q hq; omega; done) | (omega; done))
                    replace hp0_0 := RdS.fr hp0_0 F153 (by decide) (fun q (hq : C0 q) (hm : (N + 12 ≤ q ∧ q < N + 12 + 2) ∨ (N + 14 ≤ q ∧ q < N + 14 + 2) ∨ N + 20 ≤ q) => by have := hC0 q hq; omega)
                    replace hp0_1 := RdS.fr hp0_1 F153 (by decide) (fun q (hq : C0 q) (hm : (N + 12 ≤ q ∧ q < N + 12 + 2) ∨ (N + 14 ≤ q ∧ q < N + 14 + 2) ∨ N + 20 ≤ q) => by have := hC0 q hq; omega)
                    replace hp0_2 := RdS.fr hp0_2 F153 (by decide) (fun q (hq : C0 q) (hm : (N + 12 ≤ q ∧ q < N + 12 + 2) ∨ (N + 14 ≤ q ∧ q < N + 14 + 2) ∨ N + 20 ≤ q) => by have := hC0 q hq; omega)
                    replace hp0_3 := RdS.fr hp0_3 F153 (by decide) (fun q (hq : C0 q) (hm : (N + 12 ≤ q ∧ q < N + 12 + 2) ∨ (N + 14 ≤ q ∧ q < N + 14 + 2) ∨ N + 20 ≤ q) => by have := hC0 q hq; omega)
                    replace hF := hF.trans F153 (fun c' (hm : (N + 12 ≤ c' ∧ c' < N + 12 + 2) ∨ (N + 14 ≤ c' ∧ c' < N + 14 + 2) ∨ N + 20 ≤ c') => by show N ≤ c'; omega)
                    refine st_val hS152 rfl rfl rfl (r_move hS152 rfl rfl) fun a154 hS154 => st_val hS154 rfl rfl rfl (r_extract hS154 rfl rfl rfl) fun a155 hS155 => st_val hS155 rfl rfl rfl (r_extract hS155 rfl rfl rfl) fun a156 hS156 => st_val hS156 rfl rfl rfl (r_extract hS156 rfl rfl rfl) fun a157 hS157 => st_val hS157 rfl rfl rfl (r_assign hS157 rfl rfl) fun a158 hS158 => st_val hS158 rfl rfl rfl (r_assign hS158 rfl rfl) fun a159 hS159 => st_val hS159 rfl rfl rfl (r_assign hS159 rfl rfl) fun a160 hS160 => wpList_nil (hK _ _ ?_)
                    replace hS : Sl 83 _ [(1, .int .i64 p1), (2, .int .i64 p2), (9, .pointer (some ⟨b98, 0, none⟩)), (11, .pointer (some ⟨b130, 0, none⟩)), (12, .slice A144 r142.1.length cap145), (13, .slice A148 r142.2.1.length cap149), (14, .int .i64 r142.2.2), (29, .agg #[.int .i64 p0.Parent, .slice A0_0 p0.Rails.a0.length cap0_0, .slice A0_1 p0.Rails.a1.length cap0_1, .slice A0_2 p0.Rails.a2.length cap0_2, .slice A0_3 p0.Rails.a3.length cap0_3, .int .i64 p0.Deepest.a0, .int .i64 p0.Deepest.a1, .int .i64 p0.Deepest.a2, .int .i64 p0.Deepest.a3, .int .i64 p0.Deepest.a4, .int .i64 p0.Deepest.a5, .int .i64 p0.WakeDevice, .int .i64 p0.WakeSystem, .int .i64 x45.Parent, .slice A48 x45.Rails.a0.length cap49, .slice A52 x45.Rails.a1.length cap53, .slice A56 x45.Rails.a2.length cap57, .slice A60 x45.Rails.a3.length cap61, .int .i64 x45.Deepest.a0, .int .i64 x45.Deepest.a1, .int .i64 x45.Deepest.a2, .int .i64 x45.Deepest.a3, .int .i64 x45.Deepest.a4, .int .i64 x45.Deepest.a5, .int .i64 x45.WakeDevice, .int .i64 x45.WakeSystem]), (30, .int .i64 m0_0), (41, .agg #[.int .i64 p1, .int .i64 p2, .int .i64 r109, .int .i64 r114]), (42, .int .i64 m1_0)] := hS160.re ⟨rfl, rfl, rfl, rfl, rfl, rfl, rfl, rfl, rfl, rfl, rfl, trivial⟩
                    clear hK K
                    try clear hS137 hS138 hS139 hS140 hS141 hS152 hS154 hS155 hS156 hS157 hS158 hS159 hS160
                    obtain ⟨a, ha⟩ : ∃ a', a' = a160 := ⟨_, rfl⟩
                    rw [← ha] at hS ⊢; clear ha
                    obtain ⟨r166, hr167, H⟩ := bind_el H
                    refine c_region (fun K hK => ?_)
                    refine st_val hS rfl rfl rfl (r_loadN (n := 13) (cs := [.int .i64 x77.Parent, .slice A80 x77.Rails.a0.length cap81, .slice A84 x77.Rails.a1.length cap85, .slice A88 x77.Rails.a2.length cap89, .slice A92 x77.Rails.a3.length cap93, .int .i64 x77.Deepest.a0, .int .i64 x77.Deepest.a1, .int .i64 x77.Deepest.a2, .int .i64 x77.Deepest.a3, .int .i64 x77.Deepest.a4, .int .i64 x77.Deepest.a5, .int .i64 x77.WakeDevice, .int .i64 x77.WakeSystem]) hS rfl rfl (by kernel_rfl) rfl (Bx.cells_off h99 0 13)) fun a161 hS161 => st_val hS161 rfl rfl rfl (r_ixB (n := 2) (e := 3) (sz := 1) (bb := false) hS161 rfl rfl rfl (by kernel_rfl) (by decide) (by decide)) fun a162 hS162 => st_val hS162 rfl rfl rfl (r_load1 (n := 1) hS162 rfl rfl (by kernel_rfl) (Bx.cell h131 rfl)) fun a163 hS163 => st_val hS163 rfl rfl rfl (r_ixB (n := 2) (e := 3) (sz := 1) (bb := false) hS163 rfl rfl rfl (by kernel_rfl) (by decide) (by decide)) fun a164 hS164 => st_val hS164 rfl rfl rfl (r_load1 (n := 1) hS164 rfl rfl (by kernel_rfl) (Bx.cell h131 rfl)) fun a165 hS165 => ?_
                    refine st_enter hS165 rfl rfl rfl (r_call hS165 rfl rfl (by kernel_rfl)) (ref27_Change.calls (C0 := (fun q => C0 q ∨ q = N + 6 + 1)) (p0 := x77) (p1 := x125.a0) (p2 := x125.a1) (g := g153) (N + 20) (N + 16) (N + 18) h82 h86 h90 h94 (fun q (hq : C0 q ∨ q = N + 6 + 1) => by rcases hq with hq | hq; all_goals first | (have := hC0 q hq; omega; done) | (omega; done)) (by omega) (by omega) (by omega) hr167) ?_
                    rintro _ a176 w177 ⟨g177, A168, cap169, A172, cap173, rfl, h170, h174, F177⟩ hS176
                    replace h99 := h99.fr F177 (fun (hm : (N + 16 ≤ N + 8 ∧ N + 8 < N + 16 + 2) ∨ (N + 18 ≤ N + 8 ∧ N + 8 < N + 18 + 2) ∨ N + 20 ≤ N + 8) => by omega)
                    replace h131 := h131.fr F177 (fun (hm : (N + 16 ≤ N + 10 ∧ N + 10 < N + 16 + 2) ∨ (N + 18 ≤ N + 10 ∧ N + 10 < N + 18 + 2) ∨ N + 20 ≤ N + 10) => by omega)
                    replace h146 := OwS.fr h146 F177 (fun c' hc (hm : (N + 16 ≤ c' ∧ c' < N + 16 + 2) ∨ (N + 18 ≤ c' ∧ c' < N + 18 + 2) ∨ N + 20 ≤ c') => by omega)
                    replace h150 := OwS.fr h150 F177 (fun c' hc (hm : (N + 16 ≤ c' ∧ c' < N + 16 + 2) ∨ (N + 18 ≤ c' ∧ c' < N + 18 + 2) ∨ N + 20 ≤ c') => by omega)
                    replace h50 := RdS.fr h50 F177 (by decide) (fun q (hq : q = N + 6 + 1) (hm : (N + 16 ≤ q ∧ q < N + 16 + 2) ∨ (N + 18 ≤ q ∧ q < N + 18 + 2) ∨ N + 20 ≤ q) => by omega)
                    replace h54 := RdS.fr h54 F177 (by decide) (fun q (hq : q = N + 6 + 1) (hm : (N + 16 ≤ q ∧ q < N + 16 + 2) ∨ (N + 18 ≤ q ∧ q < N + 18 + 2) ∨ N + 20 ≤ q) => by omega)
                    replace h58 := RdS.fr h58 F177 (by decide) (fun q (hq : q = N + 6 + 1) (hm : (N + 16 ≤ q ∧ q < N + 16 + 2) ∨ (N + 18 ≤ q ∧ q < N + 18 + 2) ∨ N + 20 ≤ q) => by omega)
                    replace h62 := RdS.fr h62 F177 (by decide) (fun q (hq : q = N + 6 + 1) (hm : (N + 16 ≤ q ∧ q < N + 16 + 2) ∨ (N + 18 ≤ q ∧ q < N + 18 + 2) ∨ N + 20 ≤ q) => by omega)
                    replace h82 := RdS.fr h82 F177 (by decide) (fun q (hq : C0 q ∨ q = N + 6 + 1) (hm : (N + 16 ≤ q ∧ q < N + 16 + 2) ∨ (N + 18 ≤ q ∧ q < N + 18 + 2) ∨ N + 20 ≤ q) => by rcases hq with hq | hq; all_goals first | (have := hC0 q hq; omega; done) | (omega; done))
                    replace h86 := RdS.fr h86 F177 (by decide) (fun q (hq : C0 q ∨ q = N + 6 + 1) (hm : (N + 16 ≤ q ∧ q < N + 16 + 2) ∨ (N + 18 ≤ q ∧ q < N + 18 + 2) ∨ N + 20 ≤ q) => by rcases hq with hq | hq; all_goals first | (have := hC0 q hq; omega; done) | (omega; done))
                    replace h90 := RdS.fr h90 F177 (by decide) (fun q (hq : C0 q ∨ q = N + 6 + 1) (hm : (N + 16 ≤ q ∧ q < N + 16 + 2) ∨ (N + 18 ≤ q ∧ q < N + 18 + 2) ∨ N + 20 ≤ q) => by rcases hq with hq | hq; all_goals first | (have := hC0 q hq; omega; done) | (omega; done))
                    replace h94 := RdS.fr h94 F177 (by decide) (fun q (hq : C0 q ∨ q = N + 6 + 1) (hm : (N + 16 ≤ q ∧ q < N + 16 + 2) ∨ (N + 18 ≤ q ∧ q < N + 18 + 2) ∨ N + 20 ≤ q) => by rcases hq with hq | hq; all_goals first | (have := hC0 q hq; omega; done) | (omega; done))
                    replace hp0_0 := RdS.fr hp0_0 F177 (by decide) (fun q (hq : C0 q) (hm : (N + 16 ≤ q ∧ q < N + 16 + 2) ∨ (N + 18 ≤ q ∧ q < N + 18 + 2) ∨ N + 20 ≤ q) => by have := hC0 q hq; omega)
                    replace hp0_1 := RdS.fr hp0_1 F177 (by decide) (fun q (hq : C0 q) (hm : (N + 16 ≤ q ∧ q < N + 16 + 2) ∨ (N + 18 ≤ q ∧ q < N + 18 + 2) ∨ N + 20 ≤ q) => by have := hC0 q hq; omega)
                    replace hp0_2 := RdS.fr hp0_2 F177 (by decide) (fun q (hq : C0 q) (hm : (N + 16 ≤ q ∧ q < N + 16 + 2) ∨ (N + 18 ≤ q ∧ q < N + 18 + 2) ∨ N + 20 ≤ q) => by have := hC0 q hq; omega)
                    replace hp0_3 := RdS.fr hp0_3 F177 (by decide) (fun q (hq : C0 q) (hm : (N + 16 ≤ q ∧ q < N + 16 + 2) ∨ (N + 18 ≤ q ∧ q < N + 18 + 2) ∨ N + 20 ≤ q) => by have := hC0 q hq; omega)
                    replace hF := hF.trans F177 (fun c' (hm : (N + 16 ≤ c' ∧ c' < N + 16 + 2) ∨ (N + 18 ≤ c' ∧ c' < N + 18 + 2) ∨ N + 20 ≤ c') => by show N ≤ c'; omega)
                    refine st_val hS176 rfl rfl rfl (r_move hS176 rfl rfl) fun a178 hS178 => st_val hS178 rfl rfl rfl (r_extract hS178 rfl rfl rfl) fun a179 hS179 => st_val hS179 rfl rfl rfl (r_extract hS179 rfl rfl rfl) fun a180 hS180 => st_val hS180 rfl rfl rfl (r_extract hS180 rfl rfl rfl) fun a181 hS181 => st_val hS181 rfl rfl rfl (r_assign hS181 rfl rfl) fun a182 hS182 => st_val hS182 rfl rfl rfl (r_assign hS182 rfl rfl) fun a183 hS183 => st_val hS183 rfl rfl rfl (r_assign hS183 rfl rfl) fun a184 hS184 => wpList_nil (hK _ _ ?_)
                    replace hS : Sl 83 _ [(1, .int .i64 p1), (2, .int .i64 p2), (9, .pointer (some ⟨b98, 0, none⟩)), (12, .slice A144 r142.1.length cap145), (13, .slice A148 r142.2.1.length cap149), (14, .int .i64 r142.2.2), (15, .slice A168 r166.1.length cap169), (16, .slice A172 r166.2.1.length cap173), (17, .int .i64 r166.2.2), (29, .agg #[.int .i64 p0.Parent, .slice A0_0 p0.Rails.a0.length cap0_0, .slice A0_1 p0.Rails.a1.length cap0_1, .slice A0_2 p0.Rails.a2.length cap0_2, .slice A0_3 p0.Rails.a3.length cap0_3, .int .i64 p0.Deepest.a0, .int .i64 p0.Deepest.a1, .int .i64 p0.Deepest.a2, .int .i64 p0.Deepest.a3, .int .i64 p0.Deepest.a4, .int .i64 p0.Deepest.a5, .int .i64 p0.WakeDevice, .int .i64 p0.WakeSystem, .int .i64 x45.Parent, .slice A48 x45.Rails.a0.length cap49, .slice A52 x45.Rails.a1.length cap53, .slice A56 x45.Rails.a2.length cap57, .slice A60 x45.Rails.a3.length cap61, .int .i64 x45.Deepest.a0, .int .i64 x45.Deepest.a1, .int .i64 x45.Deepest.a2, .int .i64 x45.Deepest.a3, .int .i64 x45.Deepest.a4, .int .i64 x45.Deepest.a5, .int .i64 x45.WakeDevice, .int .i64 x45.WakeSystem]), (30, .int .i64 m0_0), (41, .agg #[.int .i64 p1, .int .i64 p2, .int .i64 r109, .int .i64 r114]), (42, .int .i64 m1_0)] := hS184.re ⟨rfl, rfl, rfl, rfl, rfl, rfl, rfl, rfl, rfl, rfl, rfl, rfl, rfl, trivial⟩
                    clear hK K
                    try clear hS161 hS162 hS163 hS164 hS165 hS176 hS178 hS179 hS180 hS181 hS182 hS183 hS184
                    obtain ⟨a, ha⟩ : ∃ a', a' = a184 := ⟨_, rfl⟩
                    rw [← ha] at hS ⊢; clear ha
                    obtain ⟨t197, ht198, H⟩ := bind_el H
                    obtain ⟨t225, ht226, H⟩ := bind_el H
                    refine c_region (fun K hK => ?_)
                    refine st_val hS rfl rfl rfl (r_move hS rfl rfl) fun a185 hS185 => st_val hS185 rfl rfl rfl (r_move hS185 rfl rfl) fun a186 hS186 => st_val hS186 rfl rfl rfl (r_bin hS186 rfl rfl rfl b_neq) fun a187 hS187 => st_val hS187 rfl rfl rfl (r_move hS187 rfl rfl) fun a188 hS188 => ?_
                    refine g_joinR 5 (fun a w199 => ∃ (g199 : Nat → Nat), Sl 83 a [(1, .int .i64 p1), (2, .int .i64 p2), (9, .pointer (some ⟨b98, 0, none⟩)), (13, .slice A148 r142.2.1.length cap149), (16, .slice A172 r166.2.1.length cap173), (29, .agg #[.int .i64 p0.Parent, .slice A0_0 p0.Rails.a0.length cap0_0, .slice A0_1 p0.Rails.a1.length cap0_1, .slice A0_2 p0.Rails.a2.length cap0_2, .slice A0_3 p0.Rails.a3.length cap0_3, .int .i64 p0.Deepest.a0, .int .i64 p0.Deepest.a1, .int .i64 p0.Deepest.a2, .int .i64 p0.Deepest.a3, .int .i64 p0.Deepest.a4, .int .i64 p0.Deepest.a5, .int .i64 p0.WakeDevice, .int .i64 p0.WakeSystem, .int .i64 x45.Parent, .slice A48 x45.Rails.a0.length cap49, .slice A52 x45.Rails.a1.length cap53, .slice A56 x45.Rails.a2.length cap57, .slice A60 x45.Rails.a3.length cap61, .int .i64 x45.Deepest.a0, .int .i64 x45.Deepest.a1, .int .i64 x45.Deepest.a2, .int .i64 x45.Deepest.a3, .int .i64 x45.Deepest.a4, .int .i64 x45.Deepest.a5, .int .i64 x45.WakeDevice, .int .i64 x45.WakeSystem]), (30, .int .i64 m0_0), (41, .agg #[.int .i64 p1, .int .i64 p2, .int .i64 r109, .int .i64 r114]), (42, .int .i64 m1_0), (73, .bool t197)] ∧ Bx w199 g199 (N + 8) b98 33 [.int .i64 x77.Parent, .slice A80 x77.Rails.a0.length cap81, .slice A84 x77.Rails.a1.length cap85, .slice A88 x77.Rails.a2.length cap89, .slice A92 x77.Rails.a3.length cap93, .int .i64 x77.Deepest.a0, .int .i64 x77.Deepest.a1, .int .i64 x77.Deepest.a2, .int .i64 x77.Deepest.a3, .int .i64 x77.Deepest.a4, .int .i64 x77.Deepest.a5, .int .i64 x77.WakeDevice, .int .i64 x77.WakeSystem] ∧ OwS (kint .i64) 3 w199 g199 (N + 14) A148 cap149 r142.2.1 ∧ OwS (kint .i64) 3 w199 g199 (N + 18) A172 cap173 r166.2.1 ∧ RdS (kint .i64) w199 g199 (fun q => q = N + 6 + 1) A48 cap49 x45.Rails.a0 ∧ RdS (kint .i64) w199 g199 (fun q => q = N + 6 + 1) A52 cap53 x45.Rails.a1 ∧ RdS (kint .i64) w199 g199 (fun q => q = N + 6 + 1) A56 cap57 x45.Rails.a2 ∧ RdS (kint .i64) w199 g199 (fun q => q = N + 6 + 1) A60 cap61 x45.Rails.a3 ∧ RdS (kint .i64) w199 g199 (fun q => C0 q ∨ q = N + 6 + 1) A80 cap81 x77.Rails.a0 ∧ RdS (kint .i64) w199 g199 (fun q => C0 q ∨ q = N + 6 + 1) A84 cap85 x77.Rails.a1 ∧ RdS (kint .i64) w199 g199 (fun q => C0 q ∨ q = N + 6 + 1) A88 cap89 x77.Rails.a2 ∧ RdS (kint .i64) w199 g199 (fun q => C0 q ∨ q = N + 6 + 1) A92 cap93 x77.Rails.a3 ∧ RdS (kint .i64) w199 g199 C0 A0_0 cap0_0 p0.Rails.a0 ∧ RdS (kint .i64) w199 g199 C0 A0_1 cap0_1 p0.Rails.a1 ∧ RdS (kint .i64) w199 g199 C0 A0_2 cap0_2 p0.Rails.a2 ∧ RdS (kint .i64) w199 g199 C0 A0_3 cap0_3 p0.Rails.a3 ∧ Fr (fun q => N ≤ q) w g w199 g199) ?_ (fun hk => ?_)
                    rotate_left
                    · rcases Bool.eq_false_or_eq_true ((r142.2.2 != r166.2.2)) with hb189 | hb189
                      · have H := ite_t hb189 ht198
                        have e200 := Option.some.inj H
                        refine st_off hS188 (want_off hS188 rfl rfl rfl hb189) rfl rfl fun a201 hS201 => st_off hS201 (want_off hS201 rfl rfl rfl hb189) rfl rfl fun a202 hS202 => st_off hS202 (want_off hS202 rfl rfl rfl hb189) rfl rfl fun a203 hS203 => st_off hS203 (want_off hS203 rfl rfl rfl hb189) rfl rfl fun a204 hS204 => st_val hS204 rfl rfl rfl (r_pickT hS204 rfl rfl rfl hb189) fun a205 hS205 => hk _ _ ?_
                        exact ⟨g177, hS205.re ⟨rfl, rfl, rfl, rfl, rfl, rfl, rfl, rfl, rfl, (by rw [← e200]; rfl), trivial⟩, h99, h150, h174, h50, h54, h58, h62, h82, h86, h90, h94, hp0_0, hp0_1, hp0_2, hp0_3, hF⟩
                      · have H := ite_f hb189 ht198
                        obtain ⟨r208, hr209, H⟩ := bind_el H
                        have e213 := Option.some.inj H
                        refine st_valW hS188 (want_on hS188 rfl rfl rfl hb189) rfl rfl (r_move hS188 rfl rfl) fun a206 hS206 => st_valW hS206 (want_on hS206 rfl rfl rfl hb189) rfl rfl (r_move hS206 rfl rfl) fun a207 hS207 => ?_
                        refine st_enterW hS207 (want_on hS207 rfl rfl rfl hb189) rfl rfl (r_call hS207 rfl rfl (by kernel_rfl)) (help_Equal_int.calls (C0 := (fun q => q = N + 12)) (C1 := (fun q => q = N + 16)) (p0 := r142.1) (p1 := r166.1) (g := g177) (N + 20)  (OwD.rdf (fun _ _ _ _ _ _ h => h) h146) (fun q (hq : q = N + 12) => by omega) (OwD.rdf (fun _ _ _ _ _ _ h => h) h170) (fun q (hq : q = N + 16) => by omega) hr209) ?_
                        rintro _ a210 w211 ⟨g211, rfl, F211⟩ hS210
                        replace h99 := h99.fr F211 (fun (hm : N + 20 ≤ N + 8) => by omega)
                        replace h146 := OwS.fr h146 F211 (fun c' hc (hm : N + 20 ≤ c') => by omega)
                        replace h150 := OwS.fr h150 F211 (fun c' hc (hm : N + 20 ≤ c') => by omega)
                        replace h170 := OwS.fr h170 F211 (fun c' hc (hm : N + 20 ≤ c') => by omega)
                        replace h174 := OwS.fr h174 F211 (fun c' hc (hm : N + 20 ≤ c') => by omega)
                        replace h50 := RdS.fr h50 F211 (by decide) (fun q (hq : q = N + 6 + 1) (hm : N + 20 ≤ q) => by omega)
                        replace h54 := RdS.fr h54 F211 (by decide) (fun q (hq : q = N + 6 + 1) (hm : N + 20 ≤ q) => by omega)
                        replace h58 := RdS.fr h58 F211 (by decide) (fun q (hq : q = N + 6 + 1) (hm : N + 20 ≤ q) => by omega)
                        replace h62 := RdS.fr h62 F211 (by decide) (fun q (hq : q = N + 6 + 1) (hm : N + 20 ≤ q) => by omega)
                        replace h82 := RdS.fr h82 F211 (by decide) (fun q (hq : C0 q ∨ q = N + 6 + 1) (hm : N + 20 ≤ q) => by rcases hq with hq | hq; all_goals first | (have := hC0 q hq; omega; done) | (omega; done))
                        replace h86 := RdS.fr h86 F211 (by decide) (fun q (hq : C0 q ∨ q = N + 6 + 1) (hm : N + 20 ≤ q) => by rcases hq with hq | hq; all_goals first | (have := hC0 q hq; omega; done) | (omega; done))
                        replace h90 := RdS.fr h90 F211 (by decide) (fun q (hq : C0 q ∨ q = N + 6 + 1) (hm : N + 20 ≤ q) => by rcases hq with hq | hq; all_goals first | (have := hC0 q hq; omega; done) | (omega; done))
                        replace h94 := RdS.fr h94 F211 (by decide) (fun q (hq : C0 q ∨ q = N + 6 + 1) (hm : N + 20 ≤ q) => by rcases hq with hq | hq; all_goals first | (have := hC0 q hq; omega; done) | (omega; done))
                        replace hp0_0 := RdS.fr hp0_0 F211 (by decide) (fun q (hq : C0 q) (hm : N + 20 ≤ q) => by have := hC0 q hq; omega)
                        replace hp0_1 := RdS.fr hp0_1 F211 (by decide) (fun q (hq : C0 q) (hm : N + 20 ≤ q) => by have := hC0 q hq; omega)
                        replace hp0_2 := RdS.fr hp0_2 F211 (by decide) (fun q (hq : C0 q) (hm : N + 20 ≤ q) => by have := hC0 q hq; omega)
                        replace hp0_3 := RdS.fr hp0_3 F211 (by decide) (fun q (hq : C0 q) (hm : N + 20 ≤ q) => by have := hC0 q hq; omega)
                        replace hF := hF.trans F211 (fun c' (hm : N + 20 ≤ c') => by show N ≤ c'; omega)
                        refine st_valW hS210 (want_on hS210 rfl rfl rfl hb189) rfl rfl (r_not hS210 rfl rfl) fun a212 hS212 => ?_
                        refine st_val hS212 rfl rfl rfl (r_pickF hS212 rfl rfl rfl hb189) fun a214 hS214 => hk _ _ ?_
                        exact ⟨g211, hS214.re ⟨rfl, rfl, rfl, rfl, rfl, rfl, rfl, rfl, rfl, (by rw [← e213]; rfl), trivial⟩, h99, h150, h174, h50, h54, h58, h62, h82, h86, h90, h94, hp0_0, hp0_1, hp0_2, hp0_3, hF⟩
                    rintro a215 w199 ⟨g199, hS215, h99, h150, h174, h50, h54, h58, h62, h82, h86, h90, h94, hp0_0, hp0_1, hp0_2, hp0_3, hF⟩
                    refine st_val hS215 rfl rfl rfl (r_move hS215 rfl rfl) fun a216 hS216 => ?_
                    refine g_joinR 5 (fun a w227 => ∃ (g227 : Nat → Nat), Sl 83 a [(1, .int .i64 p1), (2, .int .i64 p2), (9, .pointer (some ⟨b98, 0, none⟩)), (29, .agg #[.int .i64 p0.Parent, .slice A0_0 p0.Rails.a0.length cap0_0, .slice A0_1 p0.Rails.a1.length cap0_1, .slice A0_2 p0.Rails.a2.length cap0_2, .slice A0_3 p0.Rails.a3.length cap0_3, .int .i64 p0.Deepest.a0, .int .i64 p0.Deepest.a1, .int .i64 p0.Deepest.a2, .int .i64 p0.Deepest.a3, .int .i64 p0.Deepest.a4, .int .i64 p0.Deepest.a5, .int .i64 p0.WakeDevice, .int .i64 p0.WakeSystem, .int .i64 x45.Parent, .slice A48 x45.Rails.a0.length cap49, .slice A52 x45.Rails.a1.length cap53, .slice A56 x45.Rails.a2.length cap57, .slice A60 x45.Rails.a3.length cap61, .int .i64 x45.Deepest.a0, .int .i64 x45.Deepest.a1, .int .i64 x45.Deepest.a2, .int .i64 x45.Deepest.a3, .int .i64 x45.Deepest.a4, .int .i64 x45.Deepest.a5, .int .i64 x45.WakeDevice, .int .i64 x45.WakeSystem]), (30, .int .i64 m0_0), (41, .agg #[.int .i64 p1, .int .i64 p2, .int .i64 r109, .int .i64 r114]), (42, .int .i64 m1_0), (79, .bool t225)] ∧ Bx w227 g227 (N + 8) b98 33 [.int .i64 x77.Parent, .slice A80 x77.Rails.a0.length cap81, .slice A84 x77.Rails.a1.length cap85, .slice A88 x77.Rails.a2.length cap89, .slice A92 x77.Rails.a3.length cap93, .int .i64 x77.Deepest.a0, .int .i64 x77.Deepest.a1, .int .i64 x77.Deepest.a2, .int .i64 x77.Deepest.a3, .int .i64 x77.Deepest.a4, .int .i64 x77.Deepest.a5, .int .i64 x77.WakeDevice, .int .i64 x77.WakeSystem] ∧ RdS (kint .i64) w227 g227 (fun q => q = N + 6 + 1) A48 cap49 x45.Rails.a0 ∧ RdS (kint .i64) w227 g227 (fun q => q = N + 6 + 1) A52 cap53 x45.Rails.a1 ∧ RdS (kint .i64) w227 g227 (fun q => q = N + 6 + 1) A56 cap57 x45.Rails.a2 ∧ RdS (kint .i64) w227 g227 (fun q => q = N + 6 + 1) A60 cap61 x45.Rails.a3 ∧ RdS (kint .i64) w227 g227 (fun q => C0 q ∨ q = N + 6 + 1) A80 cap81 x77.Rails.a0 ∧ RdS (kint .i64) w227 g227 (fun q => C0 q ∨ q = N + 6 + 1) A84 cap85 x77.Rails.a1 ∧ RdS (kint .i64) w227 g227 (fun q => C0 q ∨ q = N + 6 + 1) A88 cap89 x77.Rails.a2 ∧ RdS (kint .i64) w227 g227 (fun q => C0 q ∨ q = N + 6 + 1) A92 cap93 x77.Rails.a3 ∧ RdS (kint .i64) w227 g227 C0 A0_0 cap0_0 p0.Rails.a0 ∧ RdS (kint .i64) w227 g227 C0 A0_1 cap0_1 p0.Rails.a1 ∧ RdS (kint .i64) w227 g227 C0 A0_2 cap0_2 p0.Rails.a2 ∧ RdS (kint .i64) w227 g227 C0 A0_3 cap0_3 p0.Rails.a3 ∧ Fr (fun q => N ≤ q) w g w227 g227) ?_ (fun hk => ?_)
                    rotate_left
                    · rcases Bool.eq_false_or_eq_true (t197) with hb217 | hb217
                      · have H := ite_t hb217 ht226
                        have e228 := Option.some.inj H
                        refine st_off hS216 (want_off hS216 rfl rfl rfl hb217) rfl rfl fun a229 hS229 => st_off hS229 (want_off hS229 rfl rfl rfl hb217) rfl rfl fun a230 hS230 => st_off hS230 (want_off hS230 rfl rfl rfl hb217) rfl rfl fun a231 hS231 => st_off hS231 (want_off hS231 rfl rfl rfl hb217) rfl rfl fun a232 hS232 => st_val hS232 rfl rfl rfl (r_pickT hS232 rfl rfl rfl hb217) fun a233 hS233 => hk _ _ ?_
                        exact ⟨g199, hS233.re ⟨rfl, rfl, rfl, rfl, rfl, rfl, rfl, (by rw [← e228]; rfl), trivial⟩, h99, h50, h54, h58, h62, h82, h86, h90, h94, hp0_0, hp0_1, hp0_2, hp0_3, hF⟩
                      · have H := ite_f hb217 ht226
                        obtain ⟨r236, hr237, H⟩ := bind_el H
                        have e241 := Option.some.inj H
                        refine st_valW hS216 (want_on hS216 rfl rfl rfl hb217) rfl rfl (r_move hS216 rfl rfl) fun a234 hS234 => st_valW hS234 (want_on hS234 rfl rfl rfl hb217) rfl rfl (r_move hS234 rfl rfl) fun a235 hS235 => ?_
                        refine st_enterW hS235 (want_on hS235 rfl rfl rfl hb217) rfl rfl (r_call hS235 rfl rfl (by kernel_rfl)) (help_Equal_int.calls (C0 := (fun q => q = N + 14)) (C1 := (fun q => q = N + 18)) (p0 := r142.2.1) (p1 := r166.2.1) (g := g199) (N + 20)  (OwD.rdf (fun _ _ _ _ _ _ h => h) h150) (fun q (hq : q = N + 14) => by omega) (OwD.rdf (fun _ _ _ _ _ _ h => h) h174) (fun q (hq : q = N + 18) => by omega) hr237) ?_
                        rintro _ a238 w239 ⟨g239, rfl, F239⟩ hS238
                        replace h99 := h99.fr F239 (fun (hm : N + 20 ≤ N + 8) => by omega)
                        replace h150 := OwS.fr h150 F239 (fun c' hc (hm : N + 20 ≤ c') => by omega)
                        replace h174 := OwS.fr h174 F239 (fun c' hc (hm : N + 20 ≤ c') => by omega)
                        replace h50 := RdS.fr h50 F239 (by decide) (fun q (hq : q = N + 6 + 1) (hm : N + 20 ≤ q) => by omega)
                        replace h54 := RdS.fr h54 F239 (by decide) (fun q (hq : q = N + 6 + 1) (hm : N + 20 ≤ q) => by omega)
                        replace h58 := RdS.fr h58 F239 (by decide) (fun q (hq : q = N + 6 + 1) (hm : N + 20 ≤ q) => by omega)
                        replace h62 := RdS.fr h62 F239 (by decide) (fun q (hq : q = N + 6 + 1) (hm : N + 20 ≤ q) => by omega)
                        replace h82 := RdS.fr h82 F239 (by decide) (fun q (hq : C0 q ∨ q = N + 6 + 1) (hm : N + 20 ≤ q) => by rcases hq with hq | hq; all_goals first | (have := hC0 q hq; omega; done) | (omega; done))
                        replace h86 := RdS.fr h86 F239 (by decide) (fun q (hq : C0 q ∨ q = N + 6 + 1) (hm : N + 20 ≤ q) => by rcases hq with hq | hq; all_goals first | (have := hC0 q hq; omega; done) | (omega; done))
                        replace h90 := RdS.fr h90 F239 (by decide) (fun q (hq : C0 q ∨ q = N + 6 + 1) (hm : N + 20 ≤ q) => by rcases hq with hq | hq; all_goals first | (have := hC0 q hq; omega; done) | (omega; done))
                        replace h94 := RdS.fr h94 F239 (by decide) (fun q (hq : C0 q ∨ q = N + 6 + 1) (hm : N + 20 ≤ q) => by rcases hq with hq | hq; all_goals first | (have := hC0 q hq; omega; done) | (omega; done))
                        replace hp0_0 := RdS.fr hp0_0 F239 (by decide) (fun q (hq : C0 q) (hm : N + 20 ≤ q) => by have := hC0 q hq; omega)
                        replace hp0_1 := RdS.fr hp0_1 F239 (by decide) (fun q (hq : C0 q) (hm : N + 20 ≤ q) => by have := hC0 q hq; omega)
                        replace hp0_2 := RdS.fr hp0_2 F239 (by decide) (fun q (hq : C0 q) (hm : N + 20 ≤ q) => by have := hC0 q hq; omega)
                        replace hp0_3 := RdS.fr hp0_3 F239 (by decide) (fun q (hq : C0 q) (hm : N + 20 ≤ q) => by have := hC0 q hq; omega)
                        replace hF := hF.trans F239 (fun c' (hm : N + 20 ≤ c') => by show N ≤ c'; omega)
                        refine st_valW hS238 (want_on hS238 rfl rfl rfl hb217) rfl rfl (r_not hS238 rfl rfl) fun a240 hS240 => ?_
                        refine st_val hS240 rfl rfl rfl (r_pickF hS240 rfl rfl rfl hb217) fun a242 hS242 => hk _ _ ?_
                        exact ⟨g239, hS242.re ⟨rfl, rfl, rfl, rfl, rfl, rfl, rfl, (by rw [← e241]; rfl), trivial⟩, h99, h50, h54, h58, h62, h82, h86, h90, h94, hp0_0, hp0_1, hp0_2, hp0_3, hF⟩
                    rintro a243 w227 ⟨g227, hS243, h99, h50, h54, h58, h62, h82, h86, h90, h94, hp0_0, hp0_1, hp0_2, hp0_3, hF⟩
                    refine wpList_nil (hK _ _ ?_)
                    replace hS : Sl 83 _ [(1, .int .i64 p1), (2, .int .i64 p2), (9, .pointer (some ⟨b98, 0, none⟩)), (29, .agg #[.int .i64 p0.Parent, .slice A0_0 p0.Rails.a0.length cap0_0, .slice A0_1 p0.Rails.a1.length cap0_1, .slice A0_2 p0.Rails.a2.length cap0_2, .slice A0_3 p0.Rails.a3.length cap0_3, .int .i64 p0.Deepest.a0, .int .i64 p0.Deepest.a1, .int .i64 p0.Deepest.a2, .int .i64 p0.Deepest.a3, .int .i64 p0.Deepest.a4, .int .i64 p0.Deepest.a5, .int .i64 p0.WakeDevice, .int .i64 p0.WakeSystem, .int .i64 x45.Parent, .slice A48 x45.Rails.a0.length cap49, .slice A52 x45.Rails.a1.length cap53, .slice A56 x45.Rails.a2.length cap57, .slice A60 x45.Rails.a3.length cap61, .int .i64 x45.Deepest.a0, .int .i64 x45.Deepest.a1, .int .i64 x45.Deepest.a2, .int .i64 x45.Deepest.a3, .int .i64 x45.Deepest.a4, .int .i64 x45.Deepest.a5, .int .i64 x45.WakeDevice, .int .i64 x45.WakeSystem]), (30, .int .i64 m0_0), (41, .agg #[.int .i64 p1, .int .i64 p2, .int .i64 r109, .int .i64 r114]), (42, .int .i64 m1_0), (79, .bool t225)] := hS243.re ⟨rfl, rfl, rfl, rfl, rfl, rfl, rfl, rfl, trivial⟩
                    clear hK K
                    try clear hS185 hS186 hS187 hS188 hS215 hS216 hS243
                    obtain ⟨a, ha⟩ : ∃ a', a' = a243 := ⟨_, rfl⟩
                    rw [← ha] at hS ⊢; clear ha
                    refine c_cond hS rfl (fun hb244 => ?_) (fun hb244 => ?_)
                    · replace H := ite_t hb244 H
                      refine c_pure [(6, .bool false)] (fun R hR => st_val hS rfl rfl rfl (r_assign hS rfl rfl) fun a245 hS245 => wpList_nil (hR _ (hS245.re ⟨rfl, trivial⟩))) ?_
                      clear hS
                      clear a
                      intro a hS
                      refine wp_ret ?_
                      have e := Option.some.inj H
                      subst e
                      replace H := Fl.go_out Hl76
                      have e := Option.some.inj H
                      subst e
                      replace H := Fl.go_out Hl41
                      have e := Option.some.inj H
                      subst e
                      repeat (with_reducible first | refine then_ret ?_ | refine inBlock_ret ?_)
                      exact c_ret1 hS Try.results6 rfl ⟨_, rfl, g227, rfl, hF⟩
                    · replace H := ite_f hb244 H
                      refine wp_skip ?_
                      change Code.wp _ _ _ _ _
                      refine c_pure1 [(1, .int .i64 p1), (2, .int .i64 p2), (9, .pointer (some ⟨b98, 0, none⟩)), (29, .agg #[.int .i64 p0.Parent, .slice A0_0 p0.Rails.a0.length cap0_0, .slice A0_1 p0.Rails.a1.length cap0_1, .slice A0_2 p0.Rails.a2.length cap0_2, .slice A0_3 p0.Rails.a3.length cap0_3, .int .i64 p0.Deepest.a0, .int .i64 p0.Deepest.a1, .int .i64 p0.Deepest.a2, .int .i64 p0.Deepest.a3, .int .i64 p0.Deepest.a4, .int .i64 p0.Deepest.a5, .int .i64 p0.WakeDevice, .int .i64 p0.WakeSystem, .int .i64 x45.Parent, .slice A48 x45.Rails.a0.length cap49, .slice A52 x45.Rails.a1.length cap53, .slice A56 x45.Rails.a2.length cap57, .slice A60 x45.Rails.a3.length cap61, .int .i64 x45.Deepest.a0, .int .i64 x45.Deepest.a1, .int .i64 x45.Deepest.a2, .int .i64 x45.Deepest.a3, .int .i64 x45.Deepest.a4, .int .i64 x45.Deepest.a5, .int .i64 x45.WakeDevice, .int .i64 x45.WakeSystem]), (30, .int .i64 m0_0), (41, .agg #[.int .i64 p1, .int .i64 p2, .int .i64 r109, .int .i64 r114]), (42, .int .i64 (wi (m1_0 + 1)))] (fun R hR => st_val hS rfl rfl rfl (r_bin hS rfl rfl rfl b_add) fun a246 hS246 => st_val hS246 rfl rfl rfl (r_move hS246 rfl rfl) fun a247 hS247 => wpList_nil (hR _ (hS247.re ⟨rfl, rfl, rfl, rfl, rfl, rfl, rfl, trivial⟩))) ?_
                      clear hS
                      clear a
                      intro a hS
                      refine ⟨k122, Nat.lt_succ_self _, ?_⟩
                      exact ⟨wi (m1_0 + 1), g227, H, hS.re ⟨rfl, rfl, rfl, rfl, rfl, rfl, rfl, trivial⟩, h99, h50, h54, h58, h62, h82, h86, h90, h94, hp0_0, hp0_1, hp0_2, hp0_3, hF⟩
                  · replace H := ite_f hb124 H
                    refine wp_exit ?_
                    have e := Option.some.inj H
                    exact ⟨g121, e.symm, hS.re ⟨rfl, rfl, rfl, rfl, trivial⟩, h50, h54, h58, h62, hp0_0, hp0_1, hp0_2, hp0_3, hF⟩
            · clear H
              clear hp0_0 hp0_1 hp0_2 hp0_3 h50 h54 h58 h62 hF
              clear hS
              rintro a w73 ⟨g73, hpre0, hS, h50, h54, h58, h62, hp0_0, hp0_1, hp0_2, hp0_3, hF⟩
              subst hpre0
              have H := Fl.go_nxt Hl76
              clear Hl76
              refine c_pure1 [(1, .int .i64 p1), (2, .int .i64 p2), (29, .agg #[.int .i64 p0.Parent, .slice A0_0 p0.Rails.a0.length cap0_0, .slice A0_1 p0.Rails.a1.length cap0_1, .slice A0_2 p0.Rails.a2.length cap0_2, .slice A0_3 p0.Rails.a3.length cap0_3, .int .i64 p0.Deepest.a0, .int .i64 p0.Deepest.a1, .int .i64 p0.Deepest.a2, .int .i64 p0.Deepest.a3, .int .i64 p0.Deepest.a4, .int .i64 p0.Deepest.a5, .int .i64 p0.WakeDevice, .int .i64 p0.WakeSystem, .int .i64 x45.Parent, .slice A48 x45.Rails.a0.length cap49, .slice A52 x45.Rails.a1.length cap53, .slice A56 x45.Rails.a2.length cap57, .slice A60 x45.Rails.a3.length cap61, .int .i64 x45.Deepest.a0, .int .i64 x45.Deepest.a1, .int .i64 x45.Deepest.a2, .int .i64 x45.Deepest.a3, .int .i64 x45.Deepest.a4, .int .i64 x45.Deepest.a5, .int .i64 x45.WakeDevice, .int .i64 x45.WakeSystem]), (30, .int .i64 (wi (m0_0 + 1)))] (fun R hR => st_val hS rfl rfl rfl (r_bin hS rfl rfl rfl b_add) fun a248 hS248 => st_val hS248 rfl rfl rfl (r_move hS248 rfl rfl) fun a249 hS249 => wpList_nil (hR _ (hS249.re ⟨rfl, rfl, rfl, rfl, trivial⟩))) ?_
              clear hS
              clear a
              intro a hS
              refine ⟨k70, Nat.lt_succ_self _, ?_⟩
              exact ⟨wi (m0_0 + 1), g73, H, hS.re ⟨rfl, rfl, rfl, rfl, trivial⟩, h50, h54, h58, h62, hp0_0, hp0_1, hp0_2, hp0_3, hF⟩
          · replace H := ite_f hb72 H
            refine wp_exit ?_
            have e := Option.some.inj H
            exact ⟨g69, e.symm, hS.re trivial, hF⟩
    · clear H
      clear hp0_0 hp0_1 hp0_2 hp0_3 h2 h33 hF
      clear hS
      rintro a w38 ⟨g38, hpre0, hS, hF⟩
      subst hpre0
      have H := Fl.go_nxt Hl41
      clear Hl41
      obtain ⟨r250, hr251, H⟩ := bind_el H
      refine c_region (fun K hK => ?_)
      refine st_enter hS rfl rfl rfl (r_call hS rfl rfl (by kernel_rfl)) (law27_awake.calls (g := g38) (N + 20)   hr251) ?_
      rintro _ a252 w253 ⟨g253, rfl, F253⟩ hS252
      replace hF := hF.trans F253 (fun c' (hm : N + 20 ≤ c') => by show N ≤ c'; omega)
      refine st_val hS252 rfl rfl rfl (r_assign hS252 rfl rfl) fun a254 hS254 => wpList_nil (hK _ _ ?_)
      replace hS : Sl 83 _ [(6, .bool r250)] := hS254.re ⟨rfl, trivial⟩
      clear hK K
      try clear hS252 hS254
      obtain ⟨a, ha⟩ : ∃ a', a' = a254 := ⟨_, rfl⟩
      rw [← ha] at hS ⊢; clear ha
      refine wp_ret ?_
      have e := Option.some.inj H
      subst e
      repeat (with_reducible first | refine then_ret ?_ | refine inBlock_ret ?_)
      exact c_ret1 hS Try.results6 rfl ⟨_, rfl, g253, rfl, hF⟩


end Go.Proofs.Ytfhhklkmbcnhnaa.Sim
