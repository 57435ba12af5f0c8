/-
  Printed by a program of this session (wip/tools): plain functions with the same answers as the Go functions, and the proofs of it.
-/
import Derived.Test.YtphgandhncmaoaaProg
import Derived.Test.YtphgandhncmaoaaR2
namespace Go.Proofs.Ytphgandhncmaoaa.Sim
open Go
set_option linter.unusedVariables false
set_option linter.unusedSimpArgs false

/-! ### ref24_Matrix: function 44 -/
def ref24_Matrix.l0 (p0 : Int) : Nat → (List (List Bool)) → Int → Option ((List (List Bool)))
  | 0, _, _ => none
  | k21 + 1, m0_0, m0_1 => if decide (m0_1 < p0) = true then ((mk p0 false).bind fun y29 => (idx m0_0 m0_1).bind fun x37 => ref24_Matrix.l0 p0 k21 (upd m0_0 m0_1 y29) (wi (m0_1 + 1))) else (some m0_0)
def ref24_Matrix.l1 (p1 : List api_Link) : Nat → (List (List Bool)) → Int → Option ((List (List Bool)))
  | 0, _, _ => none
  | k57 + 1, m1_0, m1_1 => if decide (m1_1 < (p1.length : Int)) = true then ((idx p1 m1_1).bind fun x63 => (idx m1_0 x63.Consumer).bind fun x65 => (idx x65 x63.Supplier).bind fun x69 => ref24_Matrix.l1 p1 k57 (upd m1_0 x63.Consumer (upd x65 x63.Supplier true)) (wi (m1_1 + 1))) else (some m1_0)
def ref24_Matrix.l4 (p0 : Int) (m2_1 : Int) (m3_1 : Int) : Nat → (List (List Bool)) → Int → Option ((List (List Bool)))
  | 0, _, _ => none
  | k134 + 1, m4_0, m4_1 => if decide (m4_1 < p0) = true then (((idx m4_0 m2_1).bind fun x145 => (idx x145 m4_1).bind fun x152 => if x152 = true then ((idx m4_0 m3_1).bind fun x159 => (idx x159 m4_1).bind fun x166 => some (upd m4_0 m3_1 (upd x159 m4_1 true))) else (some m4_0) : Option ((List (List Bool)))).bind fun v140 => ref24_Matrix.l4 p0 m2_1 m3_1 k134 v140 (wi (m4_1 + 1))) else (some m4_0)
def ref24_Matrix.l3 (p0 : Int) (m2_1 : Int) : Nat → (List (List Bool)) → Int → Option ((List (List Bool)))
  | 0, _, _ => none
  | k108 + 1, m3_0, m3_1 => if decide (m3_1 < p0) = true then (((idx m3_0 m3_1).bind fun x119 => (idx x119 m2_1).bind fun x126 => if (!x126) = true then (some m3_0) else (ref24_Matrix.l4 p0 m2_1 m3_1 FUEL m3_0 0) : Option ((List (List Bool)))).bind fun v114 => ref24_Matrix.l3 p0 m2_1 k108 v114 (wi (m3_1 + 1))) else (some m3_0)
def ref24_Matrix.l2 (p0 : Int) : Nat → (List (List Bool)) → Int → Option ((List (List Bool)))
  | 0, _, _ => none
  | k97 + 1, m2_0, m2_1 => if decide (m2_1 < p0) = true then ((ref24_Matrix.l3 p0 m2_1 FUEL m2_0 0 : Option ((List (List Bool)))).bind fun v103 => ref24_Matrix.l2 p0 k97 v103 (wi (m2_1 + 1))) else (some m2_0)
def ref24_Matrix.f (p0 : Int) (p1 : List api_Link) : Option ((List (List Bool))) := (mk p0 ([] : List Bool)).bind fun y3 => (ref24_Matrix.l0 p0 FUEL y3 0 : Option ((List (List Bool)))).bind fun v15 => (ref24_Matrix.l1 p1 FUEL v15 0 : Option ((List (List Bool)))).bind fun v52 => (ref24_Matrix.l2 p0 FUEL v52 0 : Option ((List (List Bool)))).bind fun v92 => some v92
set_option maxRecDepth 100000 in
set_option maxHeartbeats 4000000 in
theorem ref24_Matrix.calls {p0 : Int} {p1 : List api_Link} {A1 : Option Addr} {cap1 : Nat} {C1 : Nat → Prop} {w : World} {g : Nat → Nat} {out : (List (List Bool))} (N : Nat) (r0 : Nat) (hp1 : RdS kd_api_Link w g C1 A1 cap1 p1) (hC1 : ∀ c, C1 c → c < N) (hr0 : r0 + 2 ≤ N) (H : ref24_Matrix.f p0 p1 = some out) :
    Calls Try.prog 44 #[.int .i64 p0, .slice A1 p1.length cap1] w (fun e w' => ∃ v, e = .returned v ∧ ∃ (g' : Nat → Nat) (A_r0 : Option Addr) (cap_r0 : Nat), v = .slice A_r0 out.length cap_r0 ∧ OwS (kslice kbool (by decide)) 32 w' g' r0 A_r0 cap_r0 out ∧ Fr (fun q => (r0 ≤ q ∧ q < r0 + 2) ∨ N ≤ q) w g w' g') := by
  unfold ref24_Matrix.f at H
  refine calls_enter Try.func44 rfl Try.ntmps44 rfl (fun a hS => ?_)
  replace hS : Sl 80 a [(0, .int .i64 p0), (1, .slice A1 p1.length cap1)] := hS
  have hF : Fr (fun q => (r0 ≤ q ∧ q < r0 + 2) ∨ N ≤ q) w g w g := Fr.refl _ _ _
  refine c_pure [(0, .int .i64 p0), (1, .slice A1 p1.length cap1)] (fun R hR => st_val hS rfl rfl rfl (r_assign hS rfl rfl) fun a1 hS1 => wpList_nil (hR _ (hS1.re ⟨rfl, rfl, trivial⟩))) ?_
  clear hS
  clear a
  intro a hS
  obtain ⟨y3, hy4, H⟩ := bind_el H
  refine c_region (fun K hK => ?_)
  refine st_val hS rfl rfl rfl (r_move hS rfl rfl) fun a2 hS2 => ?_
  refine st_eff hS2 rfl rfl rfl (e_makeM kbool (e := 32) (sz := 1) (by_ := 24) (E := 4) (N + 0) g hS2 rfl rfl (by kernel_rfl) (by kernel_rfl) rfl rfl hy4) ?_
  rintro _ a10 w11 g11 ⟨⟨A5, cap6, hs7, rfl, h8⟩, F11⟩ hS10
  replace hp1 := RdS.fr hp1 F11 (by decide) (fun _ _ h => h)
  replace hF := hF.trans F11 (fun _ h => h.elim)
  refine st_val hS10 rfl rfl rfl (r_assign hS10 rfl rfl) fun a12 hS12 => wpList_nil (hK _ _ ?_)
  replace hS : Sl 80 _ [(0, .int .i64 p0), (1, .slice A1 p1.length cap1), (5, .slice A5 y3.length cap6)] := hS12.re ⟨rfl, rfl, rfl, trivial⟩
  clear hK K
  try clear hS2 hS10 hS12
  obtain ⟨a, ha⟩ : ∃ a', a' = a12 := ⟨_, rfl⟩
  rw [← ha] at hS ⊢; clear ha
  obtain ⟨v15, H, Hl17⟩ := bind_el H
  refine c_cut (fun a w13 => ∃ (g13 : Nat → Nat), ∃ (hs14 : List (Option Addr × Nat)), Sl 80 a [(0, .int .i64 p0), (1, .slice A1 p1.length cap1), (5, .slice A5 v15.length cap6)] ∧ OwM kbool 32 4 w13 g13 (N + 0) A5 cap6 hs14 v15 (fun _ => False) ∧ RdS kd_api_Link w13 g13 C1 A1 cap1 p1 ∧ Fr (fun q => (r0 ≤ q ∧ q < r0 + 2) ∨ N ≤ q) w g w13 g13) ?_ ?_
  · refine c_pure [(0, .int .i64 p0), (1, .slice A1 p1.length cap1), (5, .slice A5 y3.length cap6), (6, .int .i64 0)] (fun R hR => st_val hS rfl rfl rfl (r_assign hS rfl rfl) fun a18 hS18 => wpList_nil (hR _ (hS18.re ⟨rfl, rfl, rfl, rfl, trivial⟩))) ?_
    clear hS
    clear a
    intro a hS
    refine wp_block ?_
    refine wp_loop_ghost (fun kq => fun a w19 => ∃ (m0_0 : List (List Bool)), ∃ (m0_1 : Int), ∃ (g19 : Nat → Nat), ∃ (hs20 : List (Option Addr × Nat)), ref24_Matrix.l0 p0 kq m0_0 m0_1 = some v15 ∧ Sl 80 a [(0, .int .i64 p0), (1, .slice A1 p1.length cap1), (5, .slice A5 m0_0.length cap6), (6, .int .i64 m0_1)] ∧ OwM kbool 32 4 w19 g19 (N + 0) A5 cap6 hs20 m0_0 (fun _ => False) ∧ RdS kd_api_Link w19 g19 C1 A1 cap1 p1 ∧ Fr (fun q => (r0 ≤ q ∧ q < r0 + 2) ∨ N ≤ q) w g w19 g19) FUEL ?_ ?_
    · exact ⟨y3, 0, g11, hs7, H, hS.re ⟨rfl, rfl, rfl, rfl, trivial⟩, h8, hp1, hF⟩
    · clear H
      clear hp1 h8 hF
      clear hS
      rintro k21 a w19 ⟨m0_0, m0_1, g19, hs20, hpre0, hS, h8, hp1, hF⟩
      have H := hpre0
      clear hpre0
      cases k21 with
      | zero => exact absurd H (by simp [ref24_Matrix.l0])
      | succ k21 =>
        rw [ref24_Matrix.l0] at H
        refine wp_seq ?_
        refine c_pure [(0, .int .i64 p0), (1, .slice A1 p1.length cap1), (5, .slice A5 m0_0.length cap6), (6, .int .i64 m0_1), (15, .bool (decide (m0_1 < p0)))] (fun R hR => st_val hS rfl rfl rfl (r_move hS rfl rfl) fun a22 hS22 => st_val hS22 rfl rfl rfl (r_move hS22 rfl rfl) fun a23 hS23 => st_val hS23 rfl rfl rfl (r_bin hS23 rfl rfl rfl b_lss) fun a24 hS24 => wpList_nil (hR _ (hS24.re ⟨rfl, rfl, rfl, rfl, rfl, trivial⟩))) ?_
        clear hS
        clear a
        intro a hS
        refine c_cond hS rfl (fun hb25 => ?_) (fun hb25 => ?_)
        · replace H := ite_t hb25 H
          refine wp_skip ?_
          change Code.wp _ _ _ _ _
          refine wp_seq ?_
          refine wp_block ?_
          obtain ⟨y29, hy30, H⟩ := bind_el H
          obtain ⟨x37, hx38, H⟩ := bind_el H
          refine c_region1 (fun K hK => ?_)
          refine st_val hS rfl rfl rfl (r_move hS rfl rfl) fun a26 hS26 => st_val hS26 rfl rfl rfl (r_move hS26 rfl rfl) fun a27 hS27 => st_val hS27 rfl rfl rfl (r_move hS27 rfl rfl) fun a28 hS28 => ?_
          refine st_eff hS28 rfl rfl rfl (e_make (e := 4) (sz := 1) (by_ := 1) (z := [.bool false]) (kd := kbool) (N + 3) g19 hS28 rfl rfl (by kernel_rfl) (by kernel_rfl) rfl rfl rfl (fun _ _ _ => rfl) hy30) ?_
          rintro _ a35 w36 g36 ⟨⟨A31, cap32, rfl, h33⟩, F36⟩ hS35
          replace h8 := OwM.fr h8 F36 (fun h => h) (fun h => h) (fun h => h)
          replace hp1 := RdS.fr hp1 F36 (by decide) (fun _ _ h => h)
          replace hF := hF.trans F36 (fun _ h => h.elim)
          obtain ⟨h39, hh40⟩ := OwM.hd h8 hx38
          refine st_val hS35 rfl rfl rfl (r_index (e := 32) (sz := 1) (by_ := 24) hS35 rfl rfl rfl (by kernel_rfl) (OwM.some_ h8 hx38) (idx_lo hx38) (idx_hi hx38)) fun a41 hS41 => ?_
          obtain ⟨hN43, hm44, F45⟩ := OwM.take (fun _ _ _ _ _ _ _ _ h => h) h8 hx38 hh40 (N + 5) ⟨by omega, by omega⟩
          clear h8
          replace h33 := OwS.fr h33 F45 (fun c' hc (hm : c' = N + 0 + 1) => by omega)
          replace hp1 := RdS.fr hp1 F45 (by decide) (fun q (hq : C1 q) (hm : q = N + 0 + 1) => by have := hC1 q hq; omega)
          replace hF := hF.trans F45 (fun c' (hm : c' = N + 0 + 1) => by show (r0 ≤ c' ∧ c' < r0 + 2) ∨ N ≤ c'; omega)
          refine st_effS hS41 rfl rfl (e_storeM (k := kbool) (fun _ _ _ _ _ _ _ _ h => h) (dyeA g36 h39.1 (N + 5)) hS41 rfl rfl rfl rfl (by kernel_rfl) rfl hm44 hx38 hh40 h33 ⟨by omega, by omega⟩) ?_
          rintro a46 w47 g47 ⟨hm44, F47⟩ hS46
          replace hp1 := RdS.fr hp1 F47 (by decide) (fun q (hq : C1 q) (hm : q = N + 0 ∨ q = N + 3) => by have := hC1 q hq; omega)
          replace hF := hF.trans F47 (fun c' (hm : c' = N + 0 ∨ c' = N + 3) => by show (r0 ≤ c' ∧ c' < r0 + 2) ∨ N ≤ c'; omega)
          have hT : Sl 80 a46 [(0, .int .i64 p0), (1, .slice A1 p1.length cap1), (5, .slice A5 m0_0.length cap6), (6, .int .i64 m0_1)] := hS46.re ⟨rfl, rfl, rfl, rfl, trivial⟩
          replace hS46 : Sl 80 a46 [(0, .int .i64 p0), (1, .slice A1 p1.length cap1), (5, .slice A5 (upd m0_0 m0_1 y29).length cap6), (6, .int .i64 m0_1)] := by simpa only [upd_length] using hT
          clear hT
          refine wpList_nil (hK _ _ ?_)
          replace hS : Sl 80 _ [(0, .int .i64 p0), (1, .slice A1 p1.length cap1), (5, .slice A5 (upd m0_0 m0_1 y29).length cap6), (6, .int .i64 m0_1)] := hS46.re ⟨rfl, rfl, rfl, rfl, trivial⟩
          clear hK K
          try clear hS26 hS27 hS28 hS35 hS41 hS46
          obtain ⟨a, ha⟩ : ∃ a', a' = a46 := ⟨_, rfl⟩
          rw [← ha] at hS ⊢; clear ha
          change Code.wp _ _ _ _ _
          refine c_pure1 [(0, .int .i64 p0), (1, .slice A1 p1.length cap1), (5, .slice A5 (upd m0_0 m0_1 y29).length cap6), (6, .int .i64 (wi (m0_1 + 1)))] (fun R hR => st_val hS rfl rfl rfl (r_move hS rfl rfl) fun a48 hS48 => st_val hS48 rfl rfl rfl (r_bin hS48 rfl rfl rfl b_add) fun a49 hS49 => st_val hS49 rfl rfl rfl (r_assign hS49 rfl rfl) fun a50 hS50 => wpList_nil (hR _ (hS50.re ⟨rfl, rfl, rfl, rfl, trivial⟩))) ?_
          clear hS
          clear a
          intro a hS
          refine ⟨k21, Nat.lt_succ_self _, ?_⟩
          exact ⟨(upd m0_0 m0_1 y29), wi (m0_1 + 1), g47, (upd hs20 m0_1 (A31, cap32)), H, hS.re ⟨rfl, rfl, rfl, rfl, trivial⟩, hm44, hp1, hF⟩
        · replace H := ite_f hb25 H
          refine wp_exit ?_
          have e := Option.some.inj H
          subst e
          exact ⟨g19, hs20, hS.re ⟨rfl, rfl, rfl, trivial⟩, h8, hp1, hF⟩
  · clear H
    clear hp1 h8 hF
    clear hS
    rintro a w13 ⟨g13, hs14, hS, h8, hp1, hF⟩
    have H := Hl17
    clear Hl17
    obtain ⟨v52, H, Hl54⟩ := bind_el H
    refine c_cut (fun a w51 => ∃ (g51 : Nat → Nat), Sl 80 a [(0, .int .i64 p0), (5, .slice A5 v52.length cap6)] ∧ OwM kbool 32 4 w51 g51 (N + 0) A5 cap6 hs14 v52 (fun _ => False) ∧ Fr (fun q => (r0 ≤ q ∧ q < r0 + 2) ∨ N ≤ q) w g w51 g51) ?_ ?_
    · refine c_pure [(0, .int .i64 p0), (1, .slice A1 p1.length cap1), (5, .slice A5 v15.length cap6), (7, .int .i64 0)] (fun R hR => st_val hS rfl rfl rfl (r_assign hS rfl rfl) fun a55 hS55 => wpList_nil (hR _ (hS55.re ⟨rfl, rfl, rfl, rfl, trivial⟩))) ?_
      clear hS
      clear a
      intro a hS
      refine wp_block ?_
      refine wp_loop_ghost (fun kq => fun a w56 => ∃ (m1_0 : List (List Bool)), ∃ (m1_1 : Int), ∃ (g56 : Nat → Nat), ref24_Matrix.l1 p1 kq m1_0 m1_1 = some v52 ∧ Sl 80 a [(0, .int .i64 p0), (1, .slice A1 p1.length cap1), (5, .slice A5 m1_0.length cap6), (7, .int .i64 m1_1)] ∧ OwM kbool 32 4 w56 g56 (N + 0) A5 cap6 hs14 m1_0 (fun _ => False) ∧ RdS kd_api_Link w56 g56 C1 A1 cap1 p1 ∧ Fr (fun q => (r0 ≤ q ∧ q < r0 + 2) ∨ N ≤ q) w g w56 g56) FUEL ?_ ?_
      · exact ⟨v15, 0, g13, H, hS.re ⟨rfl, rfl, rfl, rfl, trivial⟩, h8, hp1, hF⟩
      · clear H
        clear hp1 h8 hF
        clear hS
        rintro k57 a w56 ⟨m1_0, m1_1, g56, hpre0, hS, h8, hp1, hF⟩
        have H := hpre0
        clear hpre0
        cases k57 with
        | zero => exact absurd H (by simp [ref24_Matrix.l1])
        | succ k57 =>
          rw [ref24_Matrix.l1] at H
          refine wp_seq ?_
          refine c_pure [(0, .int .i64 p0), (1, .slice A1 p1.length cap1), (5, .slice A5 m1_0.length cap6), (7, .int .i64 m1_1), (26, .bool (decide (m1_1 < (p1.length : Int))))] (fun R hR => st_val hS rfl rfl rfl (r_move hS rfl rfl) fun a58 hS58 => st_val hS58 rfl rfl rfl (r_move hS58 rfl rfl) fun a59 hS59 => st_val hS59 rfl rfl rfl (r_len (e := 34) (sz := 2) (by_ := 16) hS59 rfl rfl (by kernel_rfl)) fun a60 hS60 => st_val hS60 rfl rfl rfl (r_bin hS60 rfl rfl rfl b_lss) fun a61 hS61 => wpList_nil (hR _ (hS61.re ⟨rfl, rfl, rfl, rfl, rfl, trivial⟩))) ?_
          clear hS
          clear a
          intro a hS
          refine c_cond hS rfl (fun hb62 => ?_) (fun hb62 => ?_)
          · replace H := ite_t hb62 H
            refine wp_skip ?_
            change Code.wp _ _ _ _ _
            refine wp_seq ?_
            refine wp_block ?_
            obtain ⟨x63, hx64, H⟩ := bind_el H
            obtain ⟨x65, hx66, H⟩ := bind_el H
            obtain ⟨h67, hh68⟩ := OwM.hd h8 hx66
            obtain ⟨x69, hx70, H⟩ := bind_el H
            refine c_draw1 (fun K hK => d_start (fun q => False) g56 [14] 15 #[false, false, false, false, false, false, false, false, false, false, false, false, false, false, false] (by kernel_rfl) rfl rfl (fun w71 hw71 => ?_))
            have F71 : Fr (fun _ => False) w56 g56 w71 g56 := by rw [hw71]; exact Fr.drew _ _ _
            replace h8 := OwM.fr h8 F71 (fun h => h) (fun h => h) (fun h => h)
            replace hp1 := RdS.fr hp1 F71 (by decide) (fun _ _ h => h)
            replace hF := hF.trans F71 (fun _ h => h.elim)
            have hC : Fr (fun q => False) w71 g56 w71 g56 := Fr.refl _ _ _
            refine d_pure hS 0 #[true, false, false, false, false, false, false, false, false, false, false, false, false, false, false] rfl rfl rfl rfl (by kernel_rfl) (fun _ _ _ h => h) (fun _ => (r_move hS rfl rfl)) fun a72 hS72 => d_pure hS72 1 #[true, true, false, false, false, false, false, false, false, false, false, false, false, false, false] rfl rfl rfl rfl (by kernel_rfl) (fun _ _ _ h => h) (fun _ => (r_move hS72 rfl rfl)) fun a73 hS73 => d_pure hS73 2 #[true, true, true, false, false, false, false, false, false, false, false, false, false, false, false] rfl rfl rfl rfl (by kernel_rfl) (fun _ _ _ h => h) (fun _ => (r_move hS73 rfl rfl)) fun a74 hS74 => d_pure hS74 3 #[true, true, true, true, false, false, false, false, false, false, false, false, false, false, false] rfl rfl rfl rfl (by kernel_rfl) (fun _ _ _ h => h) (fun _ => (r_index (e := 34) (sz := 2) (by_ := 16) hS74 rfl rfl rfl (by kernel_rfl) (RdS.some_ hp1 hx64) (idx_lo hx64) (idx_hi hx64))) fun a75 hS75 => d_pure hS75 4 #[true, true, true, true, true, false, false, false, false, false, false, false, false, false, false] rfl rfl rfl rfl (by kernel_rfl) (fun _ _ _ h => h) (fun _ => (r_fieldE (off := 0) hS75 rfl rfl (by kernel_rfl))) fun a76 hS76 => d_take hS76 5 #[true, true, true, true, true, true, false, false, false, false, false, false, false, false, false] rfl rfl rfl rfl (by kernel_rfl) (fun _ _ _ h => h) ⟨_, hC⟩ (fun w' g' Fz => (r_load1 (n := 1) hS76 rfl rfl (by kernel_rfl) (RdS.cell (i := m1_1) (sz := 2) (j := 0) (RdS.fr hp1 Fz (by decide) (fun _ _ h => h)) hx64 rfl))) fun a77 hS77 => d_pure hS77 6 #[true, true, true, true, true, true, true, false, false, false, false, false, false, false, false] rfl rfl rfl rfl (by kernel_rfl) (fun _ _ _ h => h) (fun _ => (r_index (e := 32) (sz := 1) (by_ := 24) hS77 rfl rfl rfl (by kernel_rfl) (OwM.some_ h8 hx66) (idx_lo hx66) (idx_hi hx66))) fun a78 hS78 => d_take hS78 7 #[true, true, true, true, true, true, true, true, false, false, false, false, false, false, false] rfl rfl rfl rfl (by kernel_rfl) (fun _ _ _ h => h) ⟨_, hC⟩ (fun w' g' Fz => (r_load1 (n := 1) hS78 rfl rfl (by kernel_rfl) (OwM.cell (OwM.fr h8 Fz (fun h => h) (fun h => h) (fun h => h)) hx66 hh68))) fun a79 hS79 => d_pure hS79 8 #[true, true, true, true, true, true, true, true, true, false, false, false, false, false, false] rfl rfl rfl rfl (by kernel_rfl) (fun _ _ _ h => h) (fun _ => (r_move hS79 rfl rfl)) fun a80 hS80 => d_pure hS80 9 #[true, true, true, true, true, true, true, true, true, true, false, false, false, false, false] rfl rfl rfl rfl (by kernel_rfl) (fun _ _ _ h => h) (fun _ => (r_move hS80 rfl rfl)) fun a81 hS81 => d_pure hS81 10 #[true, true, true, true, true, true, true, true, true, true, true, false, false, false, false] rfl rfl rfl rfl (by kernel_rfl) (fun _ _ _ h => h) (fun _ => (r_index (e := 34) (sz := 2) (by_ := 16) hS81 rfl rfl rfl (by kernel_rfl) (RdS.some_ hp1 hx64) (idx_lo hx64) (idx_hi hx64))) fun a82 hS82 => d_pure hS82 11 #[true, true, true, true, true, true, true, true, true, true, true, true, false, false, false] rfl rfl rfl rfl (by kernel_rfl) (fun _ _ _ h => h) (fun _ => (r_fieldE (off := 1) hS82 rfl rfl (by kernel_rfl))) fun a83 hS83 => d_take hS83 12 #[true, true, true, true, true, true, true, true, true, true, true, true, true, false, false] rfl rfl rfl rfl (by kernel_rfl) (fun _ _ _ h => h) ⟨_, hC⟩ (fun w' g' Fz => (r_load1 (n := 1) hS83 rfl rfl (by kernel_rfl) (RdS.cell (i := m1_1) (sz := 2) (j := 1) (RdS.fr hp1 Fz (by decide) (fun _ _ h => h)) hx64 rfl))) fun a84 hS84 => d_pure hS84 13 #[true, true, true, true, true, true, true, true, true, true, true, true, true, true, false] rfl rfl rfl rfl (by kernel_rfl) (fun _ _ _ h => h) (fun _ => (r_index (e := 4) (sz := 1) (by_ := 1) hS84 rfl rfl rfl (by kernel_rfl) (RdS.some_ (OwD.rd (OwM.row h8 hx66 hh68)) hx70) (idx_lo hx70) (idx_hi hx70))) fun a85 hS85 => ?_
            refine d_one 14 #[true, true, true, true, true, true, true, true, true, true, true, true, true, true, true] rfl (by kernel_rfl) (arm_effS hS85 rfl rfl (e_storeMM (n := 1) (bb := false) (k := kbool) (y' := true) (us := [.bool true]) (fun _ _ _ _ _ _ _ _ h => h) g56 hS85 rfl rfl rfl rfl (by kernel_rfl) rfl rfl h8 hx66 hh68 hx70 (fun _ _ _ => rfl)) (.inl (by decide)) ?_)
            rintro a86 w87 g87 ⟨h8, F87⟩ hS86
            replace hp1 := RdS.fr hp1 F87 (by decide) (fun q (hq : C1 q) (hm : q = N + 0 + 1) => by have := hC1 q hq; omega)
            replace hF := hF.trans F87 (fun c' (hm : c' = N + 0 + 1) => by show (r0 ≤ c' ∧ c' < r0 + 2) ∨ N ≤ c'; omega)
            have hT : Sl 80 a86 [(0, .int .i64 p0), (1, .slice A1 p1.length cap1), (5, .slice A5 m1_0.length cap6), (7, .int .i64 m1_1)] := hS86.re ⟨rfl, rfl, rfl, rfl, trivial⟩
            replace hS86 : Sl 80 a86 [(0, .int .i64 p0), (1, .slice A1 p1.length cap1), (5, .slice A5 (upd m1_0 x63.Consumer (upd x65 x63.Supplier true)).length cap6), (7, .int .i64 m1_1)] := by simpa only [upd_length] using hT
            clear hT
            refine d_done (by kernel_rfl) (hK _ _ ?_)
            replace hS : Sl 80 _ [(0, .int .i64 p0), (1, .slice A1 p1.length cap1), (5, .slice A5 (upd m1_0 x63.Consumer (upd x65 x63.Supplier true)).length cap6), (7, .int .i64 m1_1)] := hS86.re ⟨rfl, rfl, rfl, rfl, trivial⟩
            clear hK K hC
            try clear hS72 hS73 hS74 hS75 hS76 hS77 hS78 hS79 hS80 hS81 hS82 hS83 hS84 hS85 hS86
            obtain ⟨a, ha⟩ : ∃ a', a' = a86 := ⟨_, rfl⟩
            rw [← ha] at hS ⊢; clear ha
            change Code.wp _ _ _ _ _
            refine c_pure1 [(0, .int .i64 p0), (1, .slice A1 p1.length cap1), (5, .slice A5 (upd m1_0 x63.Consumer (upd x65 x63.Supplier true)).length cap6), (7, .int .i64 (wi (m1_1 + 1)))] (fun R hR => st_val hS rfl rfl rfl (r_move hS rfl rfl) fun a88 hS88 => st_val hS88 rfl rfl rfl (r_bin hS88 rfl rfl rfl b_add) fun a89 hS89 => st_val hS89 rfl rfl rfl (r_assign hS89 rfl rfl) fun a90 hS90 => wpList_nil (hR _ (hS90.re ⟨rfl, rfl, rfl, rfl, trivial⟩))) ?_
            clear hS
            clear a
            intro a hS
            refine ⟨k57, Nat.lt_succ_self _, ?_⟩
            exact ⟨(upd m1_0 x63.Consumer (upd x65 x63.Supplier true)), wi (m1_1 + 1), g87, H, hS.re ⟨rfl, rfl, rfl, rfl, trivial⟩, h8, hp1, hF⟩
          · replace H := ite_f hb62 H
            refine wp_exit ?_
            have e := Option.some.inj H
            subst e
            exact ⟨g56, hS.re ⟨rfl, rfl, trivial⟩, h8, hF⟩
    · clear H
      clear hp1 h8 hF
      clear hS
      rintro a w51 ⟨g51, hS, h8, hF⟩
      have H := Hl54
      clear Hl54
      obtain ⟨v92, H, Hl94⟩ := bind_el H
      refine c_cut (fun a w91 => ∃ (g91 : Nat → Nat), Sl 80 a [(5, .slice A5 v92.length cap6)] ∧ OwM kbool 32 4 w91 g91 (N + 0) A5 cap6 hs14 v92 (fun _ => False) ∧ Fr (fun q => (r0 ≤ q ∧ q < r0 + 2) ∨ N ≤ q) w g w91 g91) ?_ ?_
      · refine c_pure [(0, .int .i64 p0), (5, .slice A5 v52.length cap6), (8, .int .i64 0)] (fun R hR => st_val hS rfl rfl rfl (r_assign hS rfl rfl) fun a95 hS95 => wpList_nil (hR _ (hS95.re ⟨rfl, rfl, rfl, trivial⟩))) ?_
        clear hS
        clear a
        intro a hS
        refine wp_block ?_
        refine wp_loop_ghost (fun kq => fun a w96 => ∃ (m2_0 : List (List Bool)), ∃ (m2_1 : Int), ∃ (g96 : Nat → Nat), ref24_Matrix.l2 p0 kq m2_0 m2_1 = some v92 ∧ Sl 80 a [(0, .int .i64 p0), (5, .slice A5 m2_0.length cap6), (8, .int .i64 m2_1)] ∧ OwM kbool 32 4 w96 g96 (N + 0) A5 cap6 hs14 m2_0 (fun _ => False) ∧ Fr (fun q => (r0 ≤ q ∧ q < r0 + 2) ∨ N ≤ q) w g w96 g96) FUEL ?_ ?_
        · exact ⟨v52, 0, g51, H, hS.re ⟨rfl, rfl, rfl, trivial⟩, h8, hF⟩
        · clear H
          clear h8 hF
          clear hS
          rintro k97 a w96 ⟨m2_0, m2_1, g96, hpre0, hS, h8, hF⟩
          have H := hpre0
          clear hpre0
          cases k97 with
          | zero => exact absurd H (by simp [ref24_Matrix.l2])
          | succ k97 =>
            rw [ref24_Matrix.l2] at H
            refine wp_seq ?_
            refine c_pure [(0, .int .i64 p0), (5, .slice A5 m2_0.length cap6), (8, .int .i64 m2_1), (45, .bool (decide (m2_1 < p0)))] (fun R hR => st_val hS rfl rfl rfl (r_move hS rfl rfl) fun a98 hS98 => st_val hS98 rfl rfl rfl (r_move hS98 rfl rfl) fun a99 hS99 => st_val hS99 rfl rfl rfl (r_bin hS99 rfl rfl rfl b_lss) fun a100 hS100 => wpList_nil (hR _ (hS100.re ⟨rfl, rfl, rfl, rfl, trivial⟩))) ?_
            clear hS
            clear a
            intro a hS
            refine c_cond hS rfl (fun hb101 => ?_) (fun hb101 => ?_)
            · replace H := ite_t hb101 H
              refine wp_skip ?_
              change Code.wp _ _ _ _ _
              obtain ⟨v103, H, Hl105⟩ := bind_el H
              refine c_cut (fun a w102 => ∃ (g102 : Nat → Nat), Sl 80 a [(0, .int .i64 p0), (5, .slice A5 v103.length cap6), (8, .int .i64 m2_1)] ∧ OwM kbool 32 4 w102 g102 (N + 0) A5 cap6 hs14 v103 (fun _ => False) ∧ Fr (fun q => (r0 ≤ q ∧ q < r0 + 2) ∨ N ≤ q) w g w102 g102) ?_ ?_
              · refine wp_block ?_
                refine c_pure [(0, .int .i64 p0), (5, .slice A5 m2_0.length cap6), (8, .int .i64 m2_1), (9, .int .i64 0)] (fun R hR => st_val hS rfl rfl rfl (r_assign hS rfl rfl) fun a106 hS106 => wpList_nil (hR _ (hS106.re ⟨rfl, rfl, rfl, rfl, trivial⟩))) ?_
                clear hS
                clear a
                intro a hS
                refine wp_block ?_
                refine wp_loop_ghost (fun kq => fun a w107 => ∃ (m3_0 : List (List Bool)), ∃ (m3_1 : Int), ∃ (g107 : Nat → Nat), ref24_Matrix.l3 p0 m2_1 kq m3_0 m3_1 = some v103 ∧ Sl 80 a [(0, .int .i64 p0), (5, .slice A5 m3_0.length cap6), (8, .int .i64 m2_1), (9, .int .i64 m3_1)] ∧ OwM kbool 32 4 w107 g107 (N + 0) A5 cap6 hs14 m3_0 (fun _ => False) ∧ Fr (fun q => (r0 ≤ q ∧ q < r0 + 2) ∨ N ≤ q) w g w107 g107) FUEL ?_ ?_
                · exact ⟨m2_0, 0, g96, H, hS.re ⟨rfl, rfl, rfl, rfl, trivial⟩, h8, hF⟩
                · clear H
                  clear h8 hF
                  clear hS
                  rintro k108 a w107 ⟨m3_0, m3_1, g107, hpre0, hS, h8, hF⟩
                  have H := hpre0
                  clear hpre0
                  cases k108 with
                  | zero => exact absurd H (by simp [ref24_Matrix.l3])
                  | succ k108 =>
                    rw [ref24_Matrix.l3] at H
                    refine wp_seq ?_
                    refine c_pure [(0, .int .i64 p0), (5, .slice A5 m3_0.length cap6), (8, .int .i64 m2_1), (9, .int .i64 m3_1), (50, .bool (decide (m3_1 < p0)))] (fun R hR => st_val hS rfl rfl rfl (r_move hS rfl rfl) fun a109 hS109 => st_val hS109 rfl rfl rfl (r_move hS109 rfl rfl) fun a110 hS110 => st_val hS110 rfl rfl rfl (r_bin hS110 rfl rfl rfl b_lss) fun a111 hS111 => wpList_nil (hR _ (hS111.re ⟨rfl, rfl, rfl, rfl, rfl, trivial⟩))) ?_
                    clear hS
                    clear a
                    intro a hS
                    refine c_cond hS rfl (fun hb112 => ?_) (fun hb112 => ?_)
                    · replace H := ite_t hb112 H
                      refine wp_skip ?_
                      change Code.wp _ _ _ _ _
                      obtain ⟨v114, H, Hl116⟩ := bind_el H
                      refine c_cut (fun a w113 => ∃ (g113 : Nat → Nat), Sl 80 a [(0, .int .i64 p0), (5, .slice A5 v114.length cap6), (8, .int .i64 m2_1), (9, .int .i64 m3_1)] ∧ OwM kbool 32 4 w113 g113 (N + 0) A5 cap6 hs14 v114 (fun _ => False) ∧ Fr (fun q => (r0 ≤ q ∧ q < r0 + 2) ∨ N ≤ q) w g w113 g113) ?_ ?_
                      · refine wp_block ?_
                        refine wp_seq ?_
                        obtain ⟨x119, hx120, H⟩ := bind_el H
                        obtain ⟨x126, hx127, H⟩ := bind_el H
                        refine c_region (fun K hK => ?_)
                        refine st_val hS rfl rfl rfl (r_move hS rfl rfl) fun a117 hS117 => st_val hS117 rfl rfl rfl (r_move hS117 rfl rfl) fun a118 hS118 => ?_
                        obtain ⟨h121, hh122⟩ := OwM.hd h8 hx120
                        refine st_val hS118 rfl rfl rfl (r_index (e := 32) (sz := 1) (by_ := 24) hS118 rfl rfl rfl (by kernel_rfl) (OwM.some_ h8 hx120) (idx_lo hx120) (idx_hi hx120)) fun a123 hS123 => st_val hS123 rfl rfl rfl (r_load1 (n := 1) hS123 rfl rfl (by kernel_rfl) (OwM.cell h8 hx120 hh122)) fun a124 hS124 => st_val hS124 rfl rfl rfl (r_move hS124 rfl rfl) fun a125 hS125 => st_val hS125 rfl rfl rfl (r_index (e := 4) (sz := 1) (by_ := 1) hS125 rfl rfl rfl (by kernel_rfl) (RdS.some_ (OwD.rd (OwM.row h8 hx120 hh122)) hx127) (idx_lo hx127) (idx_hi hx127)) fun a128 hS128 => st_val hS128 rfl rfl rfl (r_load1 (n := 1) hS128 rfl rfl (by kernel_rfl) (RdS.cell (i := m2_1) (sz := 1) (j := 0) (OwD.rd (OwM.row h8 hx120 hh122)) hx127 rfl)) fun a129 hS129 => st_val hS129 rfl rfl rfl (r_not hS129 rfl rfl) fun a130 hS130 => wpList_nil (hK _ _ ?_)
                        replace hS : Sl 80 _ [(0, .int .i64 p0), (5, .slice A5 m3_0.length cap6), (8, .int .i64 m2_1), (9, .int .i64 m3_1), (60, .bool (!x126))] := hS130.re ⟨rfl, rfl, rfl, rfl, rfl, trivial⟩
                        clear hK K
                        try clear hS117 hS118 hS123 hS124 hS125 hS128 hS129 hS130
                        obtain ⟨a, ha⟩ : ∃ a', a' = a130 := ⟨_, rfl⟩
                        rw [← ha] at hS ⊢; clear ha
                        refine c_cond hS rfl (fun hb131 => ?_) (fun hb131 => ?_)
                        · replace H := ite_t hb131 H
                          refine wp_exit ?_
                          have e := Option.some.inj H
                          subst e
                          exact ⟨g107, hS.re ⟨rfl, rfl, rfl, rfl, trivial⟩, h8, hF⟩
                        · replace H := ite_f hb131 H
                          refine wp_skip ?_
                          change Code.wp _ _ _ _ _
                          refine c_pure [(0, .int .i64 p0), (5, .slice A5 m3_0.length cap6), (8, .int .i64 m2_1), (9, .int .i64 m3_1), (10, .int .i64 0)] (fun R hR => st_val hS rfl rfl rfl (r_assign hS rfl rfl) fun a132 hS132 => wpList_nil (hR _ (hS132.re ⟨rfl, rfl, rfl, rfl, rfl, trivial⟩))) ?_
                          clear hS
                          clear a
                          intro a hS
                          refine wp_block ?_
                          refine wp_loop_ghost (fun kq => fun a w133 => ∃ (m4_0 : List (List Bool)), ∃ (m4_1 : Int), ∃ (g133 : Nat → Nat), ref24_Matrix.l4 p0 m2_1 m3_1 kq m4_0 m4_1 = some v114 ∧ Sl 80 a [(0, .int .i64 p0), (5, .slice A5 m4_0.length cap6), (8, .int .i64 m2_1), (9, .int .i64 m3_1), (10, .int .i64 m4_1)] ∧ OwM kbool 32 4 w133 g133 (N + 0) A5 cap6 hs14 m4_0 (fun _ => False) ∧ Fr (fun q => (r0 ≤ q ∧ q < r0 + 2) ∨ N ≤ q) w g w133 g133) FUEL ?_ ?_
                          · exact ⟨m3_0, 0, g107, H, hS.re ⟨rfl, rfl, rfl, rfl, rfl, trivial⟩, h8, hF⟩
                          · clear H
                            clear h8 hF
                            clear hS
                            rintro k134 a w133 ⟨m4_0, m4_1, g133, hpre0, hS, h8, hF⟩
                            have H := hpre0
                            clear hpre0
                            cases k134 with
                            | zero => exact absurd H (by simp [ref24_Matrix.l4])
                            | succ k134 =>
                              rw [ref24_Matrix.l4] at H
                              refine wp_seq ?_
                              refine c_pure [(0, .int .i64 p0), (5, .slice A5 m4_0.length cap6), (8, .int .i64 m2_1), (9, .int .i64 m3_1), (10, .int .i64 m4_1), (63, .bool (decide (m4_1 < p0)))] (fun R hR => st_val hS rfl rfl rfl (r_move hS rfl rfl) fun a135 hS135 => st_val hS135 rfl rfl rfl (r_move hS135 rfl rfl) fun a136 hS136 => st_val hS136 rfl rfl rfl (r_bin hS136 rfl rfl rfl b_lss) fun a137 hS137 => wpList_nil (hR _ (hS137.re ⟨rfl, rfl, rfl, rfl, rfl, rfl, trivial⟩))) ?_
                              clear hS
                              clear a
                              intro a hS
                              refine c_cond hS rfl (fun hb138 => ?_) (fun hb138 => ?_)
                              · replace H := ite_t hb138 H
                                refine wp_skip ?_
                                change Code.wp _ _ _ _ _
                                obtain ⟨v140, H, Hl142⟩ := bind_el H
                                refine c_cut (fun a w139 => ∃ (g139 : Nat → Nat), Sl 80 a [(0, .int .i64 p0), (5, .slice A5 v140.length cap6), (8, .int .i64 m2_1), (9, .int .i64 m3_1), (10, .int .i64 m4_1)] ∧ OwM kbool 32 4 w139 g139 (N + 0) A5 cap6 hs14 v140 (fun _ => False) ∧ Fr (fun q => (r0 ≤ q ∧ q < r0 + 2) ∨ N ≤ q) w g w139 g139) ?_ ?_
                                · refine wp_block ?_
                                  obtain ⟨x145, hx146, H⟩ := bind_el H
                                  obtain ⟨x152, hx153, H⟩ := bind_el H
                                  refine c_region (fun K hK => ?_)
                                  refine st_val hS rfl rfl rfl (r_move hS rfl rfl) fun a143 hS143 => st_val hS143 rfl rfl rfl (r_move hS143 rfl rfl) fun a144 hS144 => ?_
                                  obtain ⟨h147, hh148⟩ := OwM.hd h8 hx146
                                  refine st_val hS144 rfl rfl rfl (r_index (e := 32) (sz := 1) (by_ := 24) hS144 rfl rfl rfl (by kernel_rfl) (OwM.some_ h8 hx146) (idx_lo hx146) (idx_hi hx146)) fun a149 hS149 => st_val hS149 rfl rfl rfl (r_load1 (n := 1) hS149 rfl rfl (by kernel_rfl) (OwM.cell h8 hx146 hh148)) fun a150 hS150 => st_val hS150 rfl rfl rfl (r_move hS150 rfl rfl) fun a151 hS151 => st_val hS151 rfl rfl rfl (r_index (e := 4) (sz := 1) (by_ := 1) hS151 rfl rfl rfl (by kernel_rfl) (RdS.some_ (OwD.rd (OwM.row h8 hx146 hh148)) hx153) (idx_lo hx153) (idx_hi hx153)) fun a154 hS154 => st_val hS154 rfl rfl rfl (r_load1 (n := 1) hS154 rfl rfl (by kernel_rfl) (RdS.cell (i := m4_1) (sz := 1) (j := 0) (OwD.rd (OwM.row h8 hx146 hh148)) hx153 rfl)) fun a155 hS155 => wpList_nil (hK _ _ ?_)
                                  replace hS : Sl 80 _ [(0, .int .i64 p0), (5, .slice A5 m4_0.length cap6), (8, .int .i64 m2_1), (9, .int .i64 m3_1), (10, .int .i64 m4_1), (72, .bool x152)] := hS155.re ⟨rfl, rfl, rfl, rfl, rfl, rfl, trivial⟩
                                  clear hK K
                                  try clear hS143 hS144 hS149 hS150 hS151 hS154 hS155
                                  obtain ⟨a, ha⟩ : ∃ a', a' = a155 := ⟨_, rfl⟩
                                  rw [← ha] at hS ⊢; clear ha
                                  refine c_cond hS rfl (fun hb156 => ?_) (fun hb156 => ?_)
                                  · replace H := ite_t hb156 H
                                    obtain ⟨x159, hx160, H⟩ := bind_el H
                                    obtain ⟨x166, hx167, H⟩ := bind_el H
                                    refine c_region1 (fun K hK => ?_)
                                    refine st_val hS rfl rfl rfl (r_move hS rfl rfl) fun a157 hS157 => st_val hS157 rfl rfl rfl (r_move hS157 rfl rfl) fun a158 hS158 => ?_
                                    obtain ⟨h161, hh162⟩ := OwM.hd h8 hx160
                                    refine st_val hS158 rfl rfl rfl (r_index (e := 32) (sz := 1) (by_ := 24) hS158 rfl rfl rfl (by kernel_rfl) (OwM.some_ h8 hx160) (idx_lo hx160) (idx_hi hx160)) fun a163 hS163 => st_val hS163 rfl rfl rfl (r_load1 (n := 1) hS163 rfl rfl (by kernel_rfl) (OwM.cell h8 hx160 hh162)) fun a164 hS164 => st_val hS164 rfl rfl rfl (r_move hS164 rfl rfl) fun a165 hS165 => st_val hS165 rfl rfl rfl (r_index (e := 4) (sz := 1) (by_ := 1) hS165 rfl rfl rfl (by kernel_rfl) (RdS.some_ (OwD.rd (OwM.row h8 hx160 hh162)) hx167) (idx_lo hx167) (idx_hi hx167)) fun a168 hS168 => ?_
                                    refine st_effS hS168 rfl rfl (e_storeMM (n := 1) (bb := false) (k := kbool) (y' := true) (us := [.bool true]) (fun _ _ _ _ _ _ _ _ h => h) g133 hS168 rfl rfl rfl rfl (by kernel_rfl) rfl rfl h8 hx160 hh162 hx167 (fun _ _ _ => rfl)) ?_
                                    rintro a169 w170 g170 ⟨h8, F170⟩ hS169
                                    replace hF := hF.trans F170 (fun c' (hm : c' = N + 0 + 1) => by show (r0 ≤ c' ∧ c' < r0 + 2) ∨ N ≤ c'; omega)
                                    have hT : Sl 80 a169 [(0, .int .i64 p0), (5, .slice A5 m4_0.length cap6), (8, .int .i64 m2_1), (9, .int .i64 m3_1), (10, .int .i64 m4_1)] := hS169.re ⟨rfl, rfl, rfl, rfl, rfl, trivial⟩
                                    replace hS169 : Sl 80 a169 [(0, .int .i64 p0), (5, .slice A5 (upd m4_0 m3_1 (upd x159 m4_1 true)).length cap6), (8, .int .i64 m2_1), (9, .int .i64 m3_1), (10, .int .i64 m4_1)] := by simpa only [upd_length] using hT
                                    clear hT
                                    refine wpList_nil (hK _ _ ?_)
                                    replace hS : Sl 80 _ [(0, .int .i64 p0), (5, .slice A5 (upd m4_0 m3_1 (upd x159 m4_1 true)).length cap6), (8, .int .i64 m2_1), (9, .int .i64 m3_1), (10, .int .i64 m4_1)] := hS169.re ⟨rfl, rfl, rfl, rfl, rfl, trivial⟩
                                    clear hK K
                                    try clear hS157 hS158 hS163 hS164 hS165 hS168 hS169
                                    obtain ⟨a, ha⟩ : ∃ a', a' = a169 := ⟨_, rfl⟩
                                    rw [← ha] at hS ⊢; clear ha
                                    have e := Option.some.inj H
                                    subst e
                                    exact ⟨g170, hS.re ⟨rfl, rfl, rfl, rfl, rfl, trivial⟩, h8, hF⟩
                                  · replace H := ite_f hb156 H
                                    refine wp_skip ?_
                                    have e := Option.some.inj H
                                    subst e
                                    exact ⟨g133, hS.re ⟨rfl, rfl, rfl, rfl, rfl, trivial⟩, h8, hF⟩
                                · clear H
                                  clear h8 hF
                                  clear hS
                                  rintro a w139 ⟨g139, hS, h8, hF⟩
                                  have H := Hl142
                                  clear Hl142
                                  refine c_pure1 [(0, .int .i64 p0), (5, .slice A5 v140.length cap6), (8, .int .i64 m2_1), (9, .int .i64 m3_1), (10, .int .i64 (wi (m4_1 + 1)))] (fun R hR => st_val hS rfl rfl rfl (r_move hS rfl rfl) fun a171 hS171 => st_val hS171 rfl rfl rfl (r_bin hS171 rfl rfl rfl b_add) fun a172 hS172 => st_val hS172 rfl rfl rfl (r_assign hS172 rfl rfl) fun a173 hS173 => wpList_nil (hR _ (hS173.re ⟨rfl, rfl, rfl, rfl, rfl, trivial⟩))) ?_
                                  clear hS
                                  clear a
                                  intro a hS
                                  refine ⟨k134, Nat.lt_succ_self _, ?_⟩
                                  exact ⟨v140, wi (m4_1 + 1), g139, H, hS.re ⟨rfl, rfl, rfl, rfl, rfl, trivial⟩, h8, hF⟩
                              · replace H := ite_f hb138 H
                                refine wp_exit ?_
                                have e := Option.some.inj H
                                subst e
                                exact ⟨g133, hS.re ⟨rfl, rfl, rfl, rfl, trivial⟩, h8, hF⟩
                      · clear H
                        clear h8 hF
                        clear hS
                        rintro a w113 ⟨g113, hS, h8, hF⟩
                        have H := Hl116
                        clear Hl116
                        refine c_pure1 [(0, .int .i64 p0), (5, .slice A5 v114.length cap6), (8, .int .i64 m2_1), (9, .int .i64 (wi (m3_1 + 1)))] (fun R hR => st_val hS rfl rfl rfl (r_move hS rfl rfl) fun a174 hS174 => st_val hS174 rfl rfl rfl (r_bin hS174 rfl rfl rfl b_add) fun a175 hS175 => st_val hS175 rfl rfl rfl (r_assign hS175 rfl rfl) fun a176 hS176 => wpList_nil (hR _ (hS176.re ⟨rfl, rfl, rfl, rfl, trivial⟩))) ?_
                        clear hS
                        clear a
                        intro a hS
                        refine ⟨k108, Nat.lt_succ_self _, ?_⟩
                        exact ⟨v114, wi (m3_1 + 1), g113, H, hS.re ⟨rfl, rfl, rfl, rfl, trivial⟩, h8, hF⟩
                    · replace H := ite_f hb112 H
                      refine wp_exit ?_
                      have e := Option.some.inj H
                      subst e
                      exact ⟨g107, hS.re ⟨rfl, rfl, rfl, trivial⟩, h8, hF⟩
              · clear H
                clear h8 hF
                clear hS
                rintro a w102 ⟨g102, hS, h8, hF⟩
                have H := Hl105
                clear Hl105
                refine c_pure1 [(0, .int .i64 p0), (5, .slice A5 v103.length cap6), (8, .int .i64 (wi (m2_1 + 1)))] (fun R hR => st_val hS rfl rfl rfl (r_move hS rfl rfl) fun a177 hS177 => st_val hS177 rfl rfl rfl (r_bin hS177 rfl rfl rfl b_add) fun a178 hS178 => st_val hS178 rfl rfl rfl (r_assign hS178 rfl rfl) fun a179 hS179 => wpList_nil (hR _ (hS179.re ⟨rfl, rfl, rfl, trivial⟩))) ?_
                clear hS
                clear a
                intro a hS
                refine ⟨k97, Nat.lt_succ_self _, ?_⟩
                exact ⟨v103, wi (m2_1 + 1), g102, H, hS.re ⟨rfl, rfl, rfl, trivial⟩, h8, hF⟩
            · replace H := ite_f hb101 H
              refine wp_exit ?_
              have e := Option.some.inj H
              subst e
              exact ⟨g96, hS.re ⟨rfl, trivial⟩, h8, hF⟩
      · clear H
        clear h8 hF
        clear hS
        rintro a w91 ⟨g91, hS, h8, hF⟩
        have H := Hl94
        clear Hl94
        refine c_pure [(4, .slice A5 v92.length cap6)] (fun R hR => st_val hS rfl rfl rfl (r_move hS rfl rfl) fun a180 hS180 => st_val hS180 rfl rfl rfl (r_assign hS180 rfl rfl) fun a181 hS181 => wpList_nil (hR _ (hS181.re ⟨rfl, trivial⟩))) ?_
        clear hS
        clear a
        intro a hS
        refine wp_ret ?_
        have e := Option.some.inj H
        subst e
        have h182 := OwM.toS (fun _ _ _ _ _ _ _ _ h => h) (by decide) h8
        have F183 := Fr.recol2 w91 g91 (N + 0) r0
        replace h182 := h182.recol2 r0
        replace hF := hF.trans F183 (fun c' (hm : c' = N + 0 ∨ c' = N + 0 + 1) => by show (r0 ≤ c' ∧ c' < r0 + 2) ∨ N ≤ c'; omega)
        repeat (with_reducible first | refine then_ret ?_ | refine inBlock_ret ?_)
        exact c_ret1 hS Try.results44 rfl ⟨_, rfl, (recol2 g91 (N + 0) r0), A5, cap6, rfl, h182, hF⟩

/-! ### ref24_Check: function 26 -/
def ref24_Check.l0 (p0 : Int) (r16 : (List (List Bool))) : Nat → Int → Option (Fl (Int) (Unit))
  | 0, _ => none
  | k29 + 1, m0_0 => if decide (m0_0 < p0) = true then ((idx r16 m0_0).bind fun x36 => (idx x36 m0_0).bind fun x47 => if x47 = true then (some (.out 18)) else (ref24_Check.l0 p0 r16 k29 (wi (m0_0 + 1)))) else (some (.nxt ()))
def ref24_Check.f (p0 : Int) (p1 : List api_Link) : Option (Int) := (ref24_Basic.f p0 p1).bind fun r4 => if (r4 != 0) = true then (some r4) else ((ref24_Matrix.f p0 p1).bind fun r16 => (ref24_Check.l0 p0 r16 FUEL 0 : Option (Fl (Int) (Unit))).bind fun o26 => o26.go fun _ => some 0)
set_option maxRecDepth 100000 in
set_option maxHeartbeats 4000000 in
theorem ref24_Check.calls {p0 : Int} {p1 : List api_Link} {A1 : Option Addr} {cap1 : Nat} {C1 : Nat → Prop} {w : World} {g : Nat → Nat} {out : Int} (N : Nat) (hp1 : RdS kd_api_Link w g C1 A1 cap1 p1) (hC1 : ∀ c, C1 c → c < N) (H : ref24_Check.f p0 p1 = some out) :
    Calls Try.prog 26 #[.int .i64 p0, .slice A1 p1.length cap1] w (fun e w' => ∃ v, e = .returned v ∧ ∃ (g' : Nat → Nat), v = .int .i64 out ∧ Fr (fun q => N ≤ q) w g w' g') := by
  unfold ref24_Check.f at H
  refine calls_enter Try.func26 rfl Try.ntmps26 rfl (fun a hS => ?_)
  replace hS : Sl 29 a [(0, .int .i64 p0), (1, .slice A1 p1.length cap1)] := hS
  have hF : Fr (fun q => N ≤ q) w g w g := Fr.refl _ _ _
  refine c_pure [(0, .int .i64 p0), (1, .slice A1 p1.length cap1)] (fun R hR => st_val hS rfl rfl rfl (r_assign hS rfl rfl) fun a1 hS1 => wpList_nil (hR _ (hS1.re ⟨rfl, rfl, trivial⟩))) ?_
  clear hS
  clear a
  intro a hS
  refine wp_seq ?_
  obtain ⟨r4, hr5, H⟩ := bind_el H
  refine c_region (fun K hK => ?_)
  refine st_val hS rfl rfl rfl (r_move hS rfl rfl) fun a2 hS2 => st_val hS2 rfl rfl rfl (r_move hS2 rfl rfl) fun a3 hS3 => ?_
  refine st_enter hS3 rfl rfl rfl (r_call hS3 rfl rfl (by kernel_rfl)) (ref24_Basic.calls (C1 := C1) (p0 := p0) (p1 := p1) (g := g) (N + 2)  hp1 (fun q (hq : C1 q) => by have := hC1 q hq; omega) hr5) ?_
  rintro _ a6 w7 ⟨g7, rfl, F7⟩ hS6
  replace hp1 := RdS.fr hp1 F7 (by decide) (fun q (hq : C1 q) (hm : N + 2 ≤ q) => by have := hC1 q hq; omega)
  replace hF := hF.trans F7 (fun c' (hm : N + 2 ≤ c') => by show N ≤ c'; omega)
  refine st_val hS6 rfl rfl rfl (r_assign hS6 rfl rfl) fun a8 hS8 => wpList_nil (hK _ _ ?_)
  replace hS : Sl 29 _ [(0, .int .i64 p0), (1, .slice A1 p1.length cap1), (5, .int .i64 r4)] := hS8.re ⟨rfl, rfl, rfl, trivial⟩
  clear hK K
  try clear hS2 hS3 hS6 hS8
  obtain ⟨a, ha⟩ : ∃ a', a' = a8 := ⟨_, rfl⟩
  rw [← ha] at hS ⊢; clear ha
  refine c_pure [(0, .int .i64 p0), (1, .slice A1 p1.length cap1), (5, .int .i64 r4), (12, .bool (r4 != 0))] (fun R hR => st_val hS rfl rfl rfl (r_move hS rfl rfl) fun a9 hS9 => st_val hS9 rfl rfl rfl (r_bin hS9 rfl rfl rfl b_neq) fun a10 hS10 => wpList_nil (hR _ (hS10.re ⟨rfl, rfl, rfl, rfl, trivial⟩))) ?_
  clear hS
  clear a
  intro a hS
  refine c_cond hS rfl (fun hb11 => ?_) (fun hb11 => ?_)
  · replace H := ite_t hb11 H
    refine c_pure [(4, .int .i64 r4)] (fun R hR => st_val hS rfl rfl rfl (r_move hS rfl rfl) fun a12 hS12 => st_val hS12 rfl rfl rfl (r_assign hS12 rfl rfl) fun a13 hS13 => wpList_nil (hR _ (hS13.re ⟨rfl, trivial⟩))) ?_
    clear hS
    clear a
    intro a hS
    refine wp_ret ?_
    have e := Option.some.inj H
    subst e
    repeat (with_reducible first | refine then_ret ?_ | refine inBlock_ret ?_)
    exact c_ret1 hS Try.results26 rfl ⟨_, rfl, g7, rfl, hF⟩
  · replace H := ite_f hb11 H
    refine wp_skip ?_
    change Code.wp _ _ _ _ _
    obtain ⟨r16, hr17, H⟩ := bind_el H
    refine c_region (fun K hK => ?_)
    refine st_val hS rfl rfl rfl (r_move hS rfl rfl) fun a14 hS14 => st_val hS14 rfl rfl rfl (r_move hS14 rfl rfl) fun a15 hS15 => ?_
    refine st_enter hS15 rfl rfl rfl (r_call hS15 rfl rfl (by kernel_rfl)) (ref24_Matrix.calls (C1 := C1) (p0 := p0) (p1 := p1) (g := g7) (N + 2) (N + 0) hp1 (fun q (hq : C1 q) => by have := hC1 q hq; omega) (by omega) hr17) ?_
    rintro _ a22 w23 ⟨g23, A18, cap19, rfl, h20, F23⟩ hS22
    replace hp1 := RdS.fr hp1 F23 (by decide) (fun q (hq : C1 q) (hm : (N + 0 ≤ q ∧ q < N + 0 + 2) ∨ N + 2 ≤ q) => by have := hC1 q hq; omega)
    replace hF := hF.trans F23 (fun c' (hm : (N + 0 ≤ c' ∧ c' < N + 0 + 2) ∨ N + 2 ≤ c') => by show N ≤ c'; omega)
    refine st_val hS22 rfl rfl rfl (r_assign hS22 rfl rfl) fun a24 hS24 => wpList_nil (hK _ _ ?_)
    replace hS : Sl 29 _ [(0, .int .i64 p0), (6, .slice A18 r16.length cap19)] := hS24.re ⟨rfl, rfl, trivial⟩
    clear hK K
    try clear hS14 hS15 hS22 hS24
    obtain ⟨a, ha⟩ : ∃ a', a' = a24 := ⟨_, rfl⟩
    rw [← ha] at hS ⊢; clear ha
    obtain ⟨o26, H, Hl27⟩ := bind_el H
    refine c_cut (fun a w' => o26 = .nxt () ∧ w23 = w' ∧ Sl 29 a []) ?_ ?_
    · refine c_pure [(0, .int .i64 p0), (6, .slice A18 r16.length cap19), (7, .int .i64 0)] (fun R hR => st_val hS rfl rfl rfl (r_assign hS rfl rfl) fun a28 hS28 => wpList_nil (hR _ (hS28.re ⟨rfl, rfl, rfl, trivial⟩))) ?_
      clear hS
      clear a
      intro a hS
      refine wp_block ?_
      refine wp_loop_ghost (fun kq => fun a w' => ∃ (m0_0 : Int), ref24_Check.l0 p0 r16 kq m0_0 = some o26 ∧ w23 = w' ∧ Sl 29 a [(0, .int .i64 p0), (6, .slice A18 r16.length cap19), (7, .int .i64 m0_0)]) FUEL ?_ ?_
      · exact ⟨0, H, rfl, hS.re ⟨rfl, rfl, rfl, trivial⟩⟩
      · clear H
        clear hS
        rintro k29 a w' ⟨m0_0, hpre0, hw, hS⟩
        subst hw
        have H := hpre0
        clear hpre0
        cases k29 with
        | zero => exact absurd H (by simp [ref24_Check.l0])
        | succ k29 =>
          rw [ref24_Check.l0] at H
          refine wp_seq ?_
          refine c_pure [(0, .int .i64 p0), (6, .slice A18 r16.length cap19), (7, .int .i64 m0_0), (19, .bool (decide (m0_0 < p0)))] (fun R hR => st_val hS rfl rfl rfl (r_move hS rfl rfl) fun a30 hS30 => st_val hS30 rfl rfl rfl (r_move hS30 rfl rfl) fun a31 hS31 => st_val hS31 rfl rfl rfl (r_bin hS31 rfl rfl rfl b_lss) fun a32 hS32 => wpList_nil (hR _ (hS32.re ⟨rfl, rfl, rfl, rfl, trivial⟩))) ?_
          clear hS
          clear a
          intro a hS
          refine c_cond hS rfl (fun hb33 => ?_) (fun hb33 => ?_)
          · replace H := ite_t hb33 H
            refine wp_skip ?_
            change Code.wp _ _ _ _ _
            refine wp_seq ?_
            refine wp_block ?_
            obtain ⟨x36, hx37, H⟩ := bind_el H
            obtain ⟨x47, hx48, H⟩ := bind_el H
            refine c_region (fun K hK => ?_)
            refine st_val hS rfl rfl rfl (r_move hS rfl rfl) fun a34 hS34 => st_val hS34 rfl rfl rfl (r_move hS34 rfl rfl) fun a35 hS35 => ?_
            obtain ⟨_, ⟨A39, cap40, rfl, h41⟩, hel38⟩ := El.of (OwD.rdx h20) hx37 (by decide)
            replace hel38 : El w23 g23 (fun q => q = N + 0) A18 (m0_0.toNat * 1) [.slice A39 x36.length cap40] := hel38
            refine st_val hS35 rfl rfl rfl (r_index (e := 32) (sz := 1) (by_ := 24) hS35 rfl rfl rfl (by kernel_rfl) (RdS.some_ (OwS.rd h20) hx37) (idx_lo hx37) (idx_hi hx37)) fun a44 hS44 => st_val hS44 rfl rfl rfl (r_load1 (n := 1) hS44 rfl rfl (by kernel_rfl) (El.cell (j := 0) hel38 rfl)) fun a45 hS45 => st_val hS45 rfl rfl rfl (r_move hS45 rfl rfl) fun a46 hS46 => st_val hS46 rfl rfl rfl (r_index (e := 4) (sz := 1) (by_ := 1) hS46 rfl rfl rfl (by kernel_rfl) (RdS.some_ h41 hx48) (idx_lo hx48) (idx_hi hx48)) fun a49 hS49 => st_val hS49 rfl rfl rfl (r_load1 (n := 1) hS49 rfl rfl (by kernel_rfl) (RdS.cell (i := m0_0) (sz := 1) (j := 0) h41 hx48 rfl)) fun a50 hS50 => wpList_nil (hK _ _ ?_)
            replace hS : Sl 29 _ [(0, .int .i64 p0), (6, .slice A18 r16.length cap19), (7, .int .i64 m0_0), (28, .bool x47)] := hS50.re ⟨rfl, rfl, rfl, rfl, trivial⟩
            clear hK K
            try clear hS34 hS35 hS44 hS45 hS46 hS49 hS50
            obtain ⟨a, ha⟩ : ∃ a', a' = a50 := ⟨_, rfl⟩
            rw [← ha] at hS ⊢; clear ha
            refine c_cond hS rfl (fun hb51 => ?_) (fun hb51 => ?_)
            · replace H := ite_t hb51 H
              refine c_pure [(4, .int .i64 18)] (fun R hR => st_val hS rfl rfl rfl (r_assign hS rfl rfl) fun a52 hS52 => wpList_nil (hR _ (hS52.re ⟨rfl, trivial⟩))) ?_
              clear hS
              clear a
              intro a hS
              refine wp_ret ?_
              have e := Option.some.inj H
              subst e
              replace H := Fl.go_out Hl27
              have e := Option.some.inj H
              subst e
              repeat (with_reducible first | refine then_ret ?_ | refine inBlock_ret ?_)
              exact c_ret1 hS Try.results26 rfl ⟨_, rfl, g23, rfl, hF⟩
            · replace H := ite_f hb51 H
              refine wp_skip ?_
              change Code.wp _ _ _ _ _
              refine c_pure1 [(0, .int .i64 p0), (6, .slice A18 r16.length cap19), (7, .int .i64 (wi (m0_0 + 1)))] (fun R hR => st_val hS rfl rfl rfl (r_move hS rfl rfl) fun a53 hS53 => st_val hS53 rfl rfl rfl (r_bin hS53 rfl rfl rfl b_add) fun a54 hS54 => st_val hS54 rfl rfl rfl (r_assign hS54 rfl rfl) fun a55 hS55 => wpList_nil (hR _ (hS55.re ⟨rfl, rfl, rfl, trivial⟩))) ?_
              clear hS
              clear a
              intro a hS
              refine ⟨k29, Nat.lt_succ_self _, ?_⟩
              exact ⟨wi (m0_0 + 1), H, rfl, hS.re ⟨rfl, rfl, rfl, trivial⟩⟩
          · replace H := ite_f hb33 H
            refine wp_exit ?_
            have e := Option.some.inj H
            exact ⟨e.symm, rfl, hS.re trivial⟩
    · clear H
      clear hS
      rintro a w' ⟨hpre0, hw, hS⟩
      subst hpre0
      subst hw
      have H := Fl.go_nxt Hl27
      clear Hl27
      refine c_pure [(4, .int .i64 0)] (fun R hR => st_val hS rfl rfl rfl (r_assign hS rfl rfl) fun a56 hS56 => wpList_nil (hR _ (hS56.re ⟨rfl, trivial⟩))) ?_
      clear hS
      clear a
      intro a hS
      refine wp_ret ?_
      have e := Option.some.inj H
      subst e
      repeat (with_reducible first | refine then_ret ?_ | refine inBlock_ret ?_)
      exact c_ret1 hS Try.results26 rfl ⟨_, rfl, g23, rfl, hF⟩

/-! ### ref24_remove: function 38 -/
def ref24_remove.l2 (p1 : List api_Link) (m0_1 : List Bool) (m1_1 : Int) : Nat → Bool → Int → Option (Bool)
  | 0, _, _ => none
  | k52 + 1, m2_0, m2_1 => if ((decide (m2_1 < (p1.length : Int))) && m2_0) = true then (((idx p1 m2_1).bind fun x71 => (if (x71.Consumer == m1_1) = true then (idx m0_1 x71.Supplier).bind fun x86 => some (!x86) else some false).bind fun t91 => if t91 = true then (some false) else (some m2_0) : Option (Bool)).bind fun v66 => ref24_remove.l2 p1 m0_1 m1_1 k52 v66 (wi (m2_1 + 1))) else (some m2_0)
def ref24_remove.l1 (p1 : List api_Link) (m0_1 : List Bool) : Nat → Int → Int → Option (Int)
  | 0, _, _ => none
  | k33 + 1, m1_0, m1_1 => if decide (0 ≤ m1_1) = true then (((idx m0_1 m1_1).bind fun x42 => (ref24_remove.l2 p1 m0_1 m1_1 FUEL (!x42) 0 : Option (Bool)).bind fun v48 => if v48 = true then (some m1_1) else (some m1_0) : Option (Int)).bind fun v37 => ref24_remove.l1 p1 m0_1 k33 v37 (wi (m1_1 - 1))) else (some m1_0)
def ref24_remove.l0 (p0 : Int) (p1 : List api_Link) : Nat → (List Int) → (List Bool) → Option ((List Int) × (List Bool))
  | 0, _, _ => none
  | k18 + 1, m0_0, m0_1 => ((ref24_remove.l1 p1 m0_1 FUEL (-1) (wi (p0 - 1)) : Option (Int)).bind fun v27 => if decide (v27 < 0) = true then (some (.out (m0_0, m0_1))) else ((idx m0_1 v27).bind fun x141 => (app m0_0 [v27]).bind fun y153 => some (.nxt (y153, (upd m0_1 v27 true)))) : Option (Fl ((List Int) × (List Bool)) ((List Int) × (List Bool)))).bind fun o24 => o24.go fun v23 => ref24_remove.l0 p0 p1 k18 v23.1 v23.2
def ref24_remove.f (p0 : Int) (p1 : List api_Link) : Option ((List Int) × (List Bool)) := (mk p0 false).bind fun y5 => ref24_remove.l0 p0 p1 FUEL [] y5
set_option maxRecDepth 100000 in
set_option maxHeartbeats 4000000 in
theorem ref24_remove.calls {p0 : Int} {p1 : List api_Link} {A1 : Option Addr} {cap1 : Nat} {C1 : Nat → Prop} {w : World} {g : Nat → Nat} {out : (List Int) × (List Bool)} (N : Nat) (r0 : Nat) (r1 : Nat) (hp1 : RdS kd_api_Link w g C1 A1 cap1 p1) (hC1 : ∀ c, C1 c → c < N) (hr0 : r0 + 2 ≤ N) (hr1 : r1 + 2 ≤ N) (ht1_0 : r1 + 2 ≤ r0 ∨ r0 + 2 ≤ r1) (H : ref24_remove.f p0 p1 = some out) :
    Calls Try.prog 38 #[.int .i64 p0, .slice A1 p1.length cap1] w (fun e w' => ∃ v, e = .returned v ∧ ∃ (g' : Nat → Nat) (A_r0 : Option Addr) (cap_r0 : Nat) (A_r1 : Option Addr) (cap_r1 : Nat), v = .tuple #[.slice A_r0 out.1.length cap_r0, .slice A_r1 out.2.length cap_r1] ∧ OwS (kint .i64) 3 w' g' r0 A_r0 cap_r0 out.1 ∧ OwS kbool 4 w' g' r1 A_r1 cap_r1 out.2 ∧ Fr (fun q => (r0 ≤ q ∧ q < r0 + 2) ∨ (r1 ≤ q ∧ q < r1 + 2) ∨ N ≤ q) w g w' g') := by
  unfold ref24_remove.f at H
  refine calls_enter Try.func38 rfl Try.ntmps38 rfl (fun a hS => ?_)
  replace hS : Sl 65 a [(0, .int .i64 p0), (1, .slice A1 p1.length cap1)] := hS
  have hF : Fr (fun q => (r0 ≤ q ∧ q < r0 + 2) ∨ (r1 ≤ q ∧ q < r1 + 2) ∨ N ≤ q) w g w g := Fr.refl _ _ _
  refine c_pure [(0, .int .i64 p0), (1, .slice A1 p1.length cap1)] (fun R hR => st_val hS rfl rfl rfl (r_assign hS rfl rfl) fun a1 hS1 => st_val hS1 rfl rfl rfl (r_assign hS1 rfl rfl) fun a2 hS2 => wpList_nil (hR _ (hS2.re ⟨rfl, rfl, trivial⟩))) ?_
  clear hS
  clear a
  intro a hS
  refine c_pure [(0, .int .i64 p0), (1, .slice A1 p1.length cap1), (6, .slice none 0 0)] (fun R hR => st_val hS rfl rfl rfl (r_assign hS rfl rfl) fun a3 hS3 => wpList_nil (hR _ (hS3.re ⟨rfl, rfl, rfl, trivial⟩))) ?_
  clear hS
  clear a
  intro a hS
  obtain ⟨y5, hy6, H⟩ := bind_el H
  refine c_region (fun K hK => ?_)
  refine st_val hS rfl rfl rfl (r_move hS rfl rfl) fun a4 hS4 => ?_
  refine st_eff hS4 rfl rfl rfl (e_make (e := 4) (sz := 1) (by_ := 1) (z := [.bool false]) (kd := kbool) (N + 0) g hS4 rfl rfl (by kernel_rfl) (by kernel_rfl) rfl rfl rfl (fun _ _ _ => rfl) hy6) ?_
  rintro _ a11 w12 g12 ⟨⟨A7, cap8, rfl, h9⟩, F12⟩ hS11
  replace hp1 := RdS.fr hp1 F12 (by decide) (fun _ _ h => h)
  replace hF := hF.trans F12 (fun _ h => h.elim)
  refine st_val hS11 rfl rfl rfl (r_assign hS11 rfl rfl) fun a13 hS13 => wpList_nil (hK _ _ ?_)
  replace hS : Sl 65 _ [(0, .int .i64 p0), (1, .slice A1 p1.length cap1), (6, .slice none 0 0), (7, .slice A7 y5.length cap8)] := hS13.re ⟨rfl, rfl, rfl, rfl, trivial⟩
  clear hK K
  try clear hS4 hS11 hS13
  obtain ⟨a, ha⟩ : ∃ a', a' = a13 := ⟨_, rfl⟩
  rw [← ha] at hS ⊢; clear ha
  refine wp_block ?_
  refine wp_loop_ghost (fun kq => fun a w14 => ∃ (m0_0 : List Int), ∃ (m0_1 : List Bool), ∃ (g14 : Nat → Nat), ∃ (A15 : Option Addr), ∃ (cap16 : Nat), ref24_remove.l0 p0 p1 kq m0_0 m0_1 = some out ∧ Sl 65 a [(0, .int .i64 p0), (1, .slice A1 p1.length cap1), (6, .slice A15 m0_0.length cap16), (7, .slice A7 m0_1.length cap8)] ∧ OwS kbool 4 w14 g14 (N + 0) A7 cap8 m0_1 ∧ OwS (kint .i64) 3 w14 g14 (N + 4) A15 cap16 m0_0 ∧ RdS kd_api_Link w14 g14 C1 A1 cap1 p1 ∧ Fr (fun q => (r0 ≤ q ∧ q < r0 + 2) ∨ (r1 ≤ q ∧ q < r1 + 2) ∨ N ≤ q) w g w14 g14) FUEL ?_ ?_
  · exact ⟨[], y5, g12, none, 0, H, hS.re ⟨rfl, rfl, rfl, rfl, trivial⟩, h9, OwS.nil (kint .i64) 3 w12 g12 (N + 4), hp1, hF⟩
  · clear H
    clear hp1 h9 hF
    clear hS
    rintro k18 a w14 ⟨m0_0, m0_1, g14, A15, cap16, hpre0, hS, h9, h17, hp1, hF⟩
    have H := hpre0
    clear hpre0
    cases k18 with
    | zero => exact absurd H (by simp [ref24_remove.l0])
    | succ k18 =>
      rw [ref24_remove.l0] at H
      obtain ⟨o24, H, Hl25⟩ := bind_el H
      refine c_cut1 (fun a w19 => ∃ (v23 : (List Int) × (List Bool)), ∃ (g19 : Nat → Nat), ∃ (A20 : Option Addr), ∃ (cap21 : Nat), o24 = .nxt v23 ∧ Sl 65 a [(0, .int .i64 p0), (1, .slice A1 p1.length cap1), (6, .slice A20 v23.1.length cap21), (7, .slice A7 v23.2.length cap8)] ∧ OwS kbool 4 w19 g19 (N + 0) A7 cap8 v23.2 ∧ OwS (kint .i64) 3 w19 g19 (N + 4) A20 cap21 v23.1 ∧ RdS kd_api_Link w19 g19 C1 A1 cap1 p1 ∧ Fr (fun q => (r0 ≤ q ∧ q < r0 + 2) ∨ (r1 ≤ q ∧ q < r1 + 2) ∨ N ≤ q) w g w19 g19) ?_ ?_
      · refine wp_block ?_
        refine c_pure [(0, .int .i64 p0), (1, .slice A1 p1.length cap1), (6, .slice A15 m0_0.length cap16), (7, .slice A7 m0_1.length cap8), (8, .int .i64 (-1))] (fun R hR => st_val hS rfl rfl rfl (r_assign hS rfl rfl) fun a26 hS26 => wpList_nil (hR _ (hS26.re ⟨rfl, rfl, rfl, rfl, rfl, trivial⟩))) ?_
        clear hS
        clear a
        intro a hS
        obtain ⟨v27, H, Hl29⟩ := bind_el H
        refine c_cut (fun a w' => w14 = w' ∧ Sl 65 a [(0, .int .i64 p0), (1, .slice A1 p1.length cap1), (6, .slice A15 m0_0.length cap16), (7, .slice A7 m0_1.length cap8), (8, .int .i64 v27)]) ?_ ?_
        · refine c_pure [(0, .int .i64 p0), (1, .slice A1 p1.length cap1), (6, .slice A15 m0_0.length cap16), (7, .slice A7 m0_1.length cap8), (8, .int .i64 (-1)), (9, .int .i64 (wi (p0 - 1)))] (fun R hR => st_val hS rfl rfl rfl (r_move hS rfl rfl) fun a30 hS30 => st_val hS30 rfl rfl rfl (r_bin hS30 rfl rfl rfl b_sub) fun a31 hS31 => st_val hS31 rfl rfl rfl (r_assign hS31 rfl rfl) fun a32 hS32 => wpList_nil (hR _ (hS32.re ⟨rfl, rfl, rfl, rfl, rfl, rfl, trivial⟩))) ?_
          clear hS
          clear a
          intro a hS
          refine wp_block ?_
          refine wp_loop_ghost (fun kq => fun a w' => ∃ (m1_0 : Int), ∃ (m1_1 : Int), ref24_remove.l1 p1 m0_1 kq m1_0 m1_1 = some v27 ∧ w14 = w' ∧ Sl 65 a [(0, .int .i64 p0), (1, .slice A1 p1.length cap1), (6, .slice A15 m0_0.length cap16), (7, .slice A7 m0_1.length cap8), (8, .int .i64 m1_0), (9, .int .i64 m1_1)]) FUEL ?_ ?_
          · exact ⟨(-1), wi (p0 - 1), H, rfl, hS.re ⟨rfl, rfl, rfl, rfl, rfl, rfl, trivial⟩⟩
          · clear H
            clear hS
            rintro k33 a w' ⟨m1_0, m1_1, hpre0, hw, hS⟩
            subst hw
            have H := hpre0
            clear hpre0
            cases k33 with
            | zero => exact absurd H (by simp [ref24_remove.l1])
            | succ k33 =>
              rw [ref24_remove.l1] at H
              refine wp_seq ?_
              refine c_pure [(0, .int .i64 p0), (1, .slice A1 p1.length cap1), (6, .slice A15 m0_0.length cap16), (7, .slice A7 m0_1.length cap8), (8, .int .i64 m1_0), (9, .int .i64 m1_1), (17, .bool (decide (0 ≤ m1_1)))] (fun R hR => st_val hS rfl rfl rfl (r_move hS rfl rfl) fun a34 hS34 => st_val hS34 rfl rfl rfl (r_bin hS34 rfl rfl rfl b_geq) fun a35 hS35 => wpList_nil (hR _ (hS35.re ⟨rfl, rfl, rfl, rfl, rfl, rfl, rfl, trivial⟩))) ?_
              clear hS
              clear a
              intro a hS
              refine c_cond hS rfl (fun hb36 => ?_) (fun hb36 => ?_)
              · replace H := ite_t hb36 H
                refine wp_skip ?_
                change Code.wp _ _ _ _ _
                obtain ⟨v37, H, Hl39⟩ := bind_el H
                refine c_cut (fun a w' => w14 = w' ∧ Sl 65 a [(0, .int .i64 p0), (1, .slice A1 p1.length cap1), (6, .slice A15 m0_0.length cap16), (7, .slice A7 m0_1.length cap8), (8, .int .i64 v37), (9, .int .i64 m1_1)]) ?_ ?_
                · refine wp_block ?_
                  obtain ⟨x42, hx43, H⟩ := bind_el H
                  refine c_pure [(0, .int .i64 p0), (1, .slice A1 p1.length cap1), (6, .slice A15 m0_0.length cap16), (7, .slice A7 m0_1.length cap8), (8, .int .i64 m1_0), (9, .int .i64 m1_1), (10, .bool (!x42))] (fun R hR => st_val hS rfl rfl rfl (r_move hS rfl rfl) fun a40 hS40 => st_val hS40 rfl rfl rfl (r_move hS40 rfl rfl) fun a41 hS41 => st_val hS41 rfl rfl rfl (r_index (e := 4) (sz := 1) (by_ := 1) hS41 rfl rfl rfl (by kernel_rfl) (RdS.some_ (OwS.rd h9) hx43) (idx_lo hx43) (idx_hi hx43)) fun a44 hS44 => st_val hS44 rfl rfl rfl (r_load1 (n := 1) hS44 rfl rfl (by kernel_rfl) (RdS.cell (i := m1_1) (sz := 1) (j := 0) (OwS.rd h9) hx43 rfl)) fun a45 hS45 => st_val hS45 rfl rfl rfl (r_not hS45 rfl rfl) fun a46 hS46 => st_val hS46 rfl rfl rfl (r_assign hS46 rfl rfl) fun a47 hS47 => wpList_nil (hR _ (hS47.re ⟨rfl, rfl, rfl, rfl, rfl, rfl, rfl, trivial⟩))) ?_
                  clear hS
                  clear a
                  intro a hS
                  obtain ⟨v48, H, Hl50⟩ := bind_el H
                  refine c_cut (fun a w' => w14 = w' ∧ Sl 65 a [(0, .int .i64 p0), (1, .slice A1 p1.length cap1), (6, .slice A15 m0_0.length cap16), (7, .slice A7 m0_1.length cap8), (8, .int .i64 m1_0), (9, .int .i64 m1_1), (10, .bool v48)]) ?_ ?_
                  · refine c_pure [(0, .int .i64 p0), (1, .slice A1 p1.length cap1), (6, .slice A15 m0_0.length cap16), (7, .slice A7 m0_1.length cap8), (8, .int .i64 m1_0), (9, .int .i64 m1_1), (10, .bool (!x42)), (11, .int .i64 0)] (fun R hR => st_val hS rfl rfl rfl (r_assign hS rfl rfl) fun a51 hS51 => wpList_nil (hR _ (hS51.re ⟨rfl, rfl, rfl, rfl, rfl, rfl, rfl, rfl, trivial⟩))) ?_
                    clear hS
                    clear a
                    intro a hS
                    refine wp_block ?_
                    refine wp_loop_ghost (fun kq => fun a w' => ∃ (m2_0 : Bool), ∃ (m2_1 : Int), ref24_remove.l2 p1 m0_1 m1_1 kq m2_0 m2_1 = some v48 ∧ w14 = w' ∧ Sl 65 a [(0, .int .i64 p0), (1, .slice A1 p1.length cap1), (6, .slice A15 m0_0.length cap16), (7, .slice A7 m0_1.length cap8), (8, .int .i64 m1_0), (9, .int .i64 m1_1), (10, .bool m2_0), (11, .int .i64 m2_1)]) FUEL ?_ ?_
                    · exact ⟨(!x42), 0, H, rfl, hS.re ⟨rfl, rfl, rfl, rfl, rfl, rfl, rfl, rfl, trivial⟩⟩
                    · clear H
                      clear hS
                      rintro k52 a w' ⟨m2_0, m2_1, hpre0, hw, hS⟩
                      subst hw
                      have H := hpre0
                      clear hpre0
                      cases k52 with
                      | zero => exact absurd H (by simp [ref24_remove.l2])
                      | succ k52 =>
                        rw [ref24_remove.l2] at H
                        refine wp_seq ?_
                        refine c_region (fun K hK => ?_)
                        refine st_val hS rfl rfl rfl (r_move hS rfl rfl) fun a53 hS53 => st_val hS53 rfl rfl rfl (r_move hS53 rfl rfl) fun a54 hS54 => st_val hS54 rfl rfl rfl (r_len (e := 34) (sz := 2) (by_ := 16) hS54 rfl rfl (by kernel_rfl)) fun a55 hS55 => st_val hS55 rfl rfl rfl (r_bin hS55 rfl rfl rfl b_lss) fun a56 hS56 => st_val hS56 rfl rfl rfl (r_move hS56 rfl rfl) fun a57 hS57 => ?_
                        refine g_join (N := 65) 2 [(0, .int .i64 p0), (1, .slice A1 p1.length cap1), (6, .slice A15 m0_0.length cap16), (7, .slice A7 m0_1.length cap8), (8, .int .i64 m1_0), (9, .int .i64 m1_1), (10, .bool m2_0), (11, .int .i64 m2_1), (31, .bool ((decide (m2_1 < (p1.length : Int))) && m2_0))] ?_ (fun hk => ?_)
                        rotate_left
                        · rcases Bool.eq_false_or_eq_true (decide (m2_1 < (p1.length : Int))) with hb58 | hb58
                          · refine st_valW hS57 (want_on hS57 rfl rfl rfl hb58) rfl rfl (r_move hS57 rfl rfl) fun a60 hS60 => st_val hS60 rfl rfl rfl (r_pickT hS60 rfl rfl rfl hb58) fun a61 hS61 => hk _ (hS61.re ⟨rfl, rfl, rfl, rfl, rfl, rfl, rfl, rfl, (by rw [hb58]; rfl), trivial⟩)
                          · refine st_off hS57 (want_off hS57 rfl rfl rfl hb58) rfl rfl fun a62 hS62 => st_val hS62 rfl rfl rfl (r_pickF hS62 rfl rfl rfl hb58) fun a63 hS63 => hk _ (hS63.re ⟨rfl, rfl, rfl, rfl, rfl, rfl, rfl, rfl, (by rw [hb58]; rfl), trivial⟩)
                        intro a64 hS64
                        refine wpList_nil (hK _ _ ?_)
                        replace hS : Sl 65 _ [(0, .int .i64 p0), (1, .slice A1 p1.length cap1), (6, .slice A15 m0_0.length cap16), (7, .slice A7 m0_1.length cap8), (8, .int .i64 m1_0), (9, .int .i64 m1_1), (10, .bool m2_0), (11, .int .i64 m2_1), (31, .bool ((decide (m2_1 < (p1.length : Int))) && m2_0))] := hS64.re ⟨rfl, rfl, rfl, rfl, rfl, rfl, rfl, rfl, rfl, trivial⟩
                        clear hK K
                        try clear hS53 hS54 hS55 hS56 hS57 hS64
                        obtain ⟨a, ha⟩ : ∃ a', a' = a64 := ⟨_, rfl⟩
                        rw [← ha] at hS ⊢; clear ha
                        refine c_cond hS rfl (fun hb65 => ?_) (fun hb65 => ?_)
                        · replace H := ite_t hb65 H
                          refine wp_skip ?_
                          change Code.wp _ _ _ _ _
                          obtain ⟨v66, H, Hl68⟩ := bind_el H
                          refine c_cut (fun a w' => w14 = w' ∧ Sl 65 a [(0, .int .i64 p0), (1, .slice A1 p1.length cap1), (6, .slice A15 m0_0.length cap16), (7, .slice A7 m0_1.length cap8), (8, .int .i64 m1_0), (9, .int .i64 m1_1), (10, .bool v66), (11, .int .i64 m2_1)]) ?_ ?_
                          · refine wp_block ?_
                            obtain ⟨x71, hx72, H⟩ := bind_el H
                            obtain ⟨t91, ht92, H⟩ := bind_el H
                            refine c_region (fun K hK => ?_)
                            refine st_val hS rfl rfl rfl (r_move hS rfl rfl) fun a69 hS69 => st_val hS69 rfl rfl rfl (r_move hS69 rfl rfl) fun a70 hS70 => st_val hS70 rfl rfl rfl (r_index (e := 34) (sz := 2) (by_ := 16) hS70 rfl rfl rfl (by kernel_rfl) (RdS.some_ hp1 hx72) (idx_lo hx72) (idx_hi hx72)) fun a73 hS73 => st_val hS73 rfl rfl rfl (r_fieldE (off := 0) hS73 rfl rfl (by kernel_rfl)) fun a74 hS74 => st_val hS74 rfl rfl rfl (r_load1 (n := 1) hS74 rfl rfl (by kernel_rfl) (RdS.cell (i := m2_1) (sz := 2) (j := 0) hp1 hx72 rfl)) fun a75 hS75 => st_val hS75 rfl rfl rfl (r_move hS75 rfl rfl) fun a76 hS76 => st_val hS76 rfl rfl rfl (r_bin hS76 rfl rfl rfl b_eql) fun a77 hS77 => st_val hS77 rfl rfl rfl (r_move hS77 rfl rfl) fun a78 hS78 => ?_
                            refine g_join (N := 65) 10 [(0, .int .i64 p0), (1, .slice A1 p1.length cap1), (6, .slice A15 m0_0.length cap16), (7, .slice A7 m0_1.length cap8), (8, .int .i64 m1_0), (9, .int .i64 m1_1), (10, .bool m2_0), (11, .int .i64 m2_1), (51, .bool t91)] ?_ (fun hk => ?_)
                            rotate_left
                            · rcases Bool.eq_false_or_eq_true ((x71.Consumer == m1_1)) with hb79 | hb79
                              · have H := ite_t hb79 ht92
                                obtain ⟨x99, hx100, H⟩ := bind_el H
                                have e104 := Option.some.inj H
                                refine st_valW hS78 (want_on hS78 rfl rfl rfl hb79) rfl rfl (r_move hS78 rfl rfl) fun a93 hS93 => st_valW hS93 (want_on hS93 rfl rfl rfl hb79) rfl rfl (r_move hS93 rfl rfl) fun a94 hS94 => st_valW hS94 (want_on hS94 rfl rfl rfl hb79) rfl rfl (r_move hS94 rfl rfl) fun a95 hS95 => st_valW hS95 (want_on hS95 rfl rfl rfl hb79) rfl rfl (r_index (e := 34) (sz := 2) (by_ := 16) hS95 rfl rfl rfl (by kernel_rfl) (RdS.some_ hp1 hx72) (idx_lo hx72) (idx_hi hx72)) fun a96 hS96 => st_valW hS96 (want_on hS96 rfl rfl rfl hb79) rfl rfl (r_fieldE (off := 1) hS96 rfl rfl (by kernel_rfl)) fun a97 hS97 => st_valW hS97 (want_on hS97 rfl rfl rfl hb79) rfl rfl (r_load1 (n := 1) hS97 rfl rfl (by kernel_rfl) (RdS.cell (i := m2_1) (sz := 2) (j := 1) hp1 hx72 rfl)) fun a98 hS98 => st_valW hS98 (want_on hS98 rfl rfl rfl hb79) rfl rfl (r_index (e := 4) (sz := 1) (by_ := 1) hS98 rfl rfl rfl (by kernel_rfl) (RdS.some_ (OwS.rd h9) hx100) (idx_lo hx100) (idx_hi hx100)) fun a101 hS101 => st_valW hS101 (want_on hS101 rfl rfl rfl hb79) rfl rfl (r_load1 (n := 1) hS101 rfl rfl (by kernel_rfl) (RdS.cell (i := x71.Supplier) (sz := 1) (j := 0) (OwS.rd h9) hx100 rfl)) fun a102 hS102 => st_valW hS102 (want_on hS102 rfl rfl rfl hb79) rfl rfl (r_not hS102 rfl rfl) fun a103 hS103 => st_val hS103 rfl rfl rfl (r_pickT hS103 rfl rfl rfl hb79) fun a105 hS105 => hk _ (hS105.re ⟨rfl, rfl, rfl, rfl, rfl, rfl, rfl, rfl, (by rw [← e104]; rfl), trivial⟩)
                              · have H := ite_f hb79 ht92
                                have e106 := Option.some.inj H
                                refine st_off hS78 (want_off hS78 rfl rfl rfl hb79) rfl rfl fun a107 hS107 => st_off hS107 (want_off hS107 rfl rfl rfl hb79) rfl rfl fun a108 hS108 => st_off hS108 (want_off hS108 rfl rfl rfl hb79) rfl rfl fun a109 hS109 => st_off hS109 (want_off hS109 rfl rfl rfl hb79) rfl rfl fun a110 hS110 => st_off hS110 (want_off hS110 rfl rfl rfl hb79) rfl rfl fun a111 hS111 => st_off hS111 (want_off hS111 rfl rfl rfl hb79) rfl rfl fun a112 hS112 => st_off hS112 (want_off hS112 rfl rfl rfl hb79) rfl rfl fun a113 hS113 => st_off hS113 (want_off hS113 rfl rfl rfl hb79) rfl rfl fun a114 hS114 => st_off hS114 (want_off hS114 rfl rfl rfl hb79) rfl rfl fun a115 hS115 => st_val hS115 rfl rfl rfl (r_pickF hS115 rfl rfl rfl hb79) fun a116 hS116 => hk _ (hS116.re ⟨rfl, rfl, rfl, rfl, rfl, rfl, rfl, rfl, (by rw [← e106]; rfl), trivial⟩)
                            intro a117 hS117
                            refine wpList_nil (hK _ _ ?_)
                            replace hS : Sl 65 _ [(0, .int .i64 p0), (1, .slice A1 p1.length cap1), (6, .slice A15 m0_0.length cap16), (7, .slice A7 m0_1.length cap8), (8, .int .i64 m1_0), (9, .int .i64 m1_1), (10, .bool m2_0), (11, .int .i64 m2_1), (51, .bool t91)] := hS117.re ⟨rfl, rfl, rfl, rfl, rfl, rfl, rfl, rfl, rfl, trivial⟩
                            clear hK K
                            try clear hS69 hS70 hS73 hS74 hS75 hS76 hS77 hS78 hS117
                            obtain ⟨a, ha⟩ : ∃ a', a' = a117 := ⟨_, rfl⟩
                            rw [← ha] at hS ⊢; clear ha
                            refine c_cond hS rfl (fun hb118 => ?_) (fun hb118 => ?_)
                            · replace H := ite_t hb118 H
                              refine c_pure1 [(0, .int .i64 p0), (1, .slice A1 p1.length cap1), (6, .slice A15 m0_0.length cap16), (7, .slice A7 m0_1.length cap8), (8, .int .i64 m1_0), (9, .int .i64 m1_1), (10, .bool false), (11, .int .i64 m2_1)] (fun R hR => st_val hS rfl rfl rfl (r_assign hS rfl rfl) fun a119 hS119 => wpList_nil (hR _ (hS119.re ⟨rfl, rfl, rfl, rfl, rfl, rfl, rfl, rfl, trivial⟩))) ?_
                              clear hS
                              clear a
                              intro a hS
                              have e := Option.some.inj H
                              subst e
                              exact ⟨rfl, hS.re ⟨rfl, rfl, rfl, rfl, rfl, rfl, rfl, rfl, trivial⟩⟩
                            · replace H := ite_f hb118 H
                              refine wp_skip ?_
                              have e := Option.some.inj H
                              subst e
                              exact ⟨rfl, hS.re ⟨rfl, rfl, rfl, rfl, rfl, rfl, rfl, rfl, trivial⟩⟩
                          · clear H
                            clear hS
                            rintro a w' ⟨hw, hS⟩
                            subst hw
                            have H := Hl68
                            clear Hl68
                            refine c_pure1 [(0, .int .i64 p0), (1, .slice A1 p1.length cap1), (6, .slice A15 m0_0.length cap16), (7, .slice A7 m0_1.length cap8), (8, .int .i64 m1_0), (9, .int .i64 m1_1), (10, .bool v66), (11, .int .i64 (wi (m2_1 + 1)))] (fun R hR => st_val hS rfl rfl rfl (r_move hS rfl rfl) fun a120 hS120 => st_val hS120 rfl rfl rfl (r_bin hS120 rfl rfl rfl b_add) fun a121 hS121 => st_val hS121 rfl rfl rfl (r_assign hS121 rfl rfl) fun a122 hS122 => wpList_nil (hR _ (hS122.re ⟨rfl, rfl, rfl, rfl, rfl, rfl, rfl, rfl, trivial⟩))) ?_
                            clear hS
                            clear a
                            intro a hS
                            refine ⟨k52, Nat.lt_succ_self _, ?_⟩
                            exact ⟨v66, wi (m2_1 + 1), H, rfl, hS.re ⟨rfl, rfl, rfl, rfl, rfl, rfl, rfl, rfl, trivial⟩⟩
                        · replace H := ite_f hb65 H
                          refine wp_exit ?_
                          have e := Option.some.inj H
                          subst e
                          exact ⟨rfl, hS.re ⟨rfl, rfl, rfl, rfl, rfl, rfl, rfl, trivial⟩⟩
                  · clear H
                    clear hS
                    rintro a w' ⟨hw, hS⟩
                    subst hw
                    have H := Hl50
                    clear Hl50
                    refine c_pure [(0, .int .i64 p0), (1, .slice A1 p1.length cap1), (6, .slice A15 m0_0.length cap16), (7, .slice A7 m0_1.length cap8), (8, .int .i64 m1_0), (9, .int .i64 m1_1), (52, .bool v48)] (fun R hR => st_val hS rfl rfl rfl (r_move hS rfl rfl) fun a123 hS123 => wpList_nil (hR _ (hS123.re ⟨rfl, rfl, rfl, rfl, rfl, rfl, rfl, trivial⟩))) ?_
                    clear hS
                    clear a
                    intro a hS
                    refine c_cond hS rfl (fun hb124 => ?_) (fun hb124 => ?_)
                    · replace H := ite_t hb124 H
                      refine c_pure1 [(0, .int .i64 p0), (1, .slice A1 p1.length cap1), (6, .slice A15 m0_0.length cap16), (7, .slice A7 m0_1.length cap8), (8, .int .i64 m1_1), (9, .int .i64 m1_1)] (fun R hR => st_val hS rfl rfl rfl (r_move hS rfl rfl) fun a125 hS125 => st_val hS125 rfl rfl rfl (r_assign hS125 rfl rfl) fun a126 hS126 => wpList_nil (hR _ (hS126.re ⟨rfl, rfl, rfl, rfl, rfl, rfl, trivial⟩))) ?_
                      clear hS
                      clear a
                      intro a hS
                      have e := Option.some.inj H
                      subst e
                      exact ⟨rfl, hS.re ⟨rfl, rfl, rfl, rfl, rfl, rfl, trivial⟩⟩
                    · replace H := ite_f hb124 H
                      refine wp_skip ?_
                      have e := Option.some.inj H
                      subst e
                      exact ⟨rfl, hS.re ⟨rfl, rfl, rfl, rfl, rfl, rfl, trivial⟩⟩
                · clear H
                  clear hS
                  rintro a w' ⟨hw, hS⟩
                  subst hw
                  have H := Hl39
                  clear Hl39
                  refine c_pure1 [(0, .int .i64 p0), (1, .slice A1 p1.length cap1), (6, .slice A15 m0_0.length cap16), (7, .slice A7 m0_1.length cap8), (8, .int .i64 v37), (9, .int .i64 (wi (m1_1 - 1)))] (fun R hR => st_val hS rfl rfl rfl (r_move hS rfl rfl) fun a127 hS127 => st_val hS127 rfl rfl rfl (r_bin hS127 rfl rfl rfl b_sub) fun a128 hS128 => st_val hS128 rfl rfl rfl (r_assign hS128 rfl rfl) fun a129 hS129 => wpList_nil (hR _ (hS129.re ⟨rfl, rfl, rfl, rfl, rfl, rfl, trivial⟩))) ?_
                  clear hS
                  clear a
                  intro a hS
                  refine ⟨k33, Nat.lt_succ_self _, ?_⟩
                  exact ⟨v37, wi (m1_1 - 1), H, rfl, hS.re ⟨rfl, rfl, rfl, rfl, rfl, rfl, trivial⟩⟩
              · replace H := ite_f hb36 H
                refine wp_exit ?_
                have e := Option.some.inj H
                subst e
                exact ⟨rfl, hS.re ⟨rfl, rfl, rfl, rfl, rfl, trivial⟩⟩
        · clear H
          clear hS
          rintro a w' ⟨hw, hS⟩
          subst hw
          have H := Hl29
          clear Hl29
          refine wp_seq ?_
          refine c_pure [(0, .int .i64 p0), (1, .slice A1 p1.length cap1), (6, .slice A15 m0_0.length cap16), (7, .slice A7 m0_1.length cap8), (8, .int .i64 v27), (55, .bool (decide (v27 < 0)))] (fun R hR => st_val hS rfl rfl rfl (r_move hS rfl rfl) fun a130 hS130 => st_val hS130 rfl rfl rfl (r_bin hS130 rfl rfl rfl b_lss) fun a131 hS131 => wpList_nil (hR _ (hS131.re ⟨rfl, rfl, rfl, rfl, rfl, rfl, trivial⟩))) ?_
          clear hS
          clear a
          intro a hS
          refine c_cond hS rfl (fun hb132 => ?_) (fun hb132 => ?_)
          · replace H := ite_t hb132 H
            refine c_pure [(4, .slice A15 m0_0.length cap16), (5, .slice A7 m0_1.length cap8)] (fun R hR => st_val hS rfl rfl rfl (r_move hS rfl rfl) fun a133 hS133 => st_val hS133 rfl rfl rfl (r_move hS133 rfl rfl) fun a134 hS134 => st_val hS134 rfl rfl rfl (r_assign hS134 rfl rfl) fun a135 hS135 => st_val hS135 rfl rfl rfl (r_assign hS135 rfl rfl) fun a136 hS136 => wpList_nil (hR _ (hS136.re ⟨rfl, rfl, trivial⟩))) ?_
            clear hS
            clear a
            intro a hS
            refine wp_ret ?_
            have e := Option.some.inj H
            subst e
            replace H := Fl.go_out Hl25
            have e := Option.some.inj H
            subst e
            have F137 := Fr.recol2 w14 g14 (N + 4) r0
            replace h17 := h17.recol2 r0
            replace h9 := OwS.fr h9 F137 (fun c' hc (hm : c' = N + 4 ∨ c' = N + 4 + 1) => by omega)
            replace hF := hF.trans F137 (fun c' (hm : c' = N + 4 ∨ c' = N + 4 + 1) => by show (r0 ≤ c' ∧ c' < r0 + 2) ∨ (r1 ≤ c' ∧ c' < r1 + 2) ∨ N ≤ c'; omega)
            have F138 := Fr.recol2 w14 (recol2 g14 (N + 4) r0) (N + 0) r1
            replace h9 := h9.recol2 r1
            replace h17 := OwS.fr h17 F138 (fun c' hc (hm : c' = N + 0 ∨ c' = N + 0 + 1) => by omega)
            replace hF := hF.trans F138 (fun c' (hm : c' = N + 0 ∨ c' = N + 0 + 1) => by show (r0 ≤ c' ∧ c' < r0 + 2) ∨ (r1 ≤ c' ∧ c' < r1 + 2) ∨ N ≤ c'; omega)
            repeat (with_reducible first | refine then_ret ?_ | refine inBlock_ret ?_)
            exact c_ret2 hS Try.results38 rfl rfl ⟨_, rfl, (recol2 (recol2 g14 (N + 4) r0) (N + 0) r1), A15, cap16, A7, cap8, rfl, h17, h9, hF⟩
          · replace H := ite_f hb132 H
            refine wp_skip ?_
            change Code.wp _ _ _ _ _
            obtain ⟨x141, hx142, H⟩ := bind_el H
            refine c_region (fun K hK => ?_)
            refine st_val hS rfl rfl rfl (r_move hS rfl rfl) fun a139 hS139 => st_val hS139 rfl rfl rfl (r_move hS139 rfl rfl) fun a140 hS140 => st_val hS140 rfl rfl rfl (r_index (e := 4) (sz := 1) (by_ := 1) hS140 rfl rfl rfl (by kernel_rfl) (RdS.some_ (OwS.rd h9) hx142) (idx_lo hx142) (idx_hi hx142)) fun a143 hS143 => ?_
            refine st_effS hS143 rfl rfl (e_storeE (n := 1) (bb := false) (kd := kbool) (j := 0) (x' := true) (us := [.bool true]) g14 hS143 rfl rfl rfl rfl (by kernel_rfl) rfl rfl (by intro v hv; simp only [List.mem_cons, List.not_mem_nil, or_false] at hv; rcases hv with rfl <;> rfl) h9 hx142 rfl (fun _ _ cs hR => by rw [show cs = _ from hR]; rfl)) ?_
            rintro a144 w145 g145 ⟨h9, F145⟩ hS144
            replace h17 := OwS.fr h17 F145 (fun c' hc (hm : c' = N + 0) => by omega)
            replace hp1 := RdS.fr hp1 F145 (by decide) (fun q (hq : C1 q) (hm : q = N + 0) => by have := hC1 q hq; omega)
            replace hF := hF.trans F145 (fun c' (hm : c' = N + 0) => by show (r0 ≤ c' ∧ c' < r0 + 2) ∨ (r1 ≤ c' ∧ c' < r1 + 2) ∨ N ≤ c'; omega)
            have hT : Sl 65 a144 [(0, .int .i64 p0), (1, .slice A1 p1.length cap1), (6, .slice A15 m0_0.length cap16), (7, .slice A7 m0_1.length cap8), (8, .int .i64 v27)] := hS144.re ⟨rfl, rfl, rfl, rfl, rfl, trivial⟩
            replace hS144 : Sl 65 a144 [(0, .int .i64 p0), (1, .slice A1 p1.length cap1), (6, .slice A15 m0_0.length cap16), (7, .slice A7 (upd m0_1 v27 true).length cap8), (8, .int .i64 v27)] := by simpa only [upd_length] using hT
            clear hT
            refine wpList_nil (hK _ _ ?_)
            replace hS : Sl 65 _ [(0, .int .i64 p0), (1, .slice A1 p1.length cap1), (6, .slice A15 m0_0.length cap16), (7, .slice A7 (upd m0_1 v27 true).length cap8), (8, .int .i64 v27)] := hS144.re ⟨rfl, rfl, rfl, rfl, rfl, trivial⟩
            clear hK K
            try clear hS139 hS140 hS143 hS144
            obtain ⟨a, ha⟩ : ∃ a', a' = a144 := ⟨_, rfl⟩
            rw [← ha] at hS ⊢; clear ha
            obtain ⟨y153, hy154, H⟩ := bind_el H
            refine c_region1 (fun K hK => ?_)
            refine st_val hS rfl rfl rfl (r_move hS rfl rfl) fun a146 hS146 => st_val hS146 rfl rfl rfl (r_move hS146 rfl rfl) fun a147 hS147 => ?_
            refine st_eff hS147 rfl rfl rfl (e_lit (e := 3) (parts := [(0, .int .i64 v27)]) (cs := [.int .i64 v27]) (kint .i64) [v27] (N + 2) g145 hS147 rfl rfl (fun _ => by kernel_rfl) rfl (by decide) (Rows.cons (cs := [.int .i64 v27]) rfl Rows.nil)) ?_
            rintro _ a151 w152 g152 ⟨⟨A148, rfl, h149⟩, F152⟩ hS151
            replace h9 := OwS.fr h9 F152 (fun _ _ h => h)
            replace h17 := OwS.fr h17 F152 (fun _ _ h => h)
            replace hp1 := RdS.fr hp1 F152 (by decide) (fun _ _ h => h)
            replace hF := hF.trans F152 (fun _ h => h.elim)
            refine st_eff hS151 rfl rfl rfl (e_append (e := 3) (sz := 1) (by_ := 8) (z := [.int .i64 0]) (kd := (kint .i64)) g152 hS151 rfl rfl rfl rfl (by kernel_rfl) (by kernel_rfl) rfl rfl rfl rfl h17 (OwD.rdx h149) (fun _ _ _ h => h) hy154) ?_
            rintro _ a159 w160 g160 ⟨⟨A155, cap156, rfl, h157⟩, F160⟩ hS159
            replace h9 := OwS.fr h9 F160 (fun c' hc (hm : c' = N + 4) => by omega)
            replace h149 := OwS.fr h149 F160 (fun c' hc (hm : c' = N + 4) => by omega)
            replace hp1 := RdS.fr hp1 F160 (by decide) (fun q (hq : C1 q) (hm : q = N + 4) => by have := hC1 q hq; omega)
            replace hF := hF.trans F160 (fun c' (hm : c' = N + 4) => by show (r0 ≤ c' ∧ c' < r0 + 2) ∨ (r1 ≤ c' ∧ c' < r1 + 2) ∨ N ≤ c'; omega)
            refine st_val hS159 rfl rfl rfl (r_assign hS159 rfl rfl) fun a161 hS161 => wpList_nil (hK _ _ ?_)
            replace hS : Sl 65 _ [(0, .int .i64 p0), (1, .slice A1 p1.length cap1), (6, .slice A155 y153.length cap156), (7, .slice A7 (upd m0_1 v27 true).length cap8)] := hS161.re ⟨rfl, rfl, rfl, rfl, trivial⟩
            clear hK K
            try clear hS146 hS147 hS151 hS159 hS161
            obtain ⟨a, ha⟩ : ∃ a', a' = a161 := ⟨_, rfl⟩
            rw [← ha] at hS ⊢; clear ha
            have e := Option.some.inj H
            exact ⟨(y153, (upd m0_1 v27 true)), g160, A155, cap156, e.symm, hS.re ⟨rfl, rfl, rfl, rfl, trivial⟩, h9, h157, hp1, hF⟩
      · clear H
        clear hp1 h9 h17 hF
        clear hS
        rintro a w19 ⟨v23, g19, A20, cap21, hpre0, hS, h9, h22, hp1, hF⟩
        subst hpre0
        have H := Fl.go_nxt Hl25
        clear Hl25
        refine ⟨k18, Nat.lt_succ_self _, ?_⟩
        exact ⟨v23.1, v23.2, g19, A20, cap21, H, hS.re ⟨rfl, rfl, rfl, rfl, trivial⟩, h9, h22, hp1, hF⟩

/-! ### ref24_Order: function 18 -/
def ref24_Order.f (p0 : Int) (p1 : List api_Link) : Option ((List Int) × Int) := (ref24_Check.f p0 p1).bind fun r5 => if (r5 != 0) = true then (some ([], r5)) else ((ref24_remove.f p0 p1).bind fun r18 => some (r18.1, 0))
set_option maxRecDepth 100000 in
set_option maxHeartbeats 4000000 in
theorem ref24_Order.calls {p0 : Int} {p1 : List api_Link} {A1 : Option Addr} {cap1 : Nat} {C1 : Nat → Prop} {w : World} {g : Nat → Nat} {out : (List Int) × Int} (N : Nat) (r0 : Nat) (hp1 : RdS kd_api_Link w g C1 A1 cap1 p1) (hC1 : ∀ c, C1 c → c < N) (hr0 : r0 + 2 ≤ N) (H : ref24_Order.f p0 p1 = some out) :
    Calls Try.prog 18 #[.int .i64 p0, .slice A1 p1.length cap1] w (fun e w' => ∃ v, e = .returned v ∧ ∃ (g' : Nat → Nat) (A_r0 : Option Addr) (cap_r0 : Nat), v = .tuple #[.slice A_r0 out.1.length cap_r0, .int .i64 out.2] ∧ OwS (kint .i64) 3 w' g' r0 A_r0 cap_r0 out.1 ∧ Fr (fun q => (r0 ≤ q ∧ q < r0 + 2) ∨ N ≤ q) w g w' g') := by
  unfold ref24_Order.f at H
  refine calls_enter Try.func18 rfl Try.ntmps18 rfl (fun a hS => ?_)
  replace hS : Sl 22 a [(0, .int .i64 p0), (1, .slice A1 p1.length cap1)] := hS
  have hF : Fr (fun q => (r0 ≤ q ∧ q < r0 + 2) ∨ N ≤ q) w g w g := Fr.refl _ _ _
  refine c_pure [(0, .int .i64 p0), (1, .slice A1 p1.length cap1)] (fun R hR => st_val hS rfl rfl rfl (r_assign hS rfl rfl) fun a1 hS1 => st_val hS1 rfl rfl rfl (r_assign hS1 rfl rfl) fun a2 hS2 => wpList_nil (hR _ (hS2.re ⟨rfl, rfl, trivial⟩))) ?_
  clear hS
  clear a
  intro a hS
  refine wp_seq ?_
  obtain ⟨r5, hr6, H⟩ := bind_el H
  refine c_region (fun K hK => ?_)
  refine st_val hS rfl rfl rfl (r_move hS rfl rfl) fun a3 hS3 => st_val hS3 rfl rfl rfl (r_move hS3 rfl rfl) fun a4 hS4 => ?_
  refine st_enter hS4 rfl rfl rfl (r_call hS4 rfl rfl (by kernel_rfl)) (ref24_Check.calls (C1 := C1) (p0 := p0) (p1 := p1) (g := g) (N + 4)  hp1 (fun q (hq : C1 q) => by have := hC1 q hq; omega) hr6) ?_
  rintro _ a7 w8 ⟨g8, rfl, F8⟩ hS7
  replace hp1 := RdS.fr hp1 F8 (by decide) (fun q (hq : C1 q) (hm : N + 4 ≤ q) => by have := hC1 q hq; omega)
  replace hF := hF.trans F8 (fun c' (hm : N + 4 ≤ c') => by show (r0 ≤ c' ∧ c' < r0 + 2) ∨ N ≤ c'; omega)
  refine st_val hS7 rfl rfl rfl (r_assign hS7 rfl rfl) fun a9 hS9 => wpList_nil (hK _ _ ?_)
  replace hS : Sl 22 _ [(0, .int .i64 p0), (1, .slice A1 p1.length cap1), (6, .int .i64 r5)] := hS9.re ⟨rfl, rfl, rfl, trivial⟩
  clear hK K
  try clear hS3 hS4 hS7 hS9
  obtain ⟨a, ha⟩ : ∃ a', a' = a9 := ⟨_, rfl⟩
  rw [← ha] at hS ⊢; clear ha
  refine c_pure [(0, .int .i64 p0), (1, .slice A1 p1.length cap1), (6, .int .i64 r5), (13, .bool (r5 != 0))] (fun R hR => st_val hS rfl rfl rfl (r_move hS rfl rfl) fun a10 hS10 => st_val hS10 rfl rfl rfl (r_bin hS10 rfl rfl rfl b_neq) fun a11 hS11 => wpList_nil (hR _ (hS11.re ⟨rfl, rfl, rfl, rfl, trivial⟩))) ?_
  clear hS
  clear a
  intro a hS
  refine c_cond hS rfl (fun hb12 => ?_) (fun hb12 => ?_)
  · replace H := ite_t hb12 H
    refine c_pure [(4, .slice none 0 0), (5, .int .i64 r5)] (fun R hR => st_val hS rfl rfl rfl (r_move hS rfl rfl) fun a13 hS13 => st_val hS13 rfl rfl rfl (r_assign hS13 rfl rfl) fun a14 hS14 => st_val hS14 rfl rfl rfl (r_assign hS14 rfl rfl) fun a15 hS15 => wpList_nil (hR _ (hS15.re ⟨rfl, rfl, trivial⟩))) ?_
    clear hS
    clear a
    intro a hS
    refine wp_ret ?_
    have e := Option.some.inj H
    subst e
    repeat (with_reducible first | refine then_ret ?_ | refine inBlock_ret ?_)
    exact c_ret2 hS Try.results18 rfl rfl ⟨_, rfl, g8, none, 0, rfl, OwS.nil (kint .i64) 3 w8 g8 r0, hF⟩
  · replace H := ite_f hb12 H
    refine wp_skip ?_
    change Code.wp _ _ _ _ _
    obtain ⟨r18, hr19, H⟩ := bind_el H
    refine c_region (fun K hK => ?_)
    refine st_val hS rfl rfl rfl (r_move hS rfl rfl) fun a16 hS16 => st_val hS16 rfl rfl rfl (r_move hS16 rfl rfl) fun a17 hS17 => ?_
    refine st_enter hS17 rfl rfl rfl (r_call hS17 rfl rfl (by kernel_rfl)) (ref24_remove.calls (C1 := C1) (p0 := p0) (p1 := p1) (g := g8) (N + 4) (N + 0) (N + 2) hp1 (fun q (hq : C1 q) => by have := hC1 q hq; omega) (by omega) (by omega) (by omega) hr19) ?_
    rintro _ a28 w29 ⟨g29, A20, cap21, A24, cap25, rfl, h22, h26, F29⟩ hS28
    replace hp1 := RdS.fr hp1 F29 (by decide) (fun q (hq : C1 q) (hm : (N + 0 ≤ q ∧ q < N + 0 + 2) ∨ (N + 2 ≤ q ∧ q < N + 2 + 2) ∨ N + 4 ≤ q) => by have := hC1 q hq; omega)
    replace hF := hF.trans F29 (fun c' (hm : (N + 0 ≤ c' ∧ c' < N + 0 + 2) ∨ (N + 2 ≤ c' ∧ c' < N + 2 + 2) ∨ N + 4 ≤ c') => by show (r0 ≤ c' ∧ c' < r0 + 2) ∨ N ≤ c'; omega)
    refine st_val hS28 rfl rfl rfl (r_move hS28 rfl rfl) fun a30 hS30 => st_val hS30 rfl rfl rfl (r_extract hS30 rfl rfl rfl) fun a31 hS31 => st_val hS31 rfl rfl rfl (r_extract hS31 rfl rfl rfl) fun a32 hS32 => st_val hS32 rfl rfl rfl (r_assign hS32 rfl rfl) fun a33 hS33 => st_val hS33 rfl rfl rfl (r_assign hS33 rfl rfl) fun a34 hS34 => wpList_nil (hK _ _ ?_)
    replace hS : Sl 22 _ [(7, .slice A20 r18.1.length cap21)] := hS34.re ⟨rfl, trivial⟩
    clear hK K
    try clear hS16 hS17 hS28 hS30 hS31 hS32 hS33 hS34
    obtain ⟨a, ha⟩ : ∃ a', a' = a34 := ⟨_, rfl⟩
    rw [← ha] at hS ⊢; clear ha
    refine c_pure [(4, .slice A20 r18.1.length cap21), (5, .int .i64 0)] (fun R hR => st_val hS rfl rfl rfl (r_move hS rfl rfl) fun a35 hS35 => st_val hS35 rfl rfl rfl (r_assign hS35 rfl rfl) fun a36 hS36 => st_val hS36 rfl rfl rfl (r_assign hS36 rfl rfl) fun a37 hS37 => wpList_nil (hR _ (hS37.re ⟨rfl, rfl, trivial⟩))) ?_
    clear hS
    clear a
    intro a hS
    refine wp_ret ?_
    have e := Option.some.inj H
    subst e
    have F38 := Fr.recol2 w29 g29 (N + 0) r0
    replace h22 := h22.recol2 r0
    replace hF := hF.trans F38 (fun c' (hm : c' = N + 0 ∨ c' = N + 0 + 1) => by show (r0 ≤ c' ∧ c' < r0 + 2) ∨ N ≤ c'; omega)
    repeat (with_reducible first | refine then_ret ?_ | refine inBlock_ret ?_)
    exact c_ret2 hS Try.results18 rfl rfl ⟨_, rfl, (recol2 g29 (N + 0) r0), A20, cap21, rfl, h22, hF⟩

/-! ### ref24_Cycle: function 21 -/
def ref24_Cycle.l0 (r18 : (List Int) × (List Bool)) : Nat → Int → Option (Int)
  | 0, _ => none
  | k46 + 1, m0_0 => (idx r18.2 m0_0).bind fun x49 => if x49 = true then (ref24_Cycle.l0 r18 k46 (wi (m0_0 + 1))) else (some m0_0)
def ref24_Cycle.l2 (m1_0 : Int) (m1_1 : List Int) : Nat → Int → Option (Fl (Fl ((List Int) × Int) (Int × (List Int))) (Unit))
  | 0, _ => none
  | k74 + 1, m2_0 => if decide (m2_0 < (m1_1.length : Int)) = true then ((idx m1_1 m2_0).bind fun x82 => if (x82 == m1_0) = true then ((slc m1_1 m2_0 (m1_1.length : Int)).bind fun y96 => (app ([] : List Int) y96).bind fun y101 => some (.out (.out (y101, 0)))) else (ref24_Cycle.l2 m1_0 m1_1 k74 (wi (m2_0 + 1)))) else (some (.nxt ()))
def ref24_Cycle.l3 (p1 : List api_Link) (r18 : (List Int) × (List Bool)) (m1_0 : Int) : Nat → Int → Int → Option (Int)
  | 0, _, _ => none
  | k137 + 1, m3_0, m3_1 => if decide (m3_1 < (p1.length : Int)) = true then (((idx p1 m3_1).bind fun x148 => (if (x148.Consumer == m1_0) = true then (idx r18.2 x148.Supplier).bind fun x163 => some (!x163) else some false).bind fun t168 => if (t168 && (decide (x148.Supplier < m3_0))) = true then (some x148.Supplier) else (some m3_0) : Option (Int)).bind fun v143 => ref24_Cycle.l3 p1 r18 m1_0 k137 v143 (wi (m3_1 + 1))) else (some m3_0)
def ref24_Cycle.l1 (p0 : Int) (p1 : List api_Link) (r18 : (List Int) × (List Bool)) : Nat → Int → (List Int) → Option ((List Int) × Int)
  | 0, _, _ => none
  | k62 + 1, m1_0, m1_1 => ((ref24_Cycle.l2 m1_0 m1_1 FUEL 0 : Option (Fl (Fl ((List Int) × Int) (Int × (List Int))) (Unit))).bind fun o71 => o71.go fun _ => (app m1_1 [m1_0]).bind fun y122 => (ref24_Cycle.l3 p1 r18 m1_0 FUEL p0 0 : Option (Int)).bind fun v133 => some (.nxt (v133, y122)) : Option (Fl ((List Int) × Int) (Int × (List Int)))).bind fun o68 => o68.go fun v67 => ref24_Cycle.l1 p0 p1 r18 k62 v67.1 v67.2
def ref24_Cycle.f (p0 : Int) (p1 : List api_Link) : Option ((List Int) × Int) := (ref24_Basic.f p0 p1).bind fun r5 => if (r5 != 0) = true then (some ([], r5)) else ((ref24_remove.f p0 p1).bind fun r18 => if ((r18.1.length : Int) == p0) = true then (some ([], 6)) else ((ref24_Cycle.l0 r18 FUEL 0 : Option (Int)).bind fun v43 => ref24_Cycle.l1 p0 p1 r18 FUEL v43 []))
set_option maxRecDepth 100000 in
set_option maxHeartbeats 4000000 in
theorem ref24_Cycle.calls {p0 : Int} {p1 : List api_Link} {A1 : Option Addr} {cap1 : Nat} {C1 : Nat → Prop} {w : World} {g : Nat → Nat} {out : (List Int) × Int} (N : Nat) (r0 : Nat) (hp1 : RdS kd_api_Link w g C1 A1 cap1 p1) (hC1 : ∀ c, C1 c → c < N) (hr0 : r0 + 2 ≤ N) (H : ref24_Cycle.f p0 p1 = some out) :
    Calls Try.prog 21 #[.int .i64 p0, .slice A1 p1.length cap1] w (fun e w' => ∃ v, e = .returned v ∧ ∃ (g' : Nat → Nat) (A_r0 : Option Addr) (cap_r0 : Nat), v = .tuple #[.slice A_r0 out.1.length cap_r0, .int .i64 out.2] ∧ OwS (kint .i64) 3 w' g' r0 A_r0 cap_r0 out.1 ∧ Fr (fun q => (r0 ≤ q ∧ q < r0 + 2) ∨ N ≤ q) w g w' g') := by
  unfold ref24_Cycle.f at H
  refine calls_enter Try.func21 rfl Try.ntmps21 rfl (fun a hS => ?_)
  replace hS : Sl 97 a [(0, .int .i64 p0), (1, .slice A1 p1.length cap1)] := hS
  have hF : Fr (fun q => (r0 ≤ q ∧ q < r0 + 2) ∨ N ≤ q) w g w g := Fr.refl _ _ _
  refine c_pure [(0, .int .i64 p0), (1, .slice A1 p1.length cap1)] (fun R hR => st_val hS rfl rfl rfl (r_assign hS rfl rfl) fun a1 hS1 => st_val hS1 rfl rfl rfl (r_assign hS1 rfl rfl) fun a2 hS2 => wpList_nil (hR _ (hS2.re ⟨rfl, rfl, trivial⟩))) ?_
  clear hS
  clear a
  intro a hS
  refine wp_seq ?_
  obtain ⟨r5, hr6, H⟩ := bind_el H
  refine c_region (fun K hK => ?_)
  refine st_val hS rfl rfl rfl (r_move hS rfl rfl) fun a3 hS3 => st_val hS3 rfl rfl rfl (r_move hS3 rfl rfl) fun a4 hS4 => ?_
  refine st_enter hS4 rfl rfl rfl (r_call hS4 rfl rfl (by kernel_rfl)) (ref24_Basic.calls (C1 := C1) (p0 := p0) (p1 := p1) (g := g) (N + 12)  hp1 (fun q (hq : C1 q) => by have := hC1 q hq; omega) hr6) ?_
  rintro _ a7 w8 ⟨g8, rfl, F8⟩ hS7
  replace hp1 := RdS.fr hp1 F8 (by decide) (fun q (hq : C1 q) (hm : N + 12 ≤ q) => by have := hC1 q hq; omega)
  replace hF := hF.trans F8 (fun c' (hm : N + 12 ≤ c') => by show (r0 ≤ c' ∧ c' < r0 + 2) ∨ N ≤ c'; omega)
  refine st_val hS7 rfl rfl rfl (r_assign hS7 rfl rfl) fun a9 hS9 => wpList_nil (hK _ _ ?_)
  replace hS : Sl 97 _ [(0, .int .i64 p0), (1, .slice A1 p1.length cap1), (6, .int .i64 r5)] := hS9.re ⟨rfl, rfl, rfl, trivial⟩
  clear hK K
  try clear hS3 hS4 hS7 hS9
  obtain ⟨a, ha⟩ : ∃ a', a' = a9 := ⟨_, rfl⟩
  rw [← ha] at hS ⊢; clear ha
  refine c_pure [(0, .int .i64 p0), (1, .slice A1 p1.length cap1), (6, .int .i64 r5), (18, .bool (r5 != 0))] (fun R hR => st_val hS rfl rfl rfl (r_move hS rfl rfl) fun a10 hS10 => st_val hS10 rfl rfl rfl (r_bin hS10 rfl rfl rfl b_neq) fun a11 hS11 => wpList_nil (hR _ (hS11.re ⟨rfl, rfl, rfl, rfl, trivial⟩))) ?_
  clear hS
  clear a
  intro a hS
  refine c_cond hS rfl (fun hb12 => ?_) (fun hb12 => ?_)
  · replace H := ite_t hb12 H
    refine c_pure [(4, .slice none 0 0), (5, .int .i64 r5)] (fun R hR => st_val hS rfl rfl rfl (r_move hS rfl rfl) fun a13 hS13 => st_val hS13 rfl rfl rfl (r_assign hS13 rfl rfl) fun a14 hS14 => st_val hS14 rfl rfl rfl (r_assign hS14 rfl rfl) fun a15 hS15 => wpList_nil (hR _ (hS15.re ⟨rfl, rfl, trivial⟩))) ?_
    clear hS
    clear a
    intro a hS
    refine wp_ret ?_
    have e := Option.some.inj H
    subst e
    repeat (with_reducible first | refine then_ret ?_ | refine inBlock_ret ?_)
    exact c_ret2 hS Try.results21 rfl rfl ⟨_, rfl, g8, none, 0, rfl, OwS.nil (kint .i64) 3 w8 g8 r0, hF⟩
  · replace H := ite_f hb12 H
    refine wp_skip ?_
    change Code.wp _ _ _ _ _
    obtain ⟨r18, hr19, H⟩ := bind_el H
    refine c_region (fun K hK => ?_)
    refine st_val hS rfl rfl rfl (r_move hS rfl rfl) fun a16 hS16 => st_val hS16 rfl rfl rfl (r_move hS16 rfl rfl) fun a17 hS17 => ?_
    refine st_enter hS17 rfl rfl rfl (r_call hS17 rfl rfl (by kernel_rfl)) (ref24_remove.calls (C1 := C1) (p0 := p0) (p1 := p1) (g := g8) (N + 12) (N + 0) (N + 2) hp1 (fun q (hq : C1 q) => by have := hC1 q hq; omega) (by omega) (by omega) (by omega) hr19) ?_
    rintro _ a28 w29 ⟨g29, A20, cap21, A24, cap25, rfl, h22, h26, F29⟩ hS28
    replace hp1 := RdS.fr hp1 F29 (by decide) (fun q (hq : C1 q) (hm : (N + 0 ≤ q ∧ q < N + 0 + 2) ∨ (N + 2 ≤ q ∧ q < N + 2 + 2) ∨ N + 12 ≤ q) => by have := hC1 q hq; omega)
    replace hF := hF.trans F29 (fun c' (hm : (N + 0 ≤ c' ∧ c' < N + 0 + 2) ∨ (N + 2 ≤ c' ∧ c' < N + 2 + 2) ∨ N + 12 ≤ c') => by show (r0 ≤ c' ∧ c' < r0 + 2) ∨ N ≤ c'; omega)
    refine st_val hS28 rfl rfl rfl (r_move hS28 rfl rfl) fun a30 hS30 => st_val hS30 rfl rfl rfl (r_extract hS30 rfl rfl rfl) fun a31 hS31 => st_val hS31 rfl rfl rfl (r_extract hS31 rfl rfl rfl) fun a32 hS32 => st_val hS32 rfl rfl rfl (r_assign hS32 rfl rfl) fun a33 hS33 => st_val hS33 rfl rfl rfl (r_assign hS33 rfl rfl) fun a34 hS34 => wpList_nil (hK _ _ ?_)
    replace hS : Sl 97 _ [(0, .int .i64 p0), (1, .slice A1 p1.length cap1), (7, .slice A20 r18.1.length cap21), (8, .slice A24 r18.2.length cap25)] := hS34.re ⟨rfl, rfl, rfl, rfl, trivial⟩
    clear hK K
    try clear hS16 hS17 hS28 hS30 hS31 hS32 hS33 hS34
    obtain ⟨a, ha⟩ : ∃ a', a' = a34 := ⟨_, rfl⟩
    rw [← ha] at hS ⊢; clear ha
    refine wp_seq ?_
    refine c_pure [(0, .int .i64 p0), (1, .slice A1 p1.length cap1), (8, .slice A24 r18.2.length cap25), (29, .bool ((r18.1.length : Int) == p0))] (fun R hR => st_val hS rfl rfl rfl (r_move hS rfl rfl) fun a35 hS35 => st_val hS35 rfl rfl rfl (r_len (e := 3) (sz := 1) (by_ := 8) hS35 rfl rfl (by kernel_rfl)) fun a36 hS36 => st_val hS36 rfl rfl rfl (r_move hS36 rfl rfl) fun a37 hS37 => st_val hS37 rfl rfl rfl (r_bin hS37 rfl rfl rfl b_eql) fun a38 hS38 => wpList_nil (hR _ (hS38.re ⟨rfl, rfl, rfl, rfl, trivial⟩))) ?_
    clear hS
    clear a
    intro a hS
    refine c_cond hS rfl (fun hb39 => ?_) (fun hb39 => ?_)
    · replace H := ite_t hb39 H
      refine c_pure [(4, .slice none 0 0), (5, .int .i64 6)] (fun R hR => st_val hS rfl rfl rfl (r_assign hS rfl rfl) fun a40 hS40 => st_val hS40 rfl rfl rfl (r_assign hS40 rfl rfl) fun a41 hS41 => wpList_nil (hR _ (hS41.re ⟨rfl, rfl, trivial⟩))) ?_
      clear hS
      clear a
      intro a hS
      refine wp_ret ?_
      have e := Option.some.inj H
      subst e
      repeat (with_reducible first | refine then_ret ?_ | refine inBlock_ret ?_)
      exact c_ret2 hS Try.results21 rfl rfl ⟨_, rfl, g29, none, 0, rfl, OwS.nil (kint .i64) 3 w29 g29 r0, hF⟩
    · replace H := ite_f hb39 H
      refine wp_skip ?_
      change Code.wp _ _ _ _ _
      refine c_pure [(0, .int .i64 p0), (1, .slice A1 p1.length cap1), (8, .slice A24 r18.2.length cap25), (9, .int .i64 0)] (fun R hR => st_val hS rfl rfl rfl (r_assign hS rfl rfl) fun a42 hS42 => wpList_nil (hR _ (hS42.re ⟨rfl, rfl, rfl, rfl, trivial⟩))) ?_
      clear hS
      clear a
      intro a hS
      obtain ⟨v43, H, Hl45⟩ := bind_el H
      refine c_cut (fun a w' => w29 = w' ∧ Sl 97 a [(0, .int .i64 p0), (1, .slice A1 p1.length cap1), (8, .slice A24 r18.2.length cap25), (9, .int .i64 v43)]) ?_ ?_
      · refine wp_block ?_
        refine wp_loop_ghost (fun kq => fun a w' => ∃ (m0_0 : Int), ref24_Cycle.l0 r18 kq m0_0 = some v43 ∧ w29 = w' ∧ Sl 97 a [(0, .int .i64 p0), (1, .slice A1 p1.length cap1), (8, .slice A24 r18.2.length cap25), (9, .int .i64 m0_0)]) FUEL ?_ ?_
        · exact ⟨0, H, rfl, hS.re ⟨rfl, rfl, rfl, rfl, trivial⟩⟩
        · clear H
          clear hS
          rintro k46 a w' ⟨m0_0, hpre0, hw, hS⟩
          subst hw
          have H := hpre0
          clear hpre0
          cases k46 with
          | zero => exact absurd H (by simp [ref24_Cycle.l0])
          | succ k46 =>
            rw [ref24_Cycle.l0] at H
            refine wp_seq ?_
            obtain ⟨x49, hx50, H⟩ := bind_el H
            refine c_pure [(0, .int .i64 p0), (1, .slice A1 p1.length cap1), (8, .slice A24 r18.2.length cap25), (9, .int .i64 m0_0), (33, .bool x49)] (fun R hR => st_val hS rfl rfl rfl (r_move hS rfl rfl) fun a47 hS47 => st_val hS47 rfl rfl rfl (r_move hS47 rfl rfl) fun a48 hS48 => st_val hS48 rfl rfl rfl (r_index (e := 4) (sz := 1) (by_ := 1) hS48 rfl rfl rfl (by kernel_rfl) (RdS.some_ (OwS.rd h26) hx50) (idx_lo hx50) (idx_hi hx50)) fun a51 hS51 => st_val hS51 rfl rfl rfl (r_load1 (n := 1) hS51 rfl rfl (by kernel_rfl) (RdS.cell (i := m0_0) (sz := 1) (j := 0) (OwS.rd h26) hx50 rfl)) fun a52 hS52 => wpList_nil (hR _ (hS52.re ⟨rfl, rfl, rfl, rfl, rfl, trivial⟩))) ?_
            clear hS
            clear a
            intro a hS
            refine c_cond hS rfl (fun hb53 => ?_) (fun hb53 => ?_)
            · replace H := ite_t hb53 H
              refine wp_skip ?_
              change Code.wp _ _ _ _ _
              refine wp_block ?_
              refine c_pure1 [(0, .int .i64 p0), (1, .slice A1 p1.length cap1), (8, .slice A24 r18.2.length cap25), (9, .int .i64 (wi (m0_0 + 1)))] (fun R hR => st_val hS rfl rfl rfl (r_move hS rfl rfl) fun a54 hS54 => st_val hS54 rfl rfl rfl (r_bin hS54 rfl rfl rfl b_add) fun a55 hS55 => st_val hS55 rfl rfl rfl (r_assign hS55 rfl rfl) fun a56 hS56 => wpList_nil (hR _ (hS56.re ⟨rfl, rfl, rfl, rfl, trivial⟩))) ?_
              clear hS
              clear a
              intro a hS
              refine ⟨k46, Nat.lt_succ_self _, ?_⟩
              exact ⟨wi (m0_0 + 1), H, rfl, hS.re ⟨rfl, rfl, rfl, rfl, trivial⟩⟩
            · replace H := ite_f hb53 H
              refine wp_exit ?_
              have e := Option.some.inj H
              subst e
              exact ⟨rfl, hS.re ⟨rfl, rfl, rfl, rfl, trivial⟩⟩
      · clear H
        clear hS
        rintro a w' ⟨hw, hS⟩
        subst hw
        have H := Hl45
        clear Hl45
        refine c_pure [(0, .int .i64 p0), (1, .slice A1 p1.length cap1), (8, .slice A24 r18.2.length cap25), (9, .int .i64 v43), (10, .slice none 0 0)] (fun R hR => st_val hS rfl rfl rfl (r_assign hS rfl rfl) fun a57 hS57 => wpList_nil (hR _ (hS57.re ⟨rfl, rfl, rfl, rfl, rfl, trivial⟩))) ?_
        clear hS
        clear a
        intro a hS
        refine wp_block ?_
        refine wp_loop_ghost (fun kq => fun a w58 => ∃ (m1_0 : Int), ∃ (m1_1 : List Int), ∃ (g58 : Nat → Nat), ∃ (A59 : Option Addr), ∃ (cap60 : Nat), ref24_Cycle.l1 p0 p1 r18 kq m1_0 m1_1 = some out ∧ Sl 97 a [(0, .int .i64 p0), (1, .slice A1 p1.length cap1), (8, .slice A24 r18.2.length cap25), (9, .int .i64 m1_0), (10, .slice A59 m1_1.length cap60)] ∧ OwS kbool 4 w58 g58 (N + 2) A24 cap25 r18.2 ∧ OwS (kint .i64) 3 w58 g58 (N + 10) A59 cap60 m1_1 ∧ RdS kd_api_Link w58 g58 C1 A1 cap1 p1 ∧ Fr (fun q => (r0 ≤ q ∧ q < r0 + 2) ∨ N ≤ q) w g w58 g58) FUEL ?_ ?_
        · exact ⟨v43, [], g29, none, 0, H, hS.re ⟨rfl, rfl, rfl, rfl, rfl, trivial⟩, h26, OwS.nil (kint .i64) 3 w29 g29 (N + 10), hp1, hF⟩
        · clear H
          clear hp1 h26 hF
          clear hS
          rintro k62 a w58 ⟨m1_0, m1_1, g58, A59, cap60, hpre0, hS, h26, h61, hp1, hF⟩
          have H := hpre0
          clear hpre0
          cases k62 with
          | zero => exact absurd H (by simp [ref24_Cycle.l1])
          | succ k62 =>
            rw [ref24_Cycle.l1] at H
            obtain ⟨o68, H, Hl69⟩ := bind_el H
            refine c_cut1 (fun a w63 => ∃ (v67 : Int × (List Int)), ∃ (g63 : Nat → Nat), ∃ (A64 : Option Addr), ∃ (cap65 : Nat), o68 = .nxt v67 ∧ Sl 97 a [(0, .int .i64 p0), (1, .slice A1 p1.length cap1), (8, .slice A24 r18.2.length cap25), (9, .int .i64 v67.1), (10, .slice A64 v67.2.length cap65)] ∧ OwS kbool 4 w63 g63 (N + 2) A24 cap25 r18.2 ∧ OwS (kint .i64) 3 w63 g63 (N + 10) A64 cap65 v67.2 ∧ RdS kd_api_Link w63 g63 C1 A1 cap1 p1 ∧ Fr (fun q => (r0 ≤ q ∧ q < r0 + 2) ∨ N ≤ q) w g w63 g63) ?_ ?_
            · refine wp_block ?_
              obtain ⟨o71, H, Hl72⟩ := bind_el H
              refine c_cut (fun a w' => o71 = .nxt () ∧ w58 = w' ∧ Sl 97 a [(0, .int .i64 p0), (1, .slice A1 p1.length cap1), (8, .slice A24 r18.2.length cap25), (9, .int .i64 m1_0), (10, .slice A59 m1_1.length cap60)]) ?_ ?_
              · refine c_pure [(0, .int .i64 p0), (1, .slice A1 p1.length cap1), (8, .slice A24 r18.2.length cap25), (9, .int .i64 m1_0), (10, .slice A59 m1_1.length cap60), (11, .int .i64 0)] (fun R hR => st_val hS rfl rfl rfl (r_assign hS rfl rfl) fun a73 hS73 => wpList_nil (hR _ (hS73.re ⟨rfl, rfl, rfl, rfl, rfl, rfl, trivial⟩))) ?_
                clear hS
                clear a
                intro a hS
                refine wp_block ?_
                refine wp_loop_ghost (fun kq => fun a w' => ∃ (m2_0 : Int), ref24_Cycle.l2 m1_0 m1_1 kq m2_0 = some o71 ∧ w58 = w' ∧ Sl 97 a [(0, .int .i64 p0), (1, .slice A1 p1.length cap1), (8, .slice A24 r18.2.length cap25), (9, .int .i64 m1_0), (10, .slice A59 m1_1.length cap60), (11, .int .i64 m2_0)]) FUEL ?_ ?_
                · exact ⟨0, H, rfl, hS.re ⟨rfl, rfl, rfl, rfl, rfl, rfl, trivial⟩⟩
                · clear H
                  clear hS
                  rintro k74 a w' ⟨m2_0, hpre0, hw, hS⟩
                  subst hw
                  have H := hpre0
                  clear hpre0
                  cases k74 with
                  | zero => exact absurd H (by simp [ref24_Cycle.l2])
                  | succ k74 =>
                    rw [ref24_Cycle.l2] at H
                    refine wp_seq ?_
                    refine c_pure [(0, .int .i64 p0), (1, .slice A1 p1.length cap1), (8, .slice A24 r18.2.length cap25), (9, .int .i64 m1_0), (10, .slice A59 m1_1.length cap60), (11, .int .i64 m2_0), (39, .bool (decide (m2_0 < (m1_1.length : Int))))] (fun R hR => st_val hS rfl rfl rfl (r_move hS rfl rfl) fun a75 hS75 => st_val hS75 rfl rfl rfl (r_move hS75 rfl rfl) fun a76 hS76 => st_val hS76 rfl rfl rfl (r_len (e := 3) (sz := 1) (by_ := 8) hS76 rfl rfl (by kernel_rfl)) fun a77 hS77 => st_val hS77 rfl rfl rfl (r_bin hS77 rfl rfl rfl b_lss) fun a78 hS78 => wpList_nil (hR _ (hS78.re ⟨rfl, rfl, rfl, rfl, rfl, rfl, rfl, trivial⟩))) ?_
                    clear hS
                    clear a
                    intro a hS
                    refine c_cond hS rfl (fun hb79 => ?_) (fun hb79 => ?_)
                    · replace H := ite_t hb79 H
                      refine wp_skip ?_
                      change Code.wp _ _ _ _ _
                      refine wp_seq ?_
                      refine wp_block ?_
                      obtain ⟨x82, hx83, H⟩ := bind_el H
                      refine c_pure [(0, .int .i64 p0), (1, .slice A1 p1.length cap1), (8, .slice A24 r18.2.length cap25), (9, .int .i64 m1_0), (10, .slice A59 m1_1.length cap60), (11, .int .i64 m2_0), (47, .bool (x82 == m1_0))] (fun R hR => st_val hS rfl rfl rfl (r_move hS rfl rfl) fun a80 hS80 => st_val hS80 rfl rfl rfl (r_move hS80 rfl rfl) fun a81 hS81 => st_val hS81 rfl rfl rfl (r_index (e := 3) (sz := 1) (by_ := 8) hS81 rfl rfl rfl (by kernel_rfl) (RdS.some_ (OwS.rd h61) hx83) (idx_lo hx83) (idx_hi hx83)) fun a84 hS84 => st_val hS84 rfl rfl rfl (r_load1 (n := 1) hS84 rfl rfl (by kernel_rfl) (RdS.cell (i := m2_0) (sz := 1) (j := 0) (OwS.rd h61) hx83 rfl)) fun a85 hS85 => st_val hS85 rfl rfl rfl (r_move hS85 rfl rfl) fun a86 hS86 => st_val hS86 rfl rfl rfl (r_bin hS86 rfl rfl rfl b_eql) fun a87 hS87 => wpList_nil (hR _ (hS87.re ⟨rfl, rfl, rfl, rfl, rfl, rfl, rfl, trivial⟩))) ?_
                      clear hS
                      clear a
                      intro a hS
                      refine c_cond hS rfl (fun hb88 => ?_) (fun hb88 => ?_)
                      · replace H := ite_t hb88 H
                        obtain ⟨y96, hy97, H⟩ := bind_el H
                        obtain ⟨y101, hy102, H⟩ := bind_el H
                        refine c_region (fun K hK => ?_)
                        refine st_eff hS rfl rfl rfl (e_lit (e := 3) (parts := []) (cs := []) (kint .i64) ([] : List Int) (N + 6) g58 hS rfl rfl (fun _ => by kernel_rfl) rfl (by decide) Rows.nil) ?_
                        rintro _ a92 w93 g93 ⟨⟨A89, rfl, h90⟩, F93⟩ hS92
                        replace h26 := OwS.fr h26 F93 (fun _ _ h => h)
                        replace h61 := OwS.fr h61 F93 (fun _ _ h => h)
                        replace hp1 := RdS.fr hp1 F93 (by decide) (fun _ _ h => h)
                        replace hF := hF.trans F93 (fun _ h => h.elim)
                        refine st_val hS92 rfl rfl rfl (r_move hS92 rfl rfl) fun a94 hS94 => st_val hS94 rfl rfl rfl (r_move hS94 rfl rfl) fun a95 hS95 => ?_
                        have h98 := RdS.slc (OwS.rd h61) hy97
                        refine st_val hS95 rfl rfl rfl (r_slice (e := 3) (sz := 1) (by_ := 8) (l := m2_0) (h := (m1_1.length : Int)) hS95 rfl rfl (by kernel_rfl) rfl rfl hy97 (OwS.rd h61).1) fun a100 hS100 => ?_
                        refine st_eff hS100 rfl rfl rfl (e_append (e := 3) (sz := 1) (by_ := 8) (z := [.int .i64 0]) (kd := (kint .i64)) g93 hS100 rfl rfl rfl rfl (by kernel_rfl) (by kernel_rfl) rfl rfl rfl rfl h90 h98 (fun _ _ _ h => h) hy102) ?_
                        rintro _ a107 w108 g108 ⟨⟨A103, cap104, rfl, h105⟩, F108⟩ hS107
                        replace h26 := OwS.fr h26 F108 (fun c' hc (hm : c' = N + 6) => by omega)
                        replace h98 := RdS.fr h98 F108 (by decide) (fun q (hq : q = N + 10 ∨ q = N + 10 + 1) (hm : q = N + 6) => by rcases hq with hq | hq; all_goals first | (omega; done) | (omega; done))
                        replace h61 := OwS.fr h61 F108 (fun c' hc (hm : c' = N + 6) => by omega)
                        replace hp1 := RdS.fr hp1 F108 (by decide) (fun q (hq : C1 q) (hm : q = N + 6) => by have := hC1 q hq; omega)
                        replace hF := hF.trans F108 (fun c' (hm : c' = N + 6) => by show (r0 ≤ c' ∧ c' < r0 + 2) ∨ N ≤ c'; omega)
                        refine st_val hS107 rfl rfl rfl (r_assign hS107 rfl rfl) fun a109 hS109 => st_val hS109 rfl rfl rfl (r_assign hS109 rfl rfl) fun a110 hS110 => wpList_nil (hK _ _ ?_)
                        replace hS : Sl 97 _ [(4, .slice A103 y101.length cap104), (5, .int .i64 0)] := hS110.re ⟨rfl, rfl, trivial⟩
                        clear hK K
                        try clear hS92 hS94 hS95 hS100 hS107 hS109 hS110
                        obtain ⟨a, ha⟩ : ∃ a', a' = a110 := ⟨_, rfl⟩
                        rw [← ha] at hS ⊢; clear ha
                        refine wp_ret ?_
                        have e := Option.some.inj H
                        subst e
                        replace H := Fl.go_out Hl72
                        have e := Option.some.inj H
                        subst e
                        replace H := Fl.go_out Hl69
                        have e := Option.some.inj H
                        subst e
                        have F111 := Fr.recol2 w108 g108 (N + 6) r0
                        replace h105 := h105.recol2 r0
                        replace hF := hF.trans F111 (fun c' (hm : c' = N + 6 ∨ c' = N + 6 + 1) => by show (r0 ≤ c' ∧ c' < r0 + 2) ∨ N ≤ c'; omega)
                        repeat (with_reducible first | refine then_ret ?_ | refine inBlock_ret ?_)
                        exact c_ret2 hS Try.results21 rfl rfl ⟨_, rfl, (recol2 g108 (N + 6) r0), A103, cap104, rfl, h105, hF⟩
                      · replace H := ite_f hb88 H
                        refine wp_skip ?_
                        change Code.wp _ _ _ _ _
                        refine c_pure1 [(0, .int .i64 p0), (1, .slice A1 p1.length cap1), (8, .slice A24 r18.2.length cap25), (9, .int .i64 m1_0), (10, .slice A59 m1_1.length cap60), (11, .int .i64 (wi (m2_0 + 1)))] (fun R hR => st_val hS rfl rfl rfl (r_move hS rfl rfl) fun a112 hS112 => st_val hS112 rfl rfl rfl (r_bin hS112 rfl rfl rfl b_add) fun a113 hS113 => st_val hS113 rfl rfl rfl (r_assign hS113 rfl rfl) fun a114 hS114 => wpList_nil (hR _ (hS114.re ⟨rfl, rfl, rfl, rfl, rfl, rfl, trivial⟩))) ?_
                        clear hS
                        clear a
                        intro a hS
                        refine ⟨k74, Nat.lt_succ_self _, ?_⟩
                        exact ⟨wi (m2_0 + 1), H, rfl, hS.re ⟨rfl, rfl, rfl, rfl, rfl, rfl, trivial⟩⟩
                    · replace H := ite_f hb79 H
                      refine wp_exit ?_
                      have e := Option.some.inj H
                      exact ⟨e.symm, rfl, hS.re ⟨rfl, rfl, rfl, rfl, rfl, trivial⟩⟩
              · clear H
                clear hS
                rintro a w' ⟨hpre0, hw, hS⟩
                subst hpre0
                subst hw
                have H := Fl.go_nxt Hl72
                clear Hl72
                obtain ⟨y122, hy123, H⟩ := bind_el H
                refine c_region (fun K hK => ?_)
                refine st_val hS rfl rfl rfl (r_move hS rfl rfl) fun a115 hS115 => st_val hS115 rfl rfl rfl (r_move hS115 rfl rfl) fun a116 hS116 => ?_
                refine st_eff hS116 rfl rfl rfl (e_lit (e := 3) (parts := [(0, .int .i64 m1_0)]) (cs := [.int .i64 m1_0]) (kint .i64) [m1_0] (N + 8) g58 hS116 rfl rfl (fun _ => by kernel_rfl) rfl (by decide) (Rows.cons (cs := [.int .i64 m1_0]) rfl Rows.nil)) ?_
                rintro _ a120 w121 g121 ⟨⟨A117, rfl, h118⟩, F121⟩ hS120
                replace h26 := OwS.fr h26 F121 (fun _ _ h => h)
                replace h61 := OwS.fr h61 F121 (fun _ _ h => h)
                replace hp1 := RdS.fr hp1 F121 (by decide) (fun _ _ h => h)
                replace hF := hF.trans F121 (fun _ h => h.elim)
                refine st_eff hS120 rfl rfl rfl (e_append (e := 3) (sz := 1) (by_ := 8) (z := [.int .i64 0]) (kd := (kint .i64)) g121 hS120 rfl rfl rfl rfl (by kernel_rfl) (by kernel_rfl) rfl rfl rfl rfl h61 (OwD.rdx h118) (fun _ _ _ h => h) hy123) ?_
                rintro _ a128 w129 g129 ⟨⟨A124, cap125, rfl, h126⟩, F129⟩ hS128
                replace h118 := OwS.fr h118 F129 (fun c' hc (hm : c' = N + 10) => by omega)
                replace h26 := OwS.fr h26 F129 (fun c' hc (hm : c' = N + 10) => by omega)
                replace hp1 := RdS.fr hp1 F129 (by decide) (fun q (hq : C1 q) (hm : q = N + 10) => by have := hC1 q hq; omega)
                replace hF := hF.trans F129 (fun c' (hm : c' = N + 10) => by show (r0 ≤ c' ∧ c' < r0 + 2) ∨ N ≤ c'; omega)
                refine st_val hS128 rfl rfl rfl (r_assign hS128 rfl rfl) fun a130 hS130 => wpList_nil (hK _ _ ?_)
                replace hS : Sl 97 _ [(0, .int .i64 p0), (1, .slice A1 p1.length cap1), (8, .slice A24 r18.2.length cap25), (9, .int .i64 m1_0), (10, .slice A124 y122.length cap125)] := hS130.re ⟨rfl, rfl, rfl, rfl, rfl, trivial⟩
                clear hK K
                try clear hS115 hS116 hS120 hS128 hS130
                obtain ⟨a, ha⟩ : ∃ a', a' = a130 := ⟨_, rfl⟩
                rw [← ha] at hS ⊢; clear ha
                refine c_pure [(0, .int .i64 p0), (1, .slice A1 p1.length cap1), (8, .slice A24 r18.2.length cap25), (9, .int .i64 m1_0), (10, .slice A124 y122.length cap125), (12, .int .i64 p0)] (fun R hR => st_val hS rfl rfl rfl (r_move hS rfl rfl) fun a131 hS131 => st_val hS131 rfl rfl rfl (r_assign hS131 rfl rfl) fun a132 hS132 => wpList_nil (hR _ (hS132.re ⟨rfl, rfl, rfl, rfl, rfl, rfl, trivial⟩))) ?_
                clear hS
                clear a
                intro a hS
                obtain ⟨v133, H, Hl135⟩ := bind_el H
                refine c_cut (fun a w' => w129 = w' ∧ Sl 97 a [(0, .int .i64 p0), (1, .slice A1 p1.length cap1), (8, .slice A24 r18.2.length cap25), (10, .slice A124 y122.length cap125), (12, .int .i64 v133)]) ?_ ?_
                · refine c_pure [(0, .int .i64 p0), (1, .slice A1 p1.length cap1), (8, .slice A24 r18.2.length cap25), (9, .int .i64 m1_0), (10, .slice A124 y122.length cap125), (12, .int .i64 p0), (13, .int .i64 0)] (fun R hR => st_val hS rfl rfl rfl (r_assign hS rfl rfl) fun a136 hS136 => wpList_nil (hR _ (hS136.re ⟨rfl, rfl, rfl, rfl, rfl, rfl, rfl, trivial⟩))) ?_
                  clear hS
                  clear a
                  intro a hS
                  refine wp_block ?_
                  refine wp_loop_ghost (fun kq => fun a w' => ∃ (m3_0 : Int), ∃ (m3_1 : Int), ref24_Cycle.l3 p1 r18 m1_0 kq m3_0 m3_1 = some v133 ∧ w129 = w' ∧ Sl 97 a [(0, .int .i64 p0), (1, .slice A1 p1.length cap1), (8, .slice A24 r18.2.length cap25), (9, .int .i64 m1_0), (10, .slice A124 y122.length cap125), (12, .int .i64 m3_0), (13, .int .i64 m3_1)]) FUEL ?_ ?_
                  · exact ⟨p0, 0, H, rfl, hS.re ⟨rfl, rfl, rfl, rfl, rfl, rfl, rfl, trivial⟩⟩
                  · clear H
                    clear hS
                    rintro k137 a w' ⟨m3_0, m3_1, hpre0, hw, hS⟩
                    subst hw
                    have H := hpre0
                    clear hpre0
                    cases k137 with
                    | zero => exact absurd H (by simp [ref24_Cycle.l3])
                    | succ k137 =>
                      rw [ref24_Cycle.l3] at H
                      refine wp_seq ?_
                      refine c_pure [(0, .int .i64 p0), (1, .slice A1 p1.length cap1), (8, .slice A24 r18.2.length cap25), (9, .int .i64 m1_0), (10, .slice A124 y122.length cap125), (12, .int .i64 m3_0), (13, .int .i64 m3_1), (61, .bool (decide (m3_1 < (p1.length : Int))))] (fun R hR => st_val hS rfl rfl rfl (r_move hS rfl rfl) fun a138 hS138 => st_val hS138 rfl rfl rfl (r_move hS138 rfl rfl) fun a139 hS139 => st_val hS139 rfl rfl rfl (r_len (e := 34) (sz := 2) (by_ := 16) hS139 rfl rfl (by kernel_rfl)) fun a140 hS140 => st_val hS140 rfl rfl rfl (r_bin hS140 rfl rfl rfl b_lss) fun a141 hS141 => wpList_nil (hR _ (hS141.re ⟨rfl, rfl, rfl, rfl, rfl, rfl, rfl, rfl, trivial⟩))) ?_
                      clear hS
                      clear a
                      intro a hS
                      refine c_cond hS rfl (fun hb142 => ?_) (fun hb142 => ?_)
                      · replace H := ite_t hb142 H
                        refine wp_skip ?_
                        change Code.wp _ _ _ _ _
                        obtain ⟨v143, H, Hl145⟩ := bind_el H
                        refine c_cut (fun a w' => w129 = w' ∧ Sl 97 a [(0, .int .i64 p0), (1, .slice A1 p1.length cap1), (8, .slice A24 r18.2.length cap25), (9, .int .i64 m1_0), (10, .slice A124 y122.length cap125), (12, .int .i64 v143), (13, .int .i64 m3_1)]) ?_ ?_
                        · refine wp_block ?_
                          obtain ⟨x148, hx149, H⟩ := bind_el H
                          obtain ⟨t168, ht169, H⟩ := bind_el H
                          refine c_region (fun K hK => ?_)
                          refine st_val hS rfl rfl rfl (r_move hS rfl rfl) fun a146 hS146 => st_val hS146 rfl rfl rfl (r_move hS146 rfl rfl) fun a147 hS147 => st_val hS147 rfl rfl rfl (r_index (e := 34) (sz := 2) (by_ := 16) hS147 rfl rfl rfl (by kernel_rfl) (RdS.some_ hp1 hx149) (idx_lo hx149) (idx_hi hx149)) fun a150 hS150 => st_val hS150 rfl rfl rfl (r_fieldE (off := 0) hS150 rfl rfl (by kernel_rfl)) fun a151 hS151 => st_val hS151 rfl rfl rfl (r_load1 (n := 1) hS151 rfl rfl (by kernel_rfl) (RdS.cell (i := m3_1) (sz := 2) (j := 0) hp1 hx149 rfl)) fun a152 hS152 => st_val hS152 rfl rfl rfl (r_move hS152 rfl rfl) fun a153 hS153 => st_val hS153 rfl rfl rfl (r_bin hS153 rfl rfl rfl b_eql) fun a154 hS154 => st_val hS154 rfl rfl rfl (r_move hS154 rfl rfl) fun a155 hS155 => ?_
                          refine g_join (N := 97) 10 [(0, .int .i64 p0), (1, .slice A1 p1.length cap1), (8, .slice A24 r18.2.length cap25), (9, .int .i64 m1_0), (10, .slice A124 y122.length cap125), (12, .int .i64 m3_0), (13, .int .i64 m3_1), (81, .bool t168)] ?_ (fun hk => ?_)
                          rotate_left
                          · rcases Bool.eq_false_or_eq_true ((x148.Consumer == m1_0)) with hb156 | hb156
                            · have H := ite_t hb156 ht169
                              obtain ⟨x176, hx177, H⟩ := bind_el H
                              have e181 := Option.some.inj H
                              refine st_valW hS155 (want_on hS155 rfl rfl rfl hb156) rfl rfl (r_move hS155 rfl rfl) fun a170 hS170 => st_valW hS170 (want_on hS170 rfl rfl rfl hb156) rfl rfl (r_move hS170 rfl rfl) fun a171 hS171 => st_valW hS171 (want_on hS171 rfl rfl rfl hb156) rfl rfl (r_move hS171 rfl rfl) fun a172 hS172 => st_valW hS172 (want_on hS172 rfl rfl rfl hb156) rfl rfl (r_index (e := 34) (sz := 2) (by_ := 16) hS172 rfl rfl rfl (by kernel_rfl) (RdS.some_ hp1 hx149) (idx_lo hx149) (idx_hi hx149)) fun a173 hS173 => st_valW hS173 (want_on hS173 rfl rfl rfl hb156) rfl rfl (r_fieldE (off := 1) hS173 rfl rfl (by kernel_rfl)) fun a174 hS174 => st_valW hS174 (want_on hS174 rfl rfl rfl hb156) rfl rfl (r_load1 (n := 1) hS174 rfl rfl (by kernel_rfl) (RdS.cell (i := m3_1) (sz := 2) (j := 1) hp1 hx149 rfl)) fun a175 hS175 => st_valW hS175 (want_on hS175 rfl rfl rfl hb156) rfl rfl (r_index (e := 4) (sz := 1) (by_ := 1) hS175 rfl rfl rfl (by kernel_rfl) (RdS.some_ (OwS.rd h26) hx177) (idx_lo hx177) (idx_hi hx177)) fun a178 hS178 => st_valW hS178 (want_on hS178 rfl rfl rfl hb156) rfl rfl (r_load1 (n := 1) hS178 rfl rfl (by kernel_rfl) (RdS.cell (i := x148.Supplier) (sz := 1) (j := 0) (OwS.rd h26) hx177 rfl)) fun a179 hS179 => st_valW hS179 (want_on hS179 rfl rfl rfl hb156) rfl rfl (r_not hS179 rfl rfl) fun a180 hS180 => st_val hS180 rfl rfl rfl (r_pickT hS180 rfl rfl rfl hb156) fun a182 hS182 => hk _ (hS182.re ⟨rfl, rfl, rfl, rfl, rfl, rfl, rfl, (by rw [← e181]; rfl), trivial⟩)
                            · have H := ite_f hb156 ht169
                              have e183 := Option.some.inj H
                              refine st_off hS155 (want_off hS155 rfl rfl rfl hb156) rfl rfl fun a184 hS184 => st_off hS184 (want_off hS184 rfl rfl rfl hb156) rfl rfl fun a185 hS185 => st_off hS185 (want_off hS185 rfl rfl rfl hb156) rfl rfl fun a186 hS186 => st_off hS186 (want_off hS186 rfl rfl rfl hb156) rfl rfl fun a187 hS187 => st_off hS187 (want_off hS187 rfl rfl rfl hb156) rfl rfl fun a188 hS188 => st_off hS188 (want_off hS188 rfl rfl rfl hb156) rfl rfl fun a189 hS189 => st_off hS189 (want_off hS189 rfl rfl rfl hb156) rfl rfl fun a190 hS190 => st_off hS190 (want_off hS190 rfl rfl rfl hb156) rfl rfl fun a191 hS191 => st_off hS191 (want_off hS191 rfl rfl rfl hb156) rfl rfl fun a192 hS192 => st_val hS192 rfl rfl rfl (r_pickF hS192 rfl rfl rfl hb156) fun a193 hS193 => hk _ (hS193.re ⟨rfl, rfl, rfl, rfl, rfl, rfl, rfl, (by rw [← e183]; rfl), trivial⟩)
                          intro a194 hS194
                          refine st_val hS194 rfl rfl rfl (r_move hS194 rfl rfl) fun a195 hS195 => ?_
                          refine g_join (N := 97) 8 [(0, .int .i64 p0), (1, .slice A1 p1.length cap1), (8, .slice A24 r18.2.length cap25), (9, .int .i64 m1_0), (10, .slice A124 y122.length cap125), (12, .int .i64 m3_0), (13, .int .i64 m3_1), (90, .bool (t168 && (decide (x148.Supplier < m3_0))))] ?_ (fun hk => ?_)
                          rotate_left
                          · rcases Bool.eq_false_or_eq_true (t168) with hb196 | hb196
                            · refine st_valW hS195 (want_on hS195 rfl rfl rfl hb196) rfl rfl (r_move hS195 rfl rfl) fun a204 hS204 => st_valW hS204 (want_on hS204 rfl rfl rfl hb196) rfl rfl (r_move hS204 rfl rfl) fun a205 hS205 => st_valW hS205 (want_on hS205 rfl rfl rfl hb196) rfl rfl (r_index (e := 34) (sz := 2) (by_ := 16) hS205 rfl rfl rfl (by kernel_rfl) (RdS.some_ hp1 hx149) (idx_lo hx149) (idx_hi hx149)) fun a206 hS206 => st_valW hS206 (want_on hS206 rfl rfl rfl hb196) rfl rfl (r_fieldE (off := 1) hS206 rfl rfl (by kernel_rfl)) fun a207 hS207 => st_valW hS207 (want_on hS207 rfl rfl rfl hb196) rfl rfl (r_load1 (n := 1) hS207 rfl rfl (by kernel_rfl) (RdS.cell (i := m3_1) (sz := 2) (j := 1) hp1 hx149 rfl)) fun a208 hS208 => st_valW hS208 (want_on hS208 rfl rfl rfl hb196) rfl rfl (r_move hS208 rfl rfl) fun a209 hS209 => st_valW hS209 (want_on hS209 rfl rfl rfl hb196) rfl rfl (r_bin hS209 rfl rfl rfl b_lss) fun a210 hS210 => st_val hS210 rfl rfl rfl (r_pickT hS210 rfl rfl rfl hb196) fun a211 hS211 => hk _ (hS211.re ⟨rfl, rfl, rfl, rfl, rfl, rfl, rfl, (by rw [hb196]; rfl), trivial⟩)
                            · refine st_off hS195 (want_off hS195 rfl rfl rfl hb196) rfl rfl fun a212 hS212 => st_off hS212 (want_off hS212 rfl rfl rfl hb196) rfl rfl fun a213 hS213 => st_off hS213 (want_off hS213 rfl rfl rfl hb196) rfl rfl fun a214 hS214 => st_off hS214 (want_off hS214 rfl rfl rfl hb196) rfl rfl fun a215 hS215 => st_off hS215 (want_off hS215 rfl rfl rfl hb196) rfl rfl fun a216 hS216 => st_off hS216 (want_off hS216 rfl rfl rfl hb196) rfl rfl fun a217 hS217 => st_off hS217 (want_off hS217 rfl rfl rfl hb196) rfl rfl fun a218 hS218 => st_val hS218 rfl rfl rfl (r_pickF hS218 rfl rfl rfl hb196) fun a219 hS219 => hk _ (hS219.re ⟨rfl, rfl, rfl, rfl, rfl, rfl, rfl, (by rw [hb196]; rfl), trivial⟩)
                          intro a220 hS220
                          refine wpList_nil (hK _ _ ?_)
                          replace hS : Sl 97 _ [(0, .int .i64 p0), (1, .slice A1 p1.length cap1), (8, .slice A24 r18.2.length cap25), (9, .int .i64 m1_0), (10, .slice A124 y122.length cap125), (12, .int .i64 m3_0), (13, .int .i64 m3_1), (90, .bool (t168 && (decide (x148.Supplier < m3_0))))] := hS220.re ⟨rfl, rfl, rfl, rfl, rfl, rfl, rfl, rfl, trivial⟩
                          clear hK K
                          try clear hS146 hS147 hS150 hS151 hS152 hS153 hS154 hS155 hS194 hS195 hS220
                          obtain ⟨a, ha⟩ : ∃ a', a' = a220 := ⟨_, rfl⟩
                          rw [← ha] at hS ⊢; clear ha
                          refine c_cond hS rfl (fun hb221 => ?_) (fun hb221 => ?_)
                          · replace H := ite_t hb221 H
                            refine c_pure1 [(0, .int .i64 p0), (1, .slice A1 p1.length cap1), (8, .slice A24 r18.2.length cap25), (9, .int .i64 m1_0), (10, .slice A124 y122.length cap125), (12, .int .i64 x148.Supplier), (13, .int .i64 m3_1)] (fun R hR => st_val hS rfl rfl rfl (r_move hS rfl rfl) fun a222 hS222 => st_val hS222 rfl rfl rfl (r_move hS222 rfl rfl) fun a223 hS223 => st_val hS223 rfl rfl rfl (r_index (e := 34) (sz := 2) (by_ := 16) hS223 rfl rfl rfl (by kernel_rfl) (RdS.some_ hp1 hx149) (idx_lo hx149) (idx_hi hx149)) fun a224 hS224 => st_val hS224 rfl rfl rfl (r_fieldE (off := 1) hS224 rfl rfl (by kernel_rfl)) fun a225 hS225 => st_val hS225 rfl rfl rfl (r_load1 (n := 1) hS225 rfl rfl (by kernel_rfl) (RdS.cell (i := m3_1) (sz := 2) (j := 1) hp1 hx149 rfl)) fun a226 hS226 => st_val hS226 rfl rfl rfl (r_assign hS226 rfl rfl) fun a227 hS227 => wpList_nil (hR _ (hS227.re ⟨rfl, rfl, rfl, rfl, rfl, rfl, rfl, trivial⟩))) ?_
                            clear hS
                            clear a
                            intro a hS
                            have e := Option.some.inj H
                            subst e
                            exact ⟨rfl, hS.re ⟨rfl, rfl, rfl, rfl, rfl, rfl, rfl, trivial⟩⟩
                          · replace H := ite_f hb221 H
                            refine wp_skip ?_
                            have e := Option.some.inj H
                            subst e
                            exact ⟨rfl, hS.re ⟨rfl, rfl, rfl, rfl, rfl, rfl, rfl, trivial⟩⟩
                        · clear H
                          clear hS
                          rintro a w' ⟨hw, hS⟩
                          subst hw
                          have H := Hl145
                          clear Hl145
                          refine c_pure1 [(0, .int .i64 p0), (1, .slice A1 p1.length cap1), (8, .slice A24 r18.2.length cap25), (9, .int .i64 m1_0), (10, .slice A124 y122.length cap125), (12, .int .i64 v143), (13, .int .i64 (wi (m3_1 + 1)))] (fun R hR => st_val hS rfl rfl rfl (r_move hS rfl rfl) fun a228 hS228 => st_val hS228 rfl rfl rfl (r_bin hS228 rfl rfl rfl b_add) fun a229 hS229 => st_val hS229 rfl rfl rfl (r_assign hS229 rfl rfl) fun a230 hS230 => wpList_nil (hR _ (hS230.re ⟨rfl, rfl, rfl, rfl, rfl, rfl, rfl, trivial⟩))) ?_
                          clear hS
                          clear a
                          intro a hS
                          refine ⟨k137, Nat.lt_succ_self _, ?_⟩
                          exact ⟨v143, wi (m3_1 + 1), H, rfl, hS.re ⟨rfl, rfl, rfl, rfl, rfl, rfl, rfl, trivial⟩⟩
                      · replace H := ite_f hb142 H
                        refine wp_exit ?_
                        have e := Option.some.inj H
                        subst e
                        exact ⟨rfl, hS.re ⟨rfl, rfl, rfl, rfl, rfl, trivial⟩⟩
                · clear H
                  clear hS
                  rintro a w' ⟨hw, hS⟩
                  subst hw
                  have H := Hl135
                  clear Hl135
                  refine c_pure1 [(0, .int .i64 p0), (1, .slice A1 p1.length cap1), (8, .slice A24 r18.2.length cap25), (9, .int .i64 v133), (10, .slice A124 y122.length cap125)] (fun R hR => st_val hS rfl rfl rfl (r_move hS rfl rfl) fun a231 hS231 => st_val hS231 rfl rfl rfl (r_assign hS231 rfl rfl) fun a232 hS232 => wpList_nil (hR _ (hS232.re ⟨rfl, rfl, rfl, rfl, rfl, trivial⟩))) ?_
                  clear hS
                  clear a
                  intro a hS
                  have e := Option.some.inj H
                  exact ⟨(v133, y122), g129, A124, cap125, e.symm, hS.re ⟨rfl, rfl, rfl, rfl, rfl, trivial⟩, h26, h126, hp1, hF⟩
            · clear H
              clear hp1 h26 h61 hF
              clear hS
              rintro a w63 ⟨v67, g63, A64, cap65, hpre0, hS, h26, h66, hp1, hF⟩
              subst hpre0
              have H := Fl.go_nxt Hl69
              clear Hl69
              refine ⟨k62, Nat.lt_succ_self _, ?_⟩
              exact ⟨v67.1, v67.2, g63, A64, cap65, H, hS.re ⟨rfl, rfl, rfl, rfl, rfl, trivial⟩, h26, h66, hp1, hF⟩

/-! ### ref24_Levels: function 24 -/
def ref24_Levels.l1 (p1 : List api_Link) (r5 : (List Int) × Int) (m0_1 : Int) : Nat → (List Int) → Int → Option ((List Int))
  | 0, _, _ => none
  | k51 + 1, m1_0, m1_1 => if decide (m1_1 < (p1.length : Int)) = true then (((idx p1 m1_1).bind fun x64 => (idx r5.1 m0_1).bind fun x71 => (if (x64.Consumer == x71) = true then (idx m1_0 x64.Supplier).bind fun x84 => (idx m1_0 x71).bind fun x94 => some (decide (x94 < (wi (x84 + 1)))) else some false).bind fun t99 => if t99 = true then ((idx m1_0 x64.Supplier).bind fun x145 => (idx m1_0 x71).bind fun x147 => some (upd m1_0 x71 (wi (x145 + 1)))) else (some m1_0) : Option ((List Int))).bind fun v58 => ref24_Levels.l1 p1 r5 m0_1 k51 v58 (wi (m1_1 + 1))) else (some m1_0)
def ref24_Levels.l0 (p0 : Int) (p1 : List api_Link) (r5 : (List Int) × Int) : Nat → (List Int) → Int → Option ((List Int))
  | 0, _, _ => none
  | k40 + 1, m0_0, m0_1 => if decide (m0_1 < p0) = true then ((ref24_Levels.l1 p1 r5 m0_1 FUEL m0_0 0 : Option ((List Int))).bind fun v46 => ref24_Levels.l0 p0 p1 r5 k40 v46 (wi (m0_1 + 1))) else (some m0_0)
def ref24_Levels.f (p0 : Int) (p1 : List api_Link) : Option ((List Int) × Int) := (ref24_Order.f p0 p1).bind fun r5 => if (r5.2 != 0) = true then (some ([], r5.2)) else ((mk p0 0).bind fun y25 => (ref24_Levels.l0 p0 p1 r5 FUEL y25 0 : Option ((List Int))).bind fun v35 => some (v35, 0))
set_option maxRecDepth 100000 in
set_option maxHeartbeats 4000000 in
theorem ref24_Levels.calls {p0 : Int} {p1 : List api_Link} {A1 : Option Addr} {cap1 : Nat} {C1 : Nat → Prop} {w : World} {g : Nat → Nat} {out : (List Int) × Int} (N : Nat) (r0 : Nat) (hp1 : RdS kd_api_Link w g C1 A1 cap1 p1) (hC1 : ∀ c, C1 c → c < N) (hr0 : r0 + 2 ≤ N) (H : ref24_Levels.f p0 p1 = some out) :
    Calls Try.prog 24 #[.int .i64 p0, .slice A1 p1.length cap1] w (fun e w' => ∃ v, e = .returned v ∧ ∃ (g' : Nat → Nat) (A_r0 : Option Addr) (cap_r0 : Nat), v = .tuple #[.slice A_r0 out.1.length cap_r0, .int .i64 out.2] ∧ OwS (kint .i64) 3 w' g' r0 A_r0 cap_r0 out.1 ∧ Fr (fun q => (r0 ≤ q ∧ q < r0 + 2) ∨ N ≤ q) w g w' g') := by
  unfold ref24_Levels.f at H
  refine calls_enter Try.func24 rfl Try.ntmps24 rfl (fun a hS => ?_)
  replace hS : Sl 78 a [(0, .int .i64 p0), (1, .slice A1 p1.length cap1)] := hS
  have hF : Fr (fun q => (r0 ≤ q ∧ q < r0 + 2) ∨ N ≤ q) w g w g := Fr.refl _ _ _
  refine c_pure [(0, .int .i64 p0), (1, .slice A1 p1.length cap1)] (fun R hR => st_val hS rfl rfl rfl (r_assign hS rfl rfl) fun a1 hS1 => st_val hS1 rfl rfl rfl (r_assign hS1 rfl rfl) fun a2 hS2 => wpList_nil (hR _ (hS2.re ⟨rfl, rfl, trivial⟩))) ?_
  clear hS
  clear a
  intro a hS
  obtain ⟨r5, hr6, H⟩ := bind_el H
  refine c_region (fun K hK => ?_)
  refine st_val hS rfl rfl rfl (r_move hS rfl rfl) fun a3 hS3 => st_val hS3 rfl rfl rfl (r_move hS3 rfl rfl) fun a4 hS4 => ?_
  refine st_enter hS4 rfl rfl rfl (r_call hS4 rfl rfl (by kernel_rfl)) (ref24_Order.calls (C1 := C1) (p0 := p0) (p1 := p1) (g := g) (N + 4) (N + 0) hp1 (fun q (hq : C1 q) => by have := hC1 q hq; omega) (by omega) hr6) ?_
  rintro _ a11 w12 ⟨g12, A7, cap8, rfl, h9, F12⟩ hS11
  replace hp1 := RdS.fr hp1 F12 (by decide) (fun q (hq : C1 q) (hm : (N + 0 ≤ q ∧ q < N + 0 + 2) ∨ N + 4 ≤ q) => by have := hC1 q hq; omega)
  replace hF := hF.trans F12 (fun c' (hm : (N + 0 ≤ c' ∧ c' < N + 0 + 2) ∨ N + 4 ≤ c') => by show (r0 ≤ c' ∧ c' < r0 + 2) ∨ N ≤ c'; omega)
  refine st_val hS11 rfl rfl rfl (r_move hS11 rfl rfl) fun a13 hS13 => st_val hS13 rfl rfl rfl (r_extract hS13 rfl rfl rfl) fun a14 hS14 => st_val hS14 rfl rfl rfl (r_extract hS14 rfl rfl rfl) fun a15 hS15 => st_val hS15 rfl rfl rfl (r_assign hS15 rfl rfl) fun a16 hS16 => st_val hS16 rfl rfl rfl (r_assign hS16 rfl rfl) fun a17 hS17 => wpList_nil (hK _ _ ?_)
  replace hS : Sl 78 _ [(0, .int .i64 p0), (1, .slice A1 p1.length cap1), (6, .slice A7 r5.1.length cap8), (7, .int .i64 r5.2)] := hS17.re ⟨rfl, rfl, rfl, rfl, trivial⟩
  clear hK K
  try clear hS3 hS4 hS11 hS13 hS14 hS15 hS16 hS17
  obtain ⟨a, ha⟩ : ∃ a', a' = a17 := ⟨_, rfl⟩
  rw [← ha] at hS ⊢; clear ha
  refine wp_seq ?_
  refine c_pure [(0, .int .i64 p0), (1, .slice A1 p1.length cap1), (6, .slice A7 r5.1.length cap8), (7, .int .i64 r5.2), (18, .bool (r5.2 != 0))] (fun R hR => st_val hS rfl rfl rfl (r_move hS rfl rfl) fun a18 hS18 => st_val hS18 rfl rfl rfl (r_bin hS18 rfl rfl rfl b_neq) fun a19 hS19 => wpList_nil (hR _ (hS19.re ⟨rfl, rfl, rfl, rfl, rfl, trivial⟩))) ?_
  clear hS
  clear a
  intro a hS
  refine c_cond hS rfl (fun hb20 => ?_) (fun hb20 => ?_)
  · replace H := ite_t hb20 H
    refine c_pure [(4, .slice none 0 0), (5, .int .i64 r5.2)] (fun R hR => st_val hS rfl rfl rfl (r_move hS rfl rfl) fun a21 hS21 => st_val hS21 rfl rfl rfl (r_assign hS21 rfl rfl) fun a22 hS22 => st_val hS22 rfl rfl rfl (r_assign hS22 rfl rfl) fun a23 hS23 => wpList_nil (hR _ (hS23.re ⟨rfl, rfl, trivial⟩))) ?_
    clear hS
    clear a
    intro a hS
    refine wp_ret ?_
    have e := Option.some.inj H
    subst e
    repeat (with_reducible first | refine then_ret ?_ | refine inBlock_ret ?_)
    exact c_ret2 hS Try.results24 rfl rfl ⟨_, rfl, g12, none, 0, rfl, OwS.nil (kint .i64) 3 w12 g12 r0, hF⟩
  · replace H := ite_f hb20 H
    refine wp_skip ?_
    change Code.wp _ _ _ _ _
    obtain ⟨y25, hy26, H⟩ := bind_el H
    refine c_region (fun K hK => ?_)
    refine st_val hS rfl rfl rfl (r_move hS rfl rfl) fun a24 hS24 => ?_
    refine st_eff hS24 rfl rfl rfl (e_make (e := 3) (sz := 1) (by_ := 8) (z := [.int .i64 0]) (kd := (kint .i64)) (N + 2) g12 hS24 rfl rfl (by kernel_rfl) (by kernel_rfl) rfl rfl rfl (fun _ _ _ => rfl) hy26) ?_
    rintro _ a31 w32 g32 ⟨⟨A27, cap28, rfl, h29⟩, F32⟩ hS31
    replace h9 := OwS.fr h9 F32 (fun _ _ h => h)
    replace hp1 := RdS.fr hp1 F32 (by decide) (fun _ _ h => h)
    replace hF := hF.trans F32 (fun _ h => h.elim)
    refine st_val hS31 rfl rfl rfl (r_assign hS31 rfl rfl) fun a33 hS33 => wpList_nil (hK _ _ ?_)
    replace hS : Sl 78 _ [(0, .int .i64 p0), (1, .slice A1 p1.length cap1), (6, .slice A7 r5.1.length cap8), (8, .slice A27 y25.length cap28)] := hS33.re ⟨rfl, rfl, rfl, rfl, trivial⟩
    clear hK K
    try clear hS24 hS31 hS33
    obtain ⟨a, ha⟩ : ∃ a', a' = a33 := ⟨_, rfl⟩
    rw [← ha] at hS ⊢; clear ha
    obtain ⟨v35, H, Hl37⟩ := bind_el H
    refine c_cut (fun a w34 => ∃ (g34 : Nat → Nat), Sl 78 a [(8, .slice A27 v35.length cap28)] ∧ OwS (kint .i64) 3 w34 g34 (N + 2) A27 cap28 v35 ∧ Fr (fun q => (r0 ≤ q ∧ q < r0 + 2) ∨ N ≤ q) w g w34 g34) ?_ ?_
    · refine c_pure [(0, .int .i64 p0), (1, .slice A1 p1.length cap1), (6, .slice A7 r5.1.length cap8), (8, .slice A27 y25.length cap28), (9, .int .i64 0)] (fun R hR => st_val hS rfl rfl rfl (r_assign hS rfl rfl) fun a38 hS38 => wpList_nil (hR _ (hS38.re ⟨rfl, rfl, rfl, rfl, rfl, trivial⟩))) ?_
      clear hS
      clear a
      intro a hS
      refine wp_block ?_
      refine wp_loop_ghost (fun kq => fun a w39 => ∃ (m0_0 : List Int), ∃ (m0_1 : Int), ∃ (g39 : Nat → Nat), ref24_Levels.l0 p0 p1 r5 kq m0_0 m0_1 = some v35 ∧ Sl 78 a [(0, .int .i64 p0), (1, .slice A1 p1.length cap1), (6, .slice A7 r5.1.length cap8), (8, .slice A27 m0_0.length cap28), (9, .int .i64 m0_1)] ∧ OwS (kint .i64) 3 w39 g39 (N + 0) A7 cap8 r5.1 ∧ OwS (kint .i64) 3 w39 g39 (N + 2) A27 cap28 m0_0 ∧ RdS kd_api_Link w39 g39 C1 A1 cap1 p1 ∧ Fr (fun q => (r0 ≤ q ∧ q < r0 + 2) ∨ N ≤ q) w g w39 g39) FUEL ?_ ?_
      · exact ⟨y25, 0, g32, H, hS.re ⟨rfl, rfl, rfl, rfl, rfl, trivial⟩, h9, h29, hp1, hF⟩
      · clear H
        clear hp1 h9 h29 hF
        clear hS
        rintro k40 a w39 ⟨m0_0, m0_1, g39, hpre0, hS, h9, h29, hp1, hF⟩
        have H := hpre0
        clear hpre0
        cases k40 with
        | zero => exact absurd H (by simp [ref24_Levels.l0])
        | succ k40 =>
          rw [ref24_Levels.l0] at H
          refine wp_seq ?_
          refine c_pure [(0, .int .i64 p0), (1, .slice A1 p1.length cap1), (6, .slice A7 r5.1.length cap8), (8, .slice A27 m0_0.length cap28), (9, .int .i64 m0_1), (24, .bool (decide (m0_1 < p0)))] (fun R hR => st_val hS rfl rfl rfl (r_move hS rfl rfl) fun a41 hS41 => st_val hS41 rfl rfl rfl (r_move hS41 rfl rfl) fun a42 hS42 => st_val hS42 rfl rfl rfl (r_bin hS42 rfl rfl rfl b_lss) fun a43 hS43 => wpList_nil (hR _ (hS43.re ⟨rfl, rfl, rfl, rfl, rfl, rfl, trivial⟩))) ?_
          clear hS
          clear a
          intro a hS
          refine c_cond hS rfl (fun hb44 => ?_) (fun hb44 => ?_)
          · replace H := ite_t hb44 H
            refine wp_skip ?_
            change Code.wp _ _ _ _ _
            obtain ⟨v46, H, Hl48⟩ := bind_el H
            refine c_cut (fun a w45 => ∃ (g45 : Nat → Nat), Sl 78 a [(0, .int .i64 p0), (1, .slice A1 p1.length cap1), (6, .slice A7 r5.1.length cap8), (8, .slice A27 v46.length cap28), (9, .int .i64 m0_1)] ∧ OwS (kint .i64) 3 w45 g45 (N + 0) A7 cap8 r5.1 ∧ OwS (kint .i64) 3 w45 g45 (N + 2) A27 cap28 v46 ∧ RdS kd_api_Link w45 g45 C1 A1 cap1 p1 ∧ Fr (fun q => (r0 ≤ q ∧ q < r0 + 2) ∨ N ≤ q) w g w45 g45) ?_ ?_
            · refine wp_block ?_
              refine c_pure [(0, .int .i64 p0), (1, .slice A1 p1.length cap1), (6, .slice A7 r5.1.length cap8), (8, .slice A27 m0_0.length cap28), (9, .int .i64 m0_1), (10, .int .i64 0)] (fun R hR => st_val hS rfl rfl rfl (r_assign hS rfl rfl) fun a49 hS49 => wpList_nil (hR _ (hS49.re ⟨rfl, rfl, rfl, rfl, rfl, rfl, trivial⟩))) ?_
              clear hS
              clear a
              intro a hS
              refine wp_block ?_
              refine wp_loop_ghost (fun kq => fun a w50 => ∃ (m1_0 : List Int), ∃ (m1_1 : Int), ∃ (g50 : Nat → Nat), ref24_Levels.l1 p1 r5 m0_1 kq m1_0 m1_1 = some v46 ∧ Sl 78 a [(0, .int .i64 p0), (1, .slice A1 p1.length cap1), (6, .slice A7 r5.1.length cap8), (8, .slice A27 m1_0.length cap28), (9, .int .i64 m0_1), (10, .int .i64 m1_1)] ∧ OwS (kint .i64) 3 w50 g50 (N + 0) A7 cap8 r5.1 ∧ OwS (kint .i64) 3 w50 g50 (N + 2) A27 cap28 m1_0 ∧ RdS kd_api_Link w50 g50 C1 A1 cap1 p1 ∧ Fr (fun q => (r0 ≤ q ∧ q < r0 + 2) ∨ N ≤ q) w g w50 g50) FUEL ?_ ?_
              · exact ⟨m0_0, 0, g39, H, hS.re ⟨rfl, rfl, rfl, rfl, rfl, rfl, trivial⟩, h9, h29, hp1, hF⟩
              · clear H
                clear hp1 h9 h29 hF
                clear hS
                rintro k51 a w50 ⟨m1_0, m1_1, g50, hpre0, hS, h9, h29, hp1, hF⟩
                have H := hpre0
                clear hpre0
                cases k51 with
                | zero => exact absurd H (by simp [ref24_Levels.l1])
                | succ k51 =>
                  rw [ref24_Levels.l1] at H
                  refine wp_seq ?_
                  refine c_pure [(0, .int .i64 p0), (1, .slice A1 p1.length cap1), (6, .slice A7 r5.1.length cap8), (8, .slice A27 m1_0.length cap28), (9, .int .i64 m0_1), (10, .int .i64 m1_1), (30, .bool (decide (m1_1 < (p1.length : Int))))] (fun R hR => st_val hS rfl rfl rfl (r_move hS rfl rfl) fun a52 hS52 => st_val hS52 rfl rfl rfl (r_move hS52 rfl rfl) fun a53 hS53 => st_val hS53 rfl rfl rfl (r_len (e := 34) (sz := 2) (by_ := 16) hS53 rfl rfl (by kernel_rfl)) fun a54 hS54 => st_val hS54 rfl rfl rfl (r_bin hS54 rfl rfl rfl b_lss) fun a55 hS55 => wpList_nil (hR _ (hS55.re ⟨rfl, rfl, rfl, rfl, rfl, rfl, rfl, trivial⟩))) ?_
                  clear hS
                  clear a
                  intro a hS
                  refine c_cond hS rfl (fun hb56 => ?_) (fun hb56 => ?_)
                  · replace H := ite_t hb56 H
                    refine wp_skip ?_
                    change Code.wp _ _ _ _ _
                    obtain ⟨v58, H, Hl60⟩ := bind_el H
                    refine c_cut (fun a w57 => ∃ (g57 : Nat → Nat), Sl 78 a [(0, .int .i64 p0), (1, .slice A1 p1.length cap1), (6, .slice A7 r5.1.length cap8), (8, .slice A27 v58.length cap28), (9, .int .i64 m0_1), (10, .int .i64 m1_1)] ∧ OwS (kint .i64) 3 w57 g57 (N + 0) A7 cap8 r5.1 ∧ OwS (kint .i64) 3 w57 g57 (N + 2) A27 cap28 v58 ∧ RdS kd_api_Link w57 g57 C1 A1 cap1 p1 ∧ Fr (fun q => (r0 ≤ q ∧ q < r0 + 2) ∨ N ≤ q) w g w57 g57) ?_ ?_
                    · refine wp_block ?_
                      obtain ⟨x64, hx65, H⟩ := bind_el H
                      obtain ⟨x71, hx72, H⟩ := bind_el H
                      obtain ⟨t99, ht100, H⟩ := bind_el H
                      refine c_draw (fun K hK => d_start (fun q => False) g50 [] 29 #[false, false, false, false, false, false, false, false, false, false, false, false, false, false, false, false, false, false, false, false, false, false, false, false, false, false, false, false, false] (by kernel_rfl) rfl rfl (fun w61 hw61 => ?_))
                      have F61 : Fr (fun _ => False) w50 g50 w61 g50 := by rw [hw61]; exact Fr.drew _ _ _
                      replace h9 := OwS.fr h9 F61 (fun _ _ h => h)
                      replace h29 := OwS.fr h29 F61 (fun _ _ h => h)
                      replace hp1 := RdS.fr hp1 F61 (by decide) (fun _ _ h => h)
                      replace hF := hF.trans F61 (fun _ h => h.elim)
                      have hC : Fr (fun q => False) w61 g50 w61 g50 := Fr.refl _ _ _
                      refine d_pure hS 0 #[true, false, false, false, false, false, false, false, false, false, false, false, false, false, false, false, false, false, false, false, false, false, false, false, false, false, false, false, false] rfl rfl rfl rfl (by kernel_rfl) (fun _ _ _ h => h) (fun _ => (r_move hS rfl rfl)) fun a62 hS62 => d_pure hS62 1 #[true, true, false, false, false, false, false, false, false, false, false, false, false, false, false, false, false, false, false, false, false, false, false, false, false, false, false, false, false] rfl rfl rfl rfl (by kernel_rfl) (fun _ _ _ h => h) (fun _ => (r_move hS62 rfl rfl)) fun a63 hS63 => d_pure hS63 2 #[true, true, true, false, false, false, false, false, false, false, false, false, false, false, false, false, false, false, false, false, false, false, false, false, false, false, false, false, false] rfl rfl rfl rfl (by kernel_rfl) (fun _ _ _ h => h) (fun _ => (r_index (e := 34) (sz := 2) (by_ := 16) hS63 rfl rfl rfl (by kernel_rfl) (RdS.some_ hp1 hx65) (idx_lo hx65) (idx_hi hx65))) fun a66 hS66 => d_pure hS66 3 #[true, true, true, true, false, false, false, false, false, false, false, false, false, false, false, false, false, false, false, false, false, false, false, false, false, false, false, false, false] rfl rfl rfl rfl (by kernel_rfl) (fun _ _ _ h => h) (fun _ => (r_fieldE (off := 0) hS66 rfl rfl (by kernel_rfl))) fun a67 hS67 => d_take hS67 4 #[true, true, true, true, true, false, false, false, false, false, false, false, false, false, false, false, false, false, false, false, false, false, false, false, false, false, false, false, false] rfl rfl rfl rfl (by kernel_rfl) (fun _ _ _ h => h) ⟨_, hC⟩ (fun w' g' Fz => (r_load1 (n := 1) hS67 rfl rfl (by kernel_rfl) (RdS.cell (i := m1_1) (sz := 2) (j := 0) (RdS.fr hp1 Fz (by decide) (fun _ _ h => h)) hx65 rfl))) fun a68 hS68 => d_pure hS68 5 #[true, true, true, true, true, true, false, false, false, false, false, false, false, false, false, false, false, false, false, false, false, false, false, false, false, false, false, false, false] rfl rfl rfl rfl (by kernel_rfl) (fun _ _ _ h => h) (fun _ => (r_move hS68 rfl rfl)) fun a69 hS69 => d_pure hS69 6 #[true, true, true, true, true, true, true, false, false, false, false, false, false, false, false, false, false, false, false, false, false, false, false, false, false, false, false, false, false] rfl rfl rfl rfl (by kernel_rfl) (fun _ _ _ h => h) (fun _ => (r_move hS69 rfl rfl)) fun a70 hS70 => d_pure hS70 7 #[true, true, true, true, true, true, true, true, false, false, false, false, false, false, false, false, false, false, false, false, false, false, false, false, false, false, false, false, false] rfl rfl rfl rfl (by kernel_rfl) (fun _ _ _ h => h) (fun _ => (r_index (e := 3) (sz := 1) (by_ := 8) hS70 rfl rfl rfl (by kernel_rfl) (RdS.some_ (OwS.rd h9) hx72) (idx_lo hx72) (idx_hi hx72))) fun a73 hS73 => d_take hS73 8 #[true, true, true, true, true, true, true, true, true, false, false, false, false, false, false, false, false, false, false, false, false, false, false, false, false, false, false, false, false] rfl rfl rfl rfl (by kernel_rfl) (fun _ _ _ h => h) ⟨_, hC⟩ (fun w' g' Fz => (r_load1 (n := 1) hS73 rfl rfl (by kernel_rfl) (RdS.cell (i := m0_1) (sz := 1) (j := 0) (OwS.rd (OwS.fr h9 Fz (fun _ _ h => h))) hx72 rfl))) fun a74 hS74 => d_pure hS74 9 #[true, true, true, true, true, true, true, true, true, true, false, false, false, false, false, false, false, false, false, false, false, false, false, false, false, false, false, false, false] rfl rfl rfl rfl (by kernel_rfl) (fun _ _ _ h => h) (fun _ => (r_bin hS74 rfl rfl rfl b_eql)) fun a75 hS75 => d_pure hS75 10 #[true, true, true, true, true, true, true, true, true, true, true, false, false, false, false, false, false, false, false, false, false, false, false, false, false, false, false, false, false] rfl rfl rfl rfl (by kernel_rfl) (fun _ _ _ h => h) (fun _ => (r_move hS75 rfl rfl)) fun a76 hS76 => ?_
                      refine d_join (N := 78) 0 #[true, true, true, true, true, true, true, true, true, true, true, true, true, true, true, true, true, true, true, true, true, true, true, true, true, true, true, true, true] [(0, .int .i64 p0), (1, .slice A1 p1.length cap1), (6, .slice A7 r5.1.length cap8), (8, .slice A27 m1_0.length cap28), (9, .int .i64 m0_1), (10, .int .i64 m1_1), (61, .bool t99)] ?_ (fun hk => ?_)
                      rotate_left
                      · rcases Bool.eq_false_or_eq_true ((x64.Consumer == x71)) with hb77 | hb77
                        · have H := ite_t hb77 ht100
                          obtain ⟨x107, hx108, H⟩ := bind_el H
                          obtain ⟨x117, hx118, H⟩ := bind_el H
                          have e122 := Option.some.inj H
                          refine d_pureW hS76 11 #[true, true, true, true, true, true, true, true, true, true, true, true, false, false, false, false, false, false, false, false, false, false, false, false, false, false, false, false, false] rfl (want_on hS76 rfl rfl rfl hb77) rfl rfl (by kernel_rfl) (fun _ _ _ h => h) (fun _ => (r_move hS76 rfl rfl)) fun a101 hS101 => d_pureW hS101 12 #[true, true, true, true, true, true, true, true, true, true, true, true, true, false, false, false, false, false, false, false, false, false, false, false, false, false, false, false, false] rfl (want_on hS101 rfl rfl rfl hb77) rfl rfl (by kernel_rfl) (fun _ _ _ h => h) (fun _ => (r_move hS101 rfl rfl)) fun a102 hS102 => d_pureW hS102 13 #[true, true, true, true, true, true, true, true, true, true, true, true, true, true, false, false, false, false, false, false, false, false, false, false, false, false, false, false, false] rfl (want_on hS102 rfl rfl rfl hb77) rfl rfl (by kernel_rfl) (fun _ _ _ h => h) (fun _ => (r_move hS102 rfl rfl)) fun a103 hS103 => d_pureW hS103 14 #[true, true, true, true, true, true, true, true, true, true, true, true, true, true, true, false, false, false, false, false, false, false, false, false, false, false, false, false, false] rfl (want_on hS103 rfl rfl rfl hb77) rfl rfl (by kernel_rfl) (fun _ _ _ h => h) (fun _ => (r_index (e := 34) (sz := 2) (by_ := 16) hS103 rfl rfl rfl (by kernel_rfl) (RdS.some_ hp1 hx65) (idx_lo hx65) (idx_hi hx65))) fun a104 hS104 => d_pureW hS104 15 #[true, true, true, true, true, true, true, true, true, true, true, true, true, true, true, true, false, false, false, false, false, false, false, false, false, false, false, false, false] rfl (want_on hS104 rfl rfl rfl hb77) rfl rfl (by kernel_rfl) (fun _ _ _ h => h) (fun _ => (r_fieldE (off := 1) hS104 rfl rfl (by kernel_rfl))) fun a105 hS105 => d_takeW hS105 16 #[true, true, true, true, true, true, true, true, true, true, true, true, true, true, true, true, true, false, false, false, false, false, false, false, false, false, false, false, false] rfl (want_on hS105 rfl rfl rfl hb77) rfl rfl (by kernel_rfl) (fun _ _ _ h => h) ⟨_, hC⟩ (fun w' g' Fz => (r_load1 (n := 1) hS105 rfl rfl (by kernel_rfl) (RdS.cell (i := m1_1) (sz := 2) (j := 1) (RdS.fr hp1 Fz (by decide) (fun _ _ h => h)) hx65 rfl))) fun a106 hS106 => d_pureW hS106 17 #[true, true, true, true, true, true, true, true, true, true, true, true, true, true, true, true, true, true, false, false, false, false, false, false, false, false, false, false, false] rfl (want_on hS106 rfl rfl rfl hb77) rfl rfl (by kernel_rfl) (fun _ _ _ h => h) (fun _ => (r_index (e := 3) (sz := 1) (by_ := 8) hS106 rfl rfl rfl (by kernel_rfl) (RdS.some_ (OwS.rd h29) hx108) (idx_lo hx108) (idx_hi hx108))) fun a109 hS109 => d_takeW hS109 18 #[true, true, true, true, true, true, true, true, true, true, true, true, true, true, true, true, true, true, true, false, false, false, false, false, false, false, false, false, false] rfl (want_on hS109 rfl rfl rfl hb77) rfl rfl (by kernel_rfl) (fun _ _ _ h => h) ⟨_, hC⟩ (fun w' g' Fz => (r_load1 (n := 1) hS109 rfl rfl (by kernel_rfl) (RdS.cell (i := x64.Supplier) (sz := 1) (j := 0) (OwS.rd (OwS.fr h29 Fz (fun _ _ h => h))) hx108 rfl))) fun a110 hS110 => d_pureW hS110 19 #[true, true, true, true, true, true, true, true, true, true, true, true, true, true, true, true, true, true, true, true, false, false, false, false, false, false, false, false, false] rfl (want_on hS110 rfl rfl rfl hb77) rfl rfl (by kernel_rfl) (fun _ _ _ h => h) (fun _ => (r_bin hS110 rfl rfl rfl b_add)) fun a111 hS111 => d_pureW hS111 20 #[true, true, true, true, true, true, true, true, true, true, true, true, true, true, true, true, true, true, true, true, true, false, false, false, false, false, false, false, false] rfl (want_on hS111 rfl rfl rfl hb77) rfl rfl (by kernel_rfl) (fun _ _ _ h => h) (fun _ => (r_move hS111 rfl rfl)) fun a112 hS112 => d_pureW hS112 21 #[true, true, true, true, true, true, true, true, true, true, true, true, true, true, true, true, true, true, true, true, true, true, false, false, false, false, false, false, false] rfl (want_on hS112 rfl rfl rfl hb77) rfl rfl (by kernel_rfl) (fun _ _ _ h => h) (fun _ => (r_move hS112 rfl rfl)) fun a113 hS113 => d_pureW hS113 22 #[true, true, true, true, true, true, true, true, true, true, true, true, true, true, true, true, true, true, true, true, true, true, true, false, false, false, false, false, false] rfl (want_on hS113 rfl rfl rfl hb77) rfl rfl (by kernel_rfl) (fun _ _ _ h => h) (fun _ => (r_move hS113 rfl rfl)) fun a114 hS114 => d_pureW hS114 23 #[true, true, true, true, true, true, true, true, true, true, true, true, true, true, true, true, true, true, true, true, true, true, true, true, false, false, false, false, false] rfl (want_on hS114 rfl rfl rfl hb77) rfl rfl (by kernel_rfl) (fun _ _ _ h => h) (fun _ => (r_index (e := 3) (sz := 1) (by_ := 8) hS114 rfl rfl rfl (by kernel_rfl) (RdS.some_ (OwS.rd h9) hx72) (idx_lo hx72) (idx_hi hx72))) fun a115 hS115 => d_takeW hS115 24 #[true, true, true, true, true, true, true, true, true, true, true, true, true, true, true, true, true, true, true, true, true, true, true, true, true, false, false, false, false] rfl (want_on hS115 rfl rfl rfl hb77) rfl rfl (by kernel_rfl) (fun _ _ _ h => h) ⟨_, hC⟩ (fun w' g' Fz => (r_load1 (n := 1) hS115 rfl rfl (by kernel_rfl) (RdS.cell (i := m0_1) (sz := 1) (j := 0) (OwS.rd (OwS.fr h9 Fz (fun _ _ h => h))) hx72 rfl))) fun a116 hS116 => d_pureW hS116 25 #[true, true, true, true, true, true, true, true, true, true, true, true, true, true, true, true, true, true, true, true, true, true, true, true, true, true, false, false, false] rfl (want_on hS116 rfl rfl rfl hb77) rfl rfl (by kernel_rfl) (fun _ _ _ h => h) (fun _ => (r_index (e := 3) (sz := 1) (by_ := 8) hS116 rfl rfl rfl (by kernel_rfl) (RdS.some_ (OwS.rd h29) hx118) (idx_lo hx118) (idx_hi hx118))) fun a119 hS119 => d_takeW hS119 26 #[true, true, true, true, true, true, true, true, true, true, true, true, true, true, true, true, true, true, true, true, true, true, true, true, true, true, true, false, false] rfl (want_on hS119 rfl rfl rfl hb77) rfl rfl (by kernel_rfl) (fun _ _ _ h => h) ⟨_, hC⟩ (fun w' g' Fz => (r_load1 (n := 1) hS119 rfl rfl (by kernel_rfl) (RdS.cell (i := x71) (sz := 1) (j := 0) (OwS.rd (OwS.fr h29 Fz (fun _ _ h => h))) hx118 rfl))) fun a120 hS120 => d_pureW hS120 27 #[true, true, true, true, true, true, true, true, true, true, true, true, true, true, true, true, true, true, true, true, true, true, true, true, true, true, true, true, false] rfl (want_on hS120 rfl rfl rfl hb77) rfl rfl (by kernel_rfl) (fun _ _ _ h => h) (fun _ => (r_bin hS120 rfl rfl rfl b_gtr)) fun a121 hS121 => d_pure hS121 28 #[true, true, true, true, true, true, true, true, true, true, true, true, true, true, true, true, true, true, true, true, true, true, true, true, true, true, true, true, true] rfl rfl rfl rfl (by kernel_rfl) (fun _ _ _ h => h) (fun _ => (r_pickT hS121 rfl rfl rfl hb77)) fun a123 hS123 => hk _ (hS123.re ⟨rfl, rfl, rfl, rfl, rfl, rfl, (by rw [← e122]; rfl), trivial⟩)
                        · have H := ite_f hb77 ht100
                          have e124 := Option.some.inj H
                          refine d_off hS76 11 #[true, true, true, true, true, true, true, true, true, true, true, true, false, false, false, false, false, false, false, false, false, false, false, false, false, false, false, false, false] rfl (want_off hS76 rfl rfl rfl hb77) rfl rfl (by kernel_rfl) (fun _ _ _ h => h) fun a125 hS125 => d_off hS125 12 #[true, true, true, true, true, true, true, true, true, true, true, true, true, false, false, false, false, false, false, false, false, false, false, false, false, false, false, false, false] rfl (want_off hS125 rfl rfl rfl hb77) rfl rfl (by kernel_rfl) (fun _ _ _ h => h) fun a126 hS126 => d_off hS126 13 #[true, true, true, true, true, true, true, true, true, true, true, true, true, true, false, false, false, false, false, false, false, false, false, false, false, false, false, false, false] rfl (want_off hS126 rfl rfl rfl hb77) rfl rfl (by kernel_rfl) (fun _ _ _ h => h) fun a127 hS127 => d_off hS127 14 #[true, true, true, true, true, true, true, true, true, true, true, true, true, true, true, false, false, false, false, false, false, false, false, false, false, false, false, false, false] rfl (want_off hS127 rfl rfl rfl hb77) rfl rfl (by kernel_rfl) (fun _ _ _ h => h) fun a128 hS128 => d_off hS128 15 #[true, true, true, true, true, true, true, true, true, true, true, true, true, true, true, true, false, false, false, false, false, false, false, false, false, false, false, false, false] rfl (want_off hS128 rfl rfl rfl hb77) rfl rfl (by kernel_rfl) (fun _ _ _ h => h) fun a129 hS129 => d_off hS129 16 #[true, true, true, true, true, true, true, true, true, true, true, true, true, true, true, true, true, false, false, false, false, false, false, false, false, false, false, false, false] rfl (want_off hS129 rfl rfl rfl hb77) rfl rfl (by kernel_rfl) (fun _ _ _ h => h) fun a130 hS130 => d_off hS130 17 #[true, true, true, true, true, true, true, true, true, true, true, true, true, true, true, true, true, true, false, false, false, false, false, false, false, false, false, false, false] rfl (want_off hS130 rfl rfl rfl hb77) rfl rfl (by kernel_rfl) (fun _ _ _ h => h) fun a131 hS131 => d_off hS131 18 #[true, true, true, true, true, true, true, true, true, true, true, true, true, true, true, true, true, true, true, false, false, false, false, false, false, false, false, false, false] rfl (want_off hS131 rfl rfl rfl hb77) rfl rfl (by kernel_rfl) (fun _ _ _ h => h) fun a132 hS132 => d_off hS132 19 #[true, true, true, true, true, true, true, true, true, true, true, true, true, true, true, true, true, true, true, true, false, false, false, false, false, false, false, false, false] rfl (want_off hS132 rfl rfl rfl hb77) rfl rfl (by kernel_rfl) (fun _ _ _ h => h) fun a133 hS133 => d_off hS133 20 #[true, true, true, true, true, true, true, true, true, true, true, true, true, true, true, true, true, true, true, true, true, false, false, false, false, false, false, false, false] rfl (want_off hS133 rfl rfl rfl hb77) rfl rfl (by kernel_rfl) (fun _ _ _ h => h) fun a134 hS134 => d_off hS134 21 #[true, true, true, true, true, true, true, true, true, true, true, true, true, true, true, true, true, true, true, true, true, true, false, false, false, false, false, false, false] rfl (want_off hS134 rfl rfl rfl hb77) rfl rfl (by kernel_rfl) (fun _ _ _ h => h) fun a135 hS135 => d_off hS135 22 #[true, true, true, true, true, true, true, true, true, true, true, true, true, true, true, true, true, true, true, true, true, true, true, false, false, false, false, false, false] rfl (want_off hS135 rfl rfl rfl hb77) rfl rfl (by kernel_rfl) (fun _ _ _ h => h) fun a136 hS136 => d_off hS136 23 #[true, true, true, true, true, true, true, true, true, true, true, true, true, true, true, true, true, true, true, true, true, true, true, true, false, false, false, false, false] rfl (want_off hS136 rfl rfl rfl hb77) rfl rfl (by kernel_rfl) (fun _ _ _ h => h) fun a137 hS137 => d_off hS137 24 #[true, true, true, true, true, true, true, true, true, true, true, true, true, true, true, true, true, true, true, true, true, true, true, true, true, false, false, false, false] rfl (want_off hS137 rfl rfl rfl hb77) rfl rfl (by kernel_rfl) (fun _ _ _ h => h) fun a138 hS138 => d_off hS138 25 #[true, true, true, true, true, true, true, true, true, true, true, true, true, true, true, true, true, true, true, true, true, true, true, true, true, true, false, false, false] rfl (want_off hS138 rfl rfl rfl hb77) rfl rfl (by kernel_rfl) (fun _ _ _ h => h) fun a139 hS139 => d_off hS139 26 #[true, true, true, true, true, true, true, true, true, true, true, true, true, true, true, true, true, true, true, true, true, true, true, true, true, true, true, false, false] rfl (want_off hS139 rfl rfl rfl hb77) rfl rfl (by kernel_rfl) (fun _ _ _ h => h) fun a140 hS140 => d_off hS140 27 #[true, true, true, true, true, true, true, true, true, true, true, true, true, true, true, true, true, true, true, true, true, true, true, true, true, true, true, true, false] rfl (want_off hS140 rfl rfl rfl hb77) rfl rfl (by kernel_rfl) (fun _ _ _ h => h) fun a141 hS141 => d_pure hS141 28 #[true, true, true, true, true, true, true, true, true, true, true, true, true, true, true, true, true, true, true, true, true, true, true, true, true, true, true, true, true] rfl rfl rfl rfl (by kernel_rfl) (fun _ _ _ h => h) (fun _ => (r_pickF hS141 rfl rfl rfl hb77)) fun a142 hS142 => hk _ (hS142.re ⟨rfl, rfl, rfl, rfl, rfl, rfl, (by rw [← e124]; rfl), trivial⟩)
                      intro a143 hS143
                      refine d_done (by kernel_rfl) (hK _ _ ?_)
                      replace hS : Sl 78 _ [(0, .int .i64 p0), (1, .slice A1 p1.length cap1), (6, .slice A7 r5.1.length cap8), (8, .slice A27 m1_0.length cap28), (9, .int .i64 m0_1), (10, .int .i64 m1_1), (61, .bool t99)] := hS143.re ⟨rfl, rfl, rfl, rfl, rfl, rfl, rfl, trivial⟩
                      clear hK K hC
                      try clear hS62 hS63 hS66 hS67 hS68 hS69 hS70 hS73 hS74 hS75 hS76 hS143
                      obtain ⟨a, ha⟩ : ∃ a', a' = a143 := ⟨_, rfl⟩
                      rw [← ha] at hS ⊢; clear ha
                      refine c_cond hS rfl (fun hb144 => ?_) (fun hb144 => ?_)
                      · replace H := ite_t hb144 H
                        obtain ⟨x145, hx146, H⟩ := bind_el H
                        obtain ⟨x147, hx148, H⟩ := bind_el H
                        refine c_draw1 (fun K hK => d_start (fun q => False) g50 [15] 16 #[false, false, false, false, false, false, false, false, false, false, false, false, false, false, false, false] (by kernel_rfl) rfl rfl (fun w149 hw149 => ?_))
                        have F149 : Fr (fun _ => False) w61 g50 w149 g50 := by rw [hw149]; exact Fr.drew _ _ _
                        replace h9 := OwS.fr h9 F149 (fun _ _ h => h)
                        replace h29 := OwS.fr h29 F149 (fun _ _ h => h)
                        replace hp1 := RdS.fr hp1 F149 (by decide) (fun _ _ h => h)
                        replace hF := hF.trans F149 (fun _ h => h.elim)
                        have hC : Fr (fun q => False) w149 g50 w149 g50 := Fr.refl _ _ _
                        refine d_pure hS 0 #[true, false, false, false, false, false, false, false, false, false, false, false, false, false, false, false] rfl rfl rfl rfl (by kernel_rfl) (fun _ _ _ h => h) (fun _ => (r_move hS rfl rfl)) fun a150 hS150 => d_pure hS150 1 #[true, true, false, false, false, false, false, false, false, false, false, false, false, false, false, false] rfl rfl rfl rfl (by kernel_rfl) (fun _ _ _ h => h) (fun _ => (r_move hS150 rfl rfl)) fun a151 hS151 => d_pure hS151 2 #[true, true, true, false, false, false, false, false, false, false, false, false, false, false, false, false] rfl rfl rfl rfl (by kernel_rfl) (fun _ _ _ h => h) (fun _ => (r_move hS151 rfl rfl)) fun a152 hS152 => d_pure hS152 3 #[true, true, true, true, false, false, false, false, false, false, false, false, false, false, false, false] rfl rfl rfl rfl (by kernel_rfl) (fun _ _ _ h => h) (fun _ => (r_index (e := 3) (sz := 1) (by_ := 8) hS152 rfl rfl rfl (by kernel_rfl) (RdS.some_ (OwS.rd h9) hx72) (idx_lo hx72) (idx_hi hx72))) fun a153 hS153 => d_take hS153 4 #[true, true, true, true, true, false, false, false, false, false, false, false, false, false, false, false] rfl rfl rfl rfl (by kernel_rfl) (fun _ _ _ h => h) ⟨_, hC⟩ (fun w' g' Fz => (r_load1 (n := 1) hS153 rfl rfl (by kernel_rfl) (RdS.cell (i := m0_1) (sz := 1) (j := 0) (OwS.rd (OwS.fr h9 Fz (fun _ _ h => h))) hx72 rfl))) fun a154 hS154 => d_pure hS154 5 #[true, true, true, true, true, true, false, false, false, false, false, false, false, false, false, false] rfl rfl rfl rfl (by kernel_rfl) (fun _ _ _ h => h) (fun _ => (r_move hS154 rfl rfl)) fun a155 hS155 => d_pure hS155 6 #[true, true, true, true, true, true, true, false, false, false, false, false, false, false, false, false] rfl rfl rfl rfl (by kernel_rfl) (fun _ _ _ h => h) (fun _ => (r_move hS155 rfl rfl)) fun a156 hS156 => d_pure hS156 7 #[true, true, true, true, true, true, true, true, false, false, false, false, false, false, false, false] rfl rfl rfl rfl (by kernel_rfl) (fun _ _ _ h => h) (fun _ => (r_move hS156 rfl rfl)) fun a157 hS157 => d_pure hS157 8 #[true, true, true, true, true, true, true, true, true, false, false, false, false, false, false, false] rfl rfl rfl rfl (by kernel_rfl) (fun _ _ _ h => h) (fun _ => (r_index (e := 34) (sz := 2) (by_ := 16) hS157 rfl rfl rfl (by kernel_rfl) (RdS.some_ hp1 hx65) (idx_lo hx65) (idx_hi hx65))) fun a158 hS158 => d_pure hS158 9 #[true, true, true, true, true, true, true, true, true, true, false, false, false, false, false, false] rfl rfl rfl rfl (by kernel_rfl) (fun _ _ _ h => h) (fun _ => (r_fieldE (off := 1) hS158 rfl rfl (by kernel_rfl))) fun a159 hS159 => d_take hS159 10 #[true, true, true, true, true, true, true, true, true, true, true, false, false, false, false, false] rfl rfl rfl rfl (by kernel_rfl) (fun _ _ _ h => h) ⟨_, hC⟩ (fun w' g' Fz => (r_load1 (n := 1) hS159 rfl rfl (by kernel_rfl) (RdS.cell (i := m1_1) (sz := 2) (j := 1) (RdS.fr hp1 Fz (by decide) (fun _ _ h => h)) hx65 rfl))) fun a160 hS160 => d_pure hS160 11 #[true, true, true, true, true, true, true, true, true, true, true, true, false, false, false, false] rfl rfl rfl rfl (by kernel_rfl) (fun _ _ _ h => h) (fun _ => (r_index (e := 3) (sz := 1) (by_ := 8) hS160 rfl rfl rfl (by kernel_rfl) (RdS.some_ (OwS.rd h29) hx146) (idx_lo hx146) (idx_hi hx146))) fun a161 hS161 => d_take hS161 12 #[true, true, true, true, true, true, true, true, true, true, true, true, true, false, false, false] rfl rfl rfl rfl (by kernel_rfl) (fun _ _ _ h => h) ⟨_, hC⟩ (fun w' g' Fz => (r_load1 (n := 1) hS161 rfl rfl (by kernel_rfl) (RdS.cell (i := x64.Supplier) (sz := 1) (j := 0) (OwS.rd (OwS.fr h29 Fz (fun _ _ h => h))) hx146 rfl))) fun a162 hS162 => d_pure hS162 13 #[true, true, true, true, true, true, true, true, true, true, true, true, true, true, false, false] rfl rfl rfl rfl (by kernel_rfl) (fun _ _ _ h => h) (fun _ => (r_bin hS162 rfl rfl rfl b_add)) fun a163 hS163 => d_pure hS163 14 #[true, true, true, true, true, true, true, true, true, true, true, true, true, true, true, false] rfl rfl rfl rfl (by kernel_rfl) (fun _ _ _ h => h) (fun _ => (r_index (e := 3) (sz := 1) (by_ := 8) hS163 rfl rfl rfl (by kernel_rfl) (RdS.some_ (OwS.rd h29) hx148) (idx_lo hx148) (idx_hi hx148))) fun a164 hS164 => ?_
                        refine d_one 15 #[true, true, true, true, true, true, true, true, true, true, true, true, true, true, true, true] rfl (by kernel_rfl) (arm_effS hS164 rfl rfl (e_storeE (n := 1) (bb := false) (kd := (kint .i64)) (j := 0) (x' := wi (x145 + 1)) (us := [.int .i64 (wi (x145 + 1))]) g50 hS164 rfl rfl rfl rfl (by kernel_rfl) rfl rfl (by intro v hv; simp only [List.mem_cons, List.not_mem_nil, or_false] at hv; rcases hv with rfl <;> rfl) h29 hx148 rfl (fun _ _ cs hR => by rw [show cs = _ from hR]; rfl)) (.inl (by decide)) ?_)
                        rintro a165 w166 g166 ⟨h29, F166⟩ hS165
                        replace h9 := OwS.fr h9 F166 (fun c' hc (hm : c' = N + 2) => by omega)
                        replace hp1 := RdS.fr hp1 F166 (by decide) (fun q (hq : C1 q) (hm : q = N + 2) => by have := hC1 q hq; omega)
                        replace hF := hF.trans F166 (fun c' (hm : c' = N + 2) => by show (r0 ≤ c' ∧ c' < r0 + 2) ∨ N ≤ c'; omega)
                        have hT : Sl 78 a165 [(0, .int .i64 p0), (1, .slice A1 p1.length cap1), (6, .slice A7 r5.1.length cap8), (8, .slice A27 m1_0.length cap28), (9, .int .i64 m0_1), (10, .int .i64 m1_1)] := hS165.re ⟨rfl, rfl, rfl, rfl, rfl, rfl, trivial⟩
                        replace hS165 : Sl 78 a165 [(0, .int .i64 p0), (1, .slice A1 p1.length cap1), (6, .slice A7 r5.1.length cap8), (8, .slice A27 (upd m1_0 x71 (wi (x145 + 1))).length cap28), (9, .int .i64 m0_1), (10, .int .i64 m1_1)] := by simpa only [upd_length] using hT
                        clear hT
                        refine d_done (by kernel_rfl) (hK _ _ ?_)
                        replace hS : Sl 78 _ [(0, .int .i64 p0), (1, .slice A1 p1.length cap1), (6, .slice A7 r5.1.length cap8), (8, .slice A27 (upd m1_0 x71 (wi (x145 + 1))).length cap28), (9, .int .i64 m0_1), (10, .int .i64 m1_1)] := hS165.re ⟨rfl, rfl, rfl, rfl, rfl, rfl, trivial⟩
                        clear hK K hC
                        try clear hS150 hS151 hS152 hS153 hS154 hS155 hS156 hS157 hS158 hS159 hS160 hS161 hS162 hS163 hS164 hS165
                        obtain ⟨a, ha⟩ : ∃ a', a' = a165 := ⟨_, rfl⟩
                        rw [← ha] at hS ⊢; clear ha
                        have e := Option.some.inj H
                        subst e
                        exact ⟨g166, hS.re ⟨rfl, rfl, rfl, rfl, rfl, rfl, trivial⟩, h9, h29, hp1, hF⟩
                      · replace H := ite_f hb144 H
                        refine wp_skip ?_
                        have e := Option.some.inj H
                        subst e
                        exact ⟨g50, hS.re ⟨rfl, rfl, rfl, rfl, rfl, rfl, trivial⟩, h9, h29, hp1, hF⟩
                    · clear H
                      clear hp1 h9 h29 hF
                      clear hS
                      rintro a w57 ⟨g57, hS, h9, h29, hp1, hF⟩
                      have H := Hl60
                      clear Hl60
                      refine c_pure1 [(0, .int .i64 p0), (1, .slice A1 p1.length cap1), (6, .slice A7 r5.1.length cap8), (8, .slice A27 v58.length cap28), (9, .int .i64 m0_1), (10, .int .i64 (wi (m1_1 + 1)))] (fun R hR => st_val hS rfl rfl rfl (r_move hS rfl rfl) fun a167 hS167 => st_val hS167 rfl rfl rfl (r_bin hS167 rfl rfl rfl b_add) fun a168 hS168 => st_val hS168 rfl rfl rfl (r_assign hS168 rfl rfl) fun a169 hS169 => wpList_nil (hR _ (hS169.re ⟨rfl, rfl, rfl, rfl, rfl, rfl, trivial⟩))) ?_
                      clear hS
                      clear a
                      intro a hS
                      refine ⟨k51, Nat.lt_succ_self _, ?_⟩
                      exact ⟨v58, wi (m1_1 + 1), g57, H, hS.re ⟨rfl, rfl, rfl, rfl, rfl, rfl, trivial⟩, h9, h29, hp1, hF⟩
                  · replace H := ite_f hb56 H
                    refine wp_exit ?_
                    have e := Option.some.inj H
                    subst e
                    exact ⟨g50, hS.re ⟨rfl, rfl, rfl, rfl, rfl, trivial⟩, h9, h29, hp1, hF⟩
            · clear H
              clear hp1 h9 h29 hF
              clear hS
              rintro a w45 ⟨g45, hS, h9, h29, hp1, hF⟩
              have H := Hl48
              clear Hl48
              refine c_pure1 [(0, .int .i64 p0), (1, .slice A1 p1.length cap1), (6, .slice A7 r5.1.length cap8), (8, .slice A27 v46.length cap28), (9, .int .i64 (wi (m0_1 + 1)))] (fun R hR => st_val hS rfl rfl rfl (r_move hS rfl rfl) fun a170 hS170 => st_val hS170 rfl rfl rfl (r_bin hS170 rfl rfl rfl b_add) fun a171 hS171 => st_val hS171 rfl rfl rfl (r_assign hS171 rfl rfl) fun a172 hS172 => wpList_nil (hR _ (hS172.re ⟨rfl, rfl, rfl, rfl, rfl, trivial⟩))) ?_
              clear hS
              clear a
              intro a hS
              refine ⟨k40, Nat.lt_succ_self _, ?_⟩
              exact ⟨v46, wi (m0_1 + 1), g45, H, hS.re ⟨rfl, rfl, rfl, rfl, rfl, trivial⟩, h9, h29, hp1, hF⟩
          · replace H := ite_f hb44 H
            refine wp_exit ?_
            have e := Option.some.inj H
            subst e
            exact ⟨g39, hS.re ⟨rfl, trivial⟩, h29, hF⟩
    · clear H
      clear hp1 h9 h29 hF
      clear hS
      rintro a w34 ⟨g34, hS, h29, hF⟩
      have H := Hl37
      clear Hl37
      refine c_pure [(4, .slice A27 v35.length cap28), (5, .int .i64 0)] (fun R hR => st_val hS rfl rfl rfl (r_move hS rfl rfl) fun a173 hS173 => st_val hS173 rfl rfl rfl (r_assign hS173 rfl rfl) fun a174 hS174 => st_val hS174 rfl rfl rfl (r_assign hS174 rfl rfl) fun a175 hS175 => wpList_nil (hR _ (hS175.re ⟨rfl, rfl, trivial⟩))) ?_
      clear hS
      clear a
      intro a hS
      refine wp_ret ?_
      have e := Option.some.inj H
      subst e
      have F176 := Fr.recol2 w34 g34 (N + 2) r0
      replace h29 := h29.recol2 r0
      replace hF := hF.trans F176 (fun c' (hm : c' = N + 2 ∨ c' = N + 2 + 1) => by show (r0 ≤ c' ∧ c' < r0 + 2) ∨ N ≤ c'; omega)
      repeat (with_reducible first | refine then_ret ?_ | refine inBlock_ret ?_)
      exact c_ret2 hS Try.results24 rfl rfl ⟨_, rfl, (recol2 g34 (N + 2) r0), A27, cap28, rfl, h29, hF⟩


end Go.Proofs.Ytphgandhncmaoaa.Sim
