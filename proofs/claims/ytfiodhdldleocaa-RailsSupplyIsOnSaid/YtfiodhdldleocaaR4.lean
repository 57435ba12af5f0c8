/-
  Printed by a program of this session (wip/tools): plain functions with the same answers as the Go functions, and the proofs of it.
-/
import Derived.Test.YtfiodhdldleocaaProg
import Derived.Test.YtfiodhdldleocaaR3
namespace Go.Proofs.Ytfiodhdldleocaa.Sim
open Go
set_option linter.unusedVariables false
set_option linter.unusedSimpArgs false

/-! ### law25_log: function 26 -/
def law25_log.l0 (p0 : List api_Rail) (p1 : List law25_Call) : Nat → rails_Rails → (List api_RailOp) → Int → Int → Option (Fl ((List api_RailOp) × Bool) ((List api_RailOp)))
  | 0, _, _, _, _ => none
  | k56 + 1, m0_0, m0_1, m0_2, m0_3 => if decide (m0_3 < (p1.length : Int)) = true then ((idx p1 m0_3).bind fun x64 => (law25_Call_at.f (law25_Call.mk x64.Release x64.Rail x64.Wait false) (p0.length : Int) m0_2).bind fun r82 => (law25_do.f m0_0 (law25_Call.mk x64.Release x64.Rail x64.Wait false) (p0.length : Int) m0_2).bind fun r96 => (if (r96.2.2 == 0) = true then (some (.nxt r82.2)) else (if decide (0 < (r96.2.1.length : Int)) = true then (some (.out (.out ([], false)))) else (some (.nxt m0_2))) : Option (Fl (Fl ((List api_RailOp) × Bool) ((List api_RailOp))) (Int))).bind fun o110 => o110.go fun v109 => (app m0_1 r96.2.1).bind fun y125 => law25_log.l0 p0 p1 k56 r96.1 y125 v109 (wi (m0_3 + 1))) else (some (.nxt m0_1))
def law25_log.f (p0 : List api_Rail) (p1 : List law25_Call) : Option ((List api_RailOp) × Bool) := (rails_New.f p0).bind fun r4 => if ((r4.2 != 0) || r4.1.isNone) = true then (some ([], false)) else (((r4.1).bind fun st42 => law25_log.l0 p0 p1 FUEL st42 [] 0 0 : Option (Fl ((List api_RailOp) × Bool) ((List api_RailOp)))).bind fun o39 => o39.go fun v38 => some (v38, true))
set_option maxRecDepth 100000 in
set_option maxHeartbeats 4000000 in
theorem law25_log.calls {p0 : List api_Rail} {A0 : Option Addr} {cap0 : Nat} {C0 : Nat → Prop} {p1 : List law25_Call} {A1 : Option Addr} {cap1 : Nat} {C1 : Nat → Prop} {w : World} {g : Nat → Nat} {out : (List api_RailOp) × Bool} (N : Nat) (r0 : Nat) (hp0 : RdS kd_api_Rail w g C0 A0 cap0 p0) (hC0 : ∀ c, C0 c → c < N) (hp1 : RdS kd_law25_Call w g C1 A1 cap1 p1) (hC1 : ∀ c, C1 c → c < N) (hr0 : r0 + 2 ≤ N) (H : law25_log.f p0 p1 = some out) :
    Calls Try.prog 26 #[.slice A0 p0.length cap0, .slice A1 p1.length cap1] w (fun e w' => ∃ v, e = .returned v ∧ ∃ (g' : Nat → Nat) (A_r0 : Option Addr) (cap_r0 : Nat), v = .tuple #[.slice A_r0 out.1.length cap_r0, .bool out.2] ∧ OwS kd_api_RailOp 50 w' g' r0 A_r0 cap_r0 out.1 ∧ Fr (fun q => (r0 ≤ q ∧ q < r0 + 2) ∨ N ≤ q) w g w' g') := by
  unfold law25_log.f at H
  refine calls_enter Try.func26 rfl Try.ntmps26 rfl (fun a hS => ?_)
  replace hS : Sl 65 a [(0, .slice A0 p0.length cap0), (1, .slice A1 p1.length cap1)] := hS
  have hF : Fr (fun q => (r0 ≤ q ∧ q < r0 + 2) ∨ N ≤ q) w g w g := Fr.refl _ _ _
  refine c_pure [(0, .slice A0 p0.length cap0), (1, .slice A1 p1.length cap1)] (fun R hR => st_val hS rfl rfl rfl (r_assign hS rfl rfl) fun a1 hS1 => st_val hS1 rfl rfl rfl (r_assign hS1 rfl rfl) fun a2 hS2 => wpList_nil (hR _ (hS2.re ⟨rfl, rfl, trivial⟩))) ?_
  clear hS
  clear a
  intro a hS
  obtain ⟨r4, hr5, H⟩ := bind_el H
  refine c_region (fun K hK => ?_)
  refine st_val hS rfl rfl rfl (r_move hS rfl rfl) fun a3 hS3 => ?_
  refine st_enter hS3 rfl rfl rfl (r_call hS3 rfl rfl (by kernel_rfl)) (rails_New.calls (C0 := C0) (p0 := p0) (g := g) (N + 9) (N + 0) hp0 (fun q (hq : C0 q) => by have := hC0 q hq; omega) (by omega) hr5) ?_
  rintro _ a9 w10 ⟨g10, p6, rfl, h7, F10⟩ hS9
  replace hp0 := RdS.fr hp0 F10 (by decide) (fun q (hq : C0 q) (hm : (N + 0 ≤ q ∧ q < N + 0 + 3) ∨ N + 9 ≤ q) => by have := hC0 q hq; omega)
  replace hp1 := RdS.fr hp1 F10 (by decide) (fun q (hq : C1 q) (hm : (N + 0 ≤ q ∧ q < N + 0 + 3) ∨ N + 9 ≤ q) => by have := hC1 q hq; omega)
  replace hF := hF.trans F10 (fun c' (hm : (N + 0 ≤ c' ∧ c' < N + 0 + 3) ∨ N + 9 ≤ c') => by show (r0 ≤ c' ∧ c' < r0 + 2) ∨ N ≤ c'; omega)
  refine st_val hS9 rfl rfl rfl (r_move hS9 rfl rfl) fun a11 hS11 => st_val hS11 rfl rfl rfl (r_extract hS11 rfl rfl rfl) fun a12 hS12 => st_val hS12 rfl rfl rfl (r_extract hS12 rfl rfl rfl) fun a13 hS13 => st_val hS13 rfl rfl rfl (r_assign hS13 rfl rfl) fun a14 hS14 => st_val hS14 rfl rfl rfl (r_assign hS14 rfl rfl) fun a15 hS15 => wpList_nil (hK _ _ ?_)
  replace hS : Sl 65 _ [(0, .slice A0 p0.length cap0), (1, .slice A1 p1.length cap1), (6, .pointer p6), (7, .int .i64 r4.2)] := hS15.re ⟨rfl, rfl, rfl, rfl, trivial⟩
  clear hK K
  try clear hS3 hS9 hS11 hS12 hS13 hS14 hS15
  obtain ⟨a, ha⟩ : ∃ a', a' = a15 := ⟨_, rfl⟩
  rw [← ha] at hS ⊢; clear ha
  refine wp_seq ?_
  refine c_region (fun K hK => ?_)
  refine st_val hS rfl rfl rfl (r_move hS rfl rfl) fun a16 hS16 => st_val hS16 rfl rfl rfl (r_bin hS16 rfl rfl rfl b_neq) fun a17 hS17 => st_val hS17 rfl rfl rfl (r_move hS17 rfl rfl) fun a18 hS18 => ?_
  refine g_join (N := 65) 3 [(0, .slice A0 p0.length cap0), (1, .slice A1 p1.length cap1), (6, .pointer p6), (26, .bool ((r4.2 != 0) || r4.1.isNone))] ?_ (fun hk => ?_)
  rotate_left
  · rcases Bool.eq_false_or_eq_true ((r4.2 != 0)) with hb19 | hb19
    · refine st_off hS18 (want_off hS18 rfl rfl rfl hb19) rfl rfl fun a22 hS22 => st_off hS22 (want_off hS22 rfl rfl rfl hb19) rfl rfl fun a23 hS23 => st_val hS23 rfl rfl rfl (r_pickT hS23 rfl rfl rfl hb19) fun a24 hS24 => hk _ (hS24.re ⟨rfl, rfl, rfl, (by rw [hb19]; rfl), trivial⟩)
    · refine st_valW hS18 (want_on hS18 rfl rfl rfl hb19) rfl rfl (r_move hS18 rfl rfl) fun a25 hS25 => st_valW hS25 (want_on hS25 rfl rfl rfl hb19) rfl rfl (r_optEq hS25 rfl rfl (by kernel_rfl) (rails_Rails_Opt.isNone h7)) fun a26 hS26 => st_val hS26 rfl rfl rfl (r_pickF hS26 rfl rfl rfl hb19) fun a27 hS27 => hk _ (hS27.re ⟨rfl, rfl, rfl, (by rw [hb19]; rfl), trivial⟩)
  intro a28 hS28
  refine wpList_nil (hK _ _ ?_)
  replace hS : Sl 65 _ [(0, .slice A0 p0.length cap0), (1, .slice A1 p1.length cap1), (6, .pointer p6), (26, .bool ((r4.2 != 0) || r4.1.isNone))] := hS28.re ⟨rfl, rfl, rfl, rfl, trivial⟩
  clear hK K
  try clear hS16 hS17 hS18 hS28
  obtain ⟨a, ha⟩ : ∃ a', a' = a28 := ⟨_, rfl⟩
  rw [← ha] at hS ⊢; clear ha
  refine c_cond hS rfl (fun hb29 => ?_) (fun hb29 => ?_)
  · replace H := ite_t hb29 H
    refine c_pure [(4, .slice none 0 0), (5, .bool false)] (fun R hR => st_val hS rfl rfl rfl (r_assign hS rfl rfl) fun a30 hS30 => st_val hS30 rfl rfl rfl (r_assign hS30 rfl rfl) fun a31 hS31 => wpList_nil (hR _ (hS31.re ⟨rfl, rfl, trivial⟩))) ?_
    clear hS
    clear a
    intro a hS
    refine wp_ret ?_
    have e := Option.some.inj H
    subst e
    repeat (with_reducible first | refine then_ret ?_ | refine inBlock_ret ?_)
    exact c_ret2 hS Try.results26 rfl rfl ⟨_, rfl, g10, none, 0, rfl, OwS.nil kd_api_RailOp 50 w10 g10 r0, hF⟩
  · replace H := ite_f hb29 H
    refine wp_skip ?_
    change Code.wp _ _ _ _ _
    refine c_pure [(0, .slice A0 p0.length cap0), (1, .slice A1 p1.length cap1), (6, .pointer p6), (8, .slice none 0 0)] (fun R hR => st_val hS rfl rfl rfl (r_assign hS rfl rfl) fun a32 hS32 => wpList_nil (hR _ (hS32.re ⟨rfl, rfl, rfl, rfl, trivial⟩))) ?_
    clear hS
    clear a
    intro a hS
    refine c_pure [(0, .slice A0 p0.length cap0), (1, .slice A1 p1.length cap1), (6, .pointer p6), (8, .slice none 0 0), (9, .int .u64 0)] (fun R hR => st_val hS rfl rfl rfl (r_assign hS rfl rfl) fun a33 hS33 => wpList_nil (hR _ (hS33.re ⟨rfl, rfl, rfl, rfl, rfl, trivial⟩))) ?_
    clear hS
    clear a
    intro a hS
    obtain ⟨o39, H, Hl40⟩ := bind_el H
    refine c_cut (fun a w34 => ∃ (v38 : (List api_RailOp)), ∃ (g34 : Nat → Nat), ∃ (A35 : Option Addr), ∃ (cap36 : Nat), o39 = .nxt v38 ∧ Sl 65 a [(8, .slice A35 v38.length cap36)] ∧ OwS kd_api_RailOp 50 w34 g34 (N + 7) A35 cap36 v38 ∧ Fr (fun q => (r0 ≤ q ∧ q < r0 + 2) ∨ N ≤ q) w g w34 g34) ?_ ?_
    · refine c_pure [(0, .slice A0 p0.length cap0), (1, .slice A1 p1.length cap1), (6, .pointer p6), (8, .slice none 0 0), (9, .int .u64 0), (10, .int .i64 0)] (fun R hR => st_val hS rfl rfl rfl (r_assign hS rfl rfl) fun a41 hS41 => wpList_nil (hR _ (hS41.re ⟨rfl, rfl, rfl, rfl, rfl, rfl, trivial⟩))) ?_
      clear hS
      clear a
      intro a hS
      refine wp_block ?_
      obtain ⟨st42, hst43, H⟩ := bind_el H
      rw [hst43] at h7
      obtain ⟨b44, A47, cap48, hp51, h45, h49⟩ := h7
      subst hp51
      refine wp_loop_ghost (fun kq => fun a w52 => ∃ (m0_0 : rails_Rails), ∃ (m0_1 : List api_RailOp), ∃ (m0_2 : Int), ∃ (m0_3 : Int), ∃ (g52 : Nat → Nat), ∃ (A53 : Option Addr), ∃ (cap54 : Nat), law25_log.l0 p0 p1 kq m0_0 m0_1 m0_2 m0_3 = some o39 ∧ Sl 65 a [(0, .slice A0 p0.length cap0), (1, .slice A1 p1.length cap1), (6, .pointer (some ⟨b44, 0, none⟩)), (8, .slice A53 m0_1.length cap54), (9, .int .u64 m0_2), (10, .int .i64 m0_3)] ∧ Bx w52 g52 (N + 0) b44 70 [.slice A47 m0_0.list.length cap48, .int .u64 m0_0.now] ∧ OwS kd_rails_rail 75 w52 g52 (N + 0 + 1) A47 cap48 m0_0.list ∧ OwS kd_api_RailOp 50 w52 g52 (N + 7) A53 cap54 m0_1 ∧ RdS kd_api_Rail w52 g52 C0 A0 cap0 p0 ∧ RdS kd_law25_Call w52 g52 C1 A1 cap1 p1 ∧ Fr (fun q => (r0 ≤ q ∧ q < r0 + 2) ∨ N ≤ q) w g w52 g52) FUEL ?_ ?_
      · exact ⟨st42, [], 0, 0, g10, none, 0, H, hS.re ⟨rfl, rfl, rfl, rfl, rfl, rfl, trivial⟩, h45, h49, OwS.nil kd_api_RailOp 50 w10 g10 (N + 7), hp0, hp1, hF⟩
      · clear H
        clear hp0 hp1 h49 h45 hF
        clear hS
        rintro k56 a w52 ⟨m0_0, m0_1, m0_2, m0_3, g52, A53, cap54, hpre0, hS, h45, h49, h55, hp0, hp1, hF⟩
        have H := hpre0
        clear hpre0
        cases k56 with
        | zero => exact absurd H (by simp [law25_log.l0])
        | succ k56 =>
          rw [law25_log.l0] at H
          refine wp_seq ?_
          refine c_pure [(0, .slice A0 p0.length cap0), (1, .slice A1 p1.length cap1), (6, .pointer (some ⟨b44, 0, none⟩)), (8, .slice A53 m0_1.length cap54), (9, .int .u64 m0_2), (10, .int .i64 m0_3), (30, .bool (decide (m0_3 < (p1.length : Int))))] (fun R hR => st_val hS rfl rfl rfl (r_move hS rfl rfl) fun a57 hS57 => st_val hS57 rfl rfl rfl (r_move hS57 rfl rfl) fun a58 hS58 => st_val hS58 rfl rfl rfl (r_len (e := 46) (sz := 4) (by_ := 32) hS58 rfl rfl (by kernel_rfl)) fun a59 hS59 => st_val hS59 rfl rfl rfl (r_bin hS59 rfl rfl rfl b_lss) fun a60 hS60 => wpList_nil (hR _ (hS60.re ⟨rfl, rfl, rfl, rfl, rfl, rfl, rfl, trivial⟩))) ?_
          clear hS
          clear a
          intro a hS
          refine c_cond hS rfl (fun hb61 => ?_) (fun hb61 => ?_)
          · replace H := ite_t hb61 H
            refine wp_skip ?_
            change Code.wp _ _ _ _ _
            refine wp_seq ?_
            refine wp_block ?_
            obtain ⟨x64, hx65, H⟩ := bind_el H
            refine c_region (fun K hK => ?_)
            refine st_val hS rfl rfl rfl (r_move hS rfl rfl) fun a62 hS62 => st_val hS62 rfl rfl rfl (r_move hS62 rfl rfl) fun a63 hS63 => st_val hS63 rfl rfl rfl (r_index (e := 46) (sz := 4) (by_ := 32) hS63 rfl rfl rfl (by kernel_rfl) (RdS.some_ hp1 hx65) (idx_lo hx65) (idx_hi hx65)) fun a66 hS66 => st_val hS66 rfl rfl rfl (r_loadN (n := 4) (cs := [.bool x64.Release, .int .i64 x64.Rail, .int .u64 x64.Wait, .bool x64.Raw]) hS66 rfl rfl (by kernel_rfl) rfl (RdS.cells_off hp1 hx65 0 4)) fun a67 hS67 => ?_
            refine st_eff hS67 rfl rfl rfl (e_alloc (cs := [.bool false, .int .i64 0, .int .u64 0, .bool false]) (N + 3) g52 hS67 rfl (by kernel_rfl)) ?_
            rintro _ a71 w72 g72 ⟨⟨b68, rfl, h69⟩, F72⟩ hS71
            replace h45 := h45.fr F72 (fun h => h)
            replace h49 := OwS.fr h49 F72 (fun _ _ h => h)
            replace h55 := OwS.fr h55 F72 (fun _ _ h => h)
            replace hp0 := RdS.fr hp0 F72 (by decide) (fun _ _ h => h)
            replace hp1 := RdS.fr hp1 F72 (by decide) (fun _ _ h => h)
            replace hF := hF.trans F72 (fun _ h => h.elim)
            refine st_effS hS71 rfl rfl (e_storeB (n := 4) (bb := true) (cs' := [.bool x64.Release, .int .i64 x64.Rail, .int .u64 x64.Wait, .bool x64.Raw]) g72 hS71 rfl rfl rfl (by kernel_rfl) rfl rfl rfl h69 rfl rfl) ?_
            rintro a73 w74 g74 ⟨h69, F74⟩ hS73
            replace h45 := h45.fr F74 (fun (hm : N + 0 = N + 3) => by omega)
            replace h49 := OwS.fr h49 F74 (fun c' hc (hm : c' = N + 3) => by omega)
            replace h55 := OwS.fr h55 F74 (fun c' hc (hm : c' = N + 3) => by omega)
            replace hp0 := RdS.fr hp0 F74 (by decide) (fun q (hq : C0 q) (hm : q = N + 3) => by have := hC0 q hq; omega)
            replace hp1 := RdS.fr hp1 F74 (by decide) (fun q (hq : C1 q) (hm : q = N + 3) => by have := hC1 q hq; omega)
            replace hF := hF.trans F74 (fun c' (hm : c' = N + 3) => by show (r0 ≤ c' ∧ c' < r0 + 2) ∨ N ≤ c'; omega)
            refine wpList_nil (hK _ _ ?_)
            replace hS : Sl 65 _ [(0, .slice A0 p0.length cap0), (1, .slice A1 p1.length cap1), (6, .pointer (some ⟨b44, 0, none⟩)), (8, .slice A53 m0_1.length cap54), (9, .int .u64 m0_2), (10, .int .i64 m0_3), (11, .pointer (some ⟨b68, 0, none⟩))] := hS73.re ⟨rfl, rfl, rfl, rfl, rfl, rfl, rfl, trivial⟩
            clear hK K
            try clear hS62 hS63 hS66 hS67 hS71 hS73
            obtain ⟨a, ha⟩ : ∃ a', a' = a73 := ⟨_, rfl⟩
            rw [← ha] at hS ⊢; clear ha
            refine c_region (fun K hK => ?_)
            refine st_val hS rfl rfl rfl (r_fieldB (off := 3) hS rfl rfl (by kernel_rfl)) fun a75 hS75 => ?_
            refine st_effS hS75 rfl rfl (e_storeB (n := 1) (bb := false) (cs' := [.bool x64.Release, .int .i64 x64.Rail, .int .u64 x64.Wait, .bool false]) g74 hS75 rfl rfl rfl (by kernel_rfl) rfl rfl rfl h69 rfl rfl) ?_
            rintro a76 w77 g77 ⟨h69, F77⟩ hS76
            replace h45 := h45.fr F77 (fun (hm : N + 0 = N + 3) => by omega)
            replace h49 := OwS.fr h49 F77 (fun c' hc (hm : c' = N + 3) => by omega)
            replace h55 := OwS.fr h55 F77 (fun c' hc (hm : c' = N + 3) => by omega)
            replace hp0 := RdS.fr hp0 F77 (by decide) (fun q (hq : C0 q) (hm : q = N + 3) => by have := hC0 q hq; omega)
            replace hp1 := RdS.fr hp1 F77 (by decide) (fun q (hq : C1 q) (hm : q = N + 3) => by have := hC1 q hq; omega)
            replace hF := hF.trans F77 (fun c' (hm : c' = N + 3) => by show (r0 ≤ c' ∧ c' < r0 + 2) ∨ N ≤ c'; omega)
            refine wpList_nil (hK _ _ ?_)
            replace hS : Sl 65 _ [(0, .slice A0 p0.length cap0), (1, .slice A1 p1.length cap1), (6, .pointer (some ⟨b44, 0, none⟩)), (8, .slice A53 m0_1.length cap54), (9, .int .u64 m0_2), (10, .int .i64 m0_3), (11, .pointer (some ⟨b68, 0, none⟩))] := hS76.re ⟨rfl, rfl, rfl, rfl, rfl, rfl, rfl, trivial⟩
            clear hK K
            try clear hS75 hS76
            obtain ⟨a, ha⟩ : ∃ a', a' = a76 := ⟨_, rfl⟩
            rw [← ha] at hS ⊢; clear ha
            obtain ⟨r82, hr83, H⟩ := bind_el H
            refine c_region (fun K hK => ?_)
            refine st_val hS rfl rfl rfl (r_loadN (n := 4) (cs := [.bool x64.Release, .int .i64 x64.Rail, .int .u64 x64.Wait, .bool false]) hS rfl rfl (by kernel_rfl) rfl (Bx.cells_off h69 0 4)) fun a78 hS78 => st_val hS78 rfl rfl rfl (r_move hS78 rfl rfl) fun a79 hS79 => st_val hS79 rfl rfl rfl (r_len (e := 35) (sz := 3) (by_ := 24) hS79 rfl rfl (by kernel_rfl)) fun a80 hS80 => st_val hS80 rfl rfl rfl (r_move hS80 rfl rfl) fun a81 hS81 => ?_
            refine st_enter hS81 rfl rfl rfl (r_call hS81 rfl rfl (by kernel_rfl)) (law25_Call_at.calls (p0 := (law25_Call.mk x64.Release x64.Rail x64.Wait false)) (p1 := (p0.length : Int)) (p2 := m0_2) (g := g77) (N + 9)   hr83) ?_
            rintro _ a84 w85 ⟨g85, rfl, F85⟩ hS84
            replace h45 := h45.fr F85 (fun (hm : N + 9 ≤ N + 0) => by omega)
            replace h49 := OwS.fr h49 F85 (fun c' hc (hm : N + 9 ≤ c') => by omega)
            replace h69 := h69.fr F85 (fun (hm : N + 9 ≤ N + 3) => by omega)
            replace h55 := OwS.fr h55 F85 (fun c' hc (hm : N + 9 ≤ c') => by omega)
            replace hp0 := RdS.fr hp0 F85 (by decide) (fun q (hq : C0 q) (hm : N + 9 ≤ q) => by have := hC0 q hq; omega)
            replace hp1 := RdS.fr hp1 F85 (by decide) (fun q (hq : C1 q) (hm : N + 9 ≤ q) => by have := hC1 q hq; omega)
            replace hF := hF.trans F85 (fun c' (hm : N + 9 ≤ c') => by show (r0 ≤ c' ∧ c' < r0 + 2) ∨ N ≤ c'; omega)
            refine st_val hS84 rfl rfl rfl (r_move hS84 rfl rfl) fun a86 hS86 => st_val hS86 rfl rfl rfl (r_extract hS86 rfl rfl rfl) fun a87 hS87 => st_val hS87 rfl rfl rfl (r_extract hS87 rfl rfl rfl) fun a88 hS88 => st_val hS88 rfl rfl rfl (r_assign hS88 rfl rfl) fun a89 hS89 => st_val hS89 rfl rfl rfl (r_assign hS89 rfl rfl) fun a90 hS90 => wpList_nil (hK _ _ ?_)
            replace hS : Sl 65 _ [(0, .slice A0 p0.length cap0), (1, .slice A1 p1.length cap1), (6, .pointer (some ⟨b44, 0, none⟩)), (8, .slice A53 m0_1.length cap54), (9, .int .u64 m0_2), (10, .int .i64 m0_3), (11, .pointer (some ⟨b68, 0, none⟩)), (13, .int .u64 r82.2)] := hS90.re ⟨rfl, rfl, rfl, rfl, rfl, rfl, rfl, rfl, trivial⟩
            clear hK K
            try clear hS78 hS79 hS80 hS81 hS84 hS86 hS87 hS88 hS89 hS90
            obtain ⟨a, ha⟩ : ∃ a', a' = a90 := ⟨_, rfl⟩
            rw [← ha] at hS ⊢; clear ha
            obtain ⟨r96, hr97, H⟩ := bind_el H
            refine c_region (fun K hK => ?_)
            refine st_val hS rfl rfl rfl (r_move hS rfl rfl) fun a91 hS91 => st_val hS91 rfl rfl rfl (r_loadN (n := 4) (cs := [.bool x64.Release, .int .i64 x64.Rail, .int .u64 x64.Wait, .bool false]) hS91 rfl rfl (by kernel_rfl) rfl (Bx.cells_off h69 0 4)) fun a92 hS92 => st_val hS92 rfl rfl rfl (r_move hS92 rfl rfl) fun a93 hS93 => st_val hS93 rfl rfl rfl (r_len (e := 35) (sz := 3) (by_ := 24) hS93 rfl rfl (by kernel_rfl)) fun a94 hS94 => st_val hS94 rfl rfl rfl (r_move hS94 rfl rfl) fun a95 hS95 => ?_
            refine st_enter hS95 rfl rfl rfl (r_call hS95 rfl rfl (by kernel_rfl)) (law25_do.calls (c0 := N + 0) (b_p0 := b44) (A_list_p0 := A47) (cap_list_p0 := cap48) (p0 := m0_0) (p1 := (law25_Call.mk x64.Release x64.Rail x64.Wait false)) (p2 := (p0.length : Int)) (p3 := m0_2) (g := g85) (N + 9) (N + 5) ⟨h45, h49⟩ (by omega) (by omega) (by omega) hr97) ?_
            rintro _ a102 w103 ⟨g103, A98, cap99, rfl, ⟨h45, h49⟩, h100, F103⟩ hS102
            replace h69 := h69.fr F103 (fun (hm : (N + 0 ≤ N + 3 ∧ N + 3 < N + 0 + 3) ∨ (N + 5 ≤ N + 3 ∧ N + 3 < N + 5 + 2) ∨ N + 9 ≤ N + 3) => by omega)
            replace h55 := OwS.fr h55 F103 (fun c' hc (hm : (N + 0 ≤ c' ∧ c' < N + 0 + 3) ∨ (N + 5 ≤ c' ∧ c' < N + 5 + 2) ∨ N + 9 ≤ c') => by omega)
            replace hp0 := RdS.fr hp0 F103 (by decide) (fun q (hq : C0 q) (hm : (N + 0 ≤ q ∧ q < N + 0 + 3) ∨ (N + 5 ≤ q ∧ q < N + 5 + 2) ∨ N + 9 ≤ q) => by have := hC0 q hq; omega)
            replace hp1 := RdS.fr hp1 F103 (by decide) (fun q (hq : C1 q) (hm : (N + 0 ≤ q ∧ q < N + 0 + 3) ∨ (N + 5 ≤ q ∧ q < N + 5 + 2) ∨ N + 9 ≤ q) => by have := hC1 q hq; omega)
            replace hF := hF.trans F103 (fun c' (hm : (N + 0 ≤ c' ∧ c' < N + 0 + 3) ∨ (N + 5 ≤ c' ∧ c' < N + 5 + 2) ∨ N + 9 ≤ c') => by show (r0 ≤ c' ∧ c' < r0 + 2) ∨ N ≤ c'; omega)
            refine st_val hS102 rfl rfl rfl (r_move hS102 rfl rfl) fun a104 hS104 => st_val hS104 rfl rfl rfl (r_extract hS104 rfl rfl rfl) fun a105 hS105 => st_val hS105 rfl rfl rfl (r_extract hS105 rfl rfl rfl) fun a106 hS106 => st_val hS106 rfl rfl rfl (r_assign hS106 rfl rfl) fun a107 hS107 => st_val hS107 rfl rfl rfl (r_assign hS107 rfl rfl) fun a108 hS108 => wpList_nil (hK _ _ ?_)
            replace hS : Sl 65 _ [(0, .slice A0 p0.length cap0), (1, .slice A1 p1.length cap1), (6, .pointer (some ⟨b44, 0, none⟩)), (8, .slice A53 m0_1.length cap54), (9, .int .u64 m0_2), (10, .int .i64 m0_3), (13, .int .u64 r82.2), (14, .slice A98 r96.2.1.length cap99), (15, .int .i64 r96.2.2)] := hS108.re ⟨rfl, rfl, rfl, rfl, rfl, rfl, rfl, rfl, rfl, trivial⟩
            clear hK K
            try clear hS91 hS92 hS93 hS94 hS95 hS102 hS104 hS105 hS106 hS107 hS108
            obtain ⟨a, ha⟩ : ∃ a', a' = a108 := ⟨_, rfl⟩
            rw [← ha] at hS ⊢; clear ha
            obtain ⟨o110, H, Hl111⟩ := bind_el H
            refine c_cut (fun a w' => ∃ (v109 : Int), o110 = .nxt v109 ∧ w103 = w' ∧ Sl 65 a [(0, .slice A0 p0.length cap0), (1, .slice A1 p1.length cap1), (6, .pointer (some ⟨b44, 0, none⟩)), (8, .slice A53 m0_1.length cap54), (9, .int .u64 v109), (10, .int .i64 m0_3), (14, .slice A98 r96.2.1.length cap99)]) ?_ ?_
            · refine c_pure [(0, .slice A0 p0.length cap0), (1, .slice A1 p1.length cap1), (6, .pointer (some ⟨b44, 0, none⟩)), (8, .slice A53 m0_1.length cap54), (9, .int .u64 m0_2), (10, .int .i64 m0_3), (13, .int .u64 r82.2), (14, .slice A98 r96.2.1.length cap99), (56, .bool (r96.2.2 == 0))] (fun R hR => st_val hS rfl rfl rfl (r_move hS rfl rfl) fun a112 hS112 => st_val hS112 rfl rfl rfl (r_bin hS112 rfl rfl rfl b_eql) fun a113 hS113 => wpList_nil (hR _ (hS113.re ⟨rfl, rfl, rfl, rfl, rfl, rfl, rfl, rfl, rfl, trivial⟩))) ?_
              clear hS
              clear a
              intro a hS
              refine c_cond hS rfl (fun hb114 => ?_) (fun hb114 => ?_)
              · replace H := ite_t hb114 H
                refine c_pure1 [(0, .slice A0 p0.length cap0), (1, .slice A1 p1.length cap1), (6, .pointer (some ⟨b44, 0, none⟩)), (8, .slice A53 m0_1.length cap54), (9, .int .u64 r82.2), (10, .int .i64 m0_3), (14, .slice A98 r96.2.1.length cap99)] (fun R hR => st_val hS rfl rfl rfl (r_move hS rfl rfl) fun a115 hS115 => st_val hS115 rfl rfl rfl (r_assign hS115 rfl rfl) fun a116 hS116 => wpList_nil (hR _ (hS116.re ⟨rfl, rfl, rfl, rfl, rfl, rfl, rfl, trivial⟩))) ?_
                clear hS
                clear a
                intro a hS
                have e := Option.some.inj H
                exact ⟨r82.2, e.symm, rfl, hS.re ⟨rfl, rfl, rfl, rfl, rfl, rfl, rfl, trivial⟩⟩
              · replace H := ite_f hb114 H
                refine c_pure [(0, .slice A0 p0.length cap0), (1, .slice A1 p1.length cap1), (6, .pointer (some ⟨b44, 0, none⟩)), (8, .slice A53 m0_1.length cap54), (9, .int .u64 m0_2), (10, .int .i64 m0_3), (14, .slice A98 r96.2.1.length cap99), (60, .bool (decide (0 < (r96.2.1.length : Int))))] (fun R hR => st_val hS rfl rfl rfl (r_move hS rfl rfl) fun a117 hS117 => st_val hS117 rfl rfl rfl (r_len (e := 50) (sz := 4) (by_ := 32) hS117 rfl rfl (by kernel_rfl)) fun a118 hS118 => st_val hS118 rfl rfl rfl (r_bin hS118 rfl rfl rfl b_gtr) fun a119 hS119 => wpList_nil (hR _ (hS119.re ⟨rfl, rfl, rfl, rfl, rfl, rfl, rfl, rfl, trivial⟩))) ?_
                clear hS
                clear a
                intro a hS
                refine c_cond hS rfl (fun hb120 => ?_) (fun hb120 => ?_)
                · replace H := ite_t hb120 H
                  refine c_pure [(4, .slice none 0 0), (5, .bool false)] (fun R hR => st_val hS rfl rfl rfl (r_assign hS rfl rfl) fun a121 hS121 => st_val hS121 rfl rfl rfl (r_assign hS121 rfl rfl) fun a122 hS122 => wpList_nil (hR _ (hS122.re ⟨rfl, rfl, trivial⟩))) ?_
                  clear hS
                  clear a
                  intro a hS
                  refine wp_ret ?_
                  have e := Option.some.inj H
                  subst e
                  replace H := Fl.go_out Hl111
                  have e := Option.some.inj H
                  subst e
                  replace H := Fl.go_out Hl40
                  have e := Option.some.inj H
                  subst e
                  repeat (with_reducible first | refine then_ret ?_ | refine inBlock_ret ?_)
                  exact c_ret2 hS Try.results26 rfl rfl ⟨_, rfl, g103, none, 0, rfl, OwS.nil kd_api_RailOp 50 w103 g103 r0, hF⟩
                · replace H := ite_f hb120 H
                  refine wp_skip ?_
                  have e := Option.some.inj H
                  exact ⟨m0_2, e.symm, rfl, hS.re ⟨rfl, rfl, rfl, rfl, rfl, rfl, rfl, trivial⟩⟩
            · clear H
              clear hS
              rintro a w' ⟨v109, hpre0, hw, hS⟩
              subst hpre0
              subst hw
              have H := Fl.go_nxt Hl111
              clear Hl111
              obtain ⟨y125, hy126, H⟩ := bind_el H
              refine c_region1 (fun K hK => ?_)
              refine st_val hS rfl rfl rfl (r_move hS rfl rfl) fun a123 hS123 => st_val hS123 rfl rfl rfl (r_move hS123 rfl rfl) fun a124 hS124 => ?_
              refine st_eff hS124 rfl rfl rfl (e_append (e := 50) (sz := 4) (by_ := 32) (z := [.int .i64 0, .bool false, .int .u64 0, .int .u64 0]) (kd := kd_api_RailOp) g103 hS124 rfl rfl rfl rfl (by kernel_rfl) (by kernel_rfl) rfl rfl rfl rfl h55 (OwD.rdx h100) (fun _ _ _ h => h) hy126) ?_
              rintro _ a131 w132 g132 ⟨⟨A127, cap128, rfl, h129⟩, F132⟩ hS131
              replace h100 := OwS.fr h100 F132 (fun c' hc (hm : c' = N + 7) => by omega)
              replace h45 := h45.fr F132 (fun (hm : N + 0 = N + 7) => by omega)
              replace h49 := OwS.fr h49 F132 (fun c' hc (hm : c' = N + 7) => by omega)
              replace hp0 := RdS.fr hp0 F132 (by decide) (fun q (hq : C0 q) (hm : q = N + 7) => by have := hC0 q hq; omega)
              replace hp1 := RdS.fr hp1 F132 (by decide) (fun q (hq : C1 q) (hm : q = N + 7) => by have := hC1 q hq; omega)
              replace hF := hF.trans F132 (fun c' (hm : c' = N + 7) => by show (r0 ≤ c' ∧ c' < r0 + 2) ∨ N ≤ c'; omega)
              refine st_val hS131 rfl rfl rfl (r_assign hS131 rfl rfl) fun a133 hS133 => wpList_nil (hK _ _ ?_)
              replace hS : Sl 65 _ [(0, .slice A0 p0.length cap0), (1, .slice A1 p1.length cap1), (6, .pointer (some ⟨b44, 0, none⟩)), (8, .slice A127 y125.length cap128), (9, .int .u64 v109), (10, .int .i64 m0_3)] := hS133.re ⟨rfl, rfl, rfl, rfl, rfl, rfl, trivial⟩
              clear hK K
              try clear hS123 hS124 hS131 hS133
              obtain ⟨a, ha⟩ : ∃ a', a' = a133 := ⟨_, rfl⟩
              rw [← ha] at hS ⊢; clear ha
              change Code.wp _ _ _ _ _
              refine c_pure1 [(0, .slice A0 p0.length cap0), (1, .slice A1 p1.length cap1), (6, .pointer (some ⟨b44, 0, none⟩)), (8, .slice A127 y125.length cap128), (9, .int .u64 v109), (10, .int .i64 (wi (m0_3 + 1)))] (fun R hR => st_val hS rfl rfl rfl (r_move hS rfl rfl) fun a134 hS134 => st_val hS134 rfl rfl rfl (r_bin hS134 rfl rfl rfl b_add) fun a135 hS135 => st_val hS135 rfl rfl rfl (r_assign hS135 rfl rfl) fun a136 hS136 => wpList_nil (hR _ (hS136.re ⟨rfl, rfl, rfl, rfl, rfl, rfl, trivial⟩))) ?_
              clear hS
              clear a
              intro a hS
              refine ⟨k56, Nat.lt_succ_self _, ?_⟩
              exact ⟨r96.1, y125, v109, wi (m0_3 + 1), g132, A127, cap128, H, hS.re ⟨rfl, rfl, rfl, rfl, rfl, rfl, trivial⟩, h45, h49, h129, hp0, hp1, hF⟩
          · replace H := ite_f hb61 H
            refine wp_exit ?_
            have e := Option.some.inj H
            exact ⟨m0_1, g52, A53, cap54, e.symm, hS.re ⟨rfl, trivial⟩, h55, hF⟩
    · clear H
      clear hp0 hp1 h7 hF
      clear hS
      rintro a w34 ⟨v38, g34, A35, cap36, hpre0, hS, h37, hF⟩
      subst hpre0
      have H := Fl.go_nxt Hl40
      clear Hl40
      refine c_pure [(4, .slice A35 v38.length cap36), (5, .bool true)] (fun R hR => st_val hS rfl rfl rfl (r_move hS rfl rfl) fun a137 hS137 => st_val hS137 rfl rfl rfl (r_assign hS137 rfl rfl) fun a138 hS138 => st_val hS138 rfl rfl rfl (r_assign hS138 rfl rfl) fun a139 hS139 => wpList_nil (hR _ (hS139.re ⟨rfl, rfl, trivial⟩))) ?_
      clear hS
      clear a
      intro a hS
      refine wp_ret ?_
      have e := Option.some.inj H
      subst e
      have F140 := Fr.recol2 w34 g34 (N + 7) r0
      replace h37 := h37.recol2 r0
      replace hF := hF.trans F140 (fun c' (hm : c' = N + 7 ∨ c' = N + 7 + 1) => by show (r0 ≤ c' ∧ c' < r0 + 2) ∨ N ≤ c'; omega)
      repeat (with_reducible first | refine then_ret ?_ | refine inBlock_ret ?_)
      exact c_ret2 hS Try.results26 rfl rfl ⟨_, rfl, (recol2 g34 (N + 7) r0), A35, cap36, rfl, h37, hF⟩

/-! ### law25_named: function 27 -/
def law25_named.l0 (p0 : List api_RailOp) (p1 : Int) : Nat → Int → Option (Fl (Bool) (Unit))
  | 0, _ => none
  | k6 + 1, m0_0 => if decide (m0_0 < (p0.length : Int)) = true then ((idx p0 m0_0).bind fun x14 => if ((decide (x14.Rail < 0)) || (decide (p1 ≤ x14.Rail))) = true then (some (.out false)) else (law25_named.l0 p0 p1 k6 (wi (m0_0 + 1)))) else (some (.nxt ()))
def law25_named.f (p0 : List api_RailOp) (p1 : Int) : Option (Bool) := (law25_named.l0 p0 p1 FUEL 0 : Option (Fl (Bool) (Unit))).bind fun o3 => o3.go fun _ => some true
set_option maxRecDepth 100000 in
set_option maxHeartbeats 4000000 in
theorem law25_named.calls {p0 : List api_RailOp} {A0 : Option Addr} {cap0 : Nat} {C0 : Nat → Prop} {p1 : Int} {w : World} {g : Nat → Nat} {out : Bool} (N : Nat) (hp0 : RdS kd_api_RailOp w g C0 A0 cap0 p0) (hC0 : ∀ c, C0 c → c < N) (H : law25_named.f p0 p1 = some out) :
    Calls Try.prog 27 #[.slice A0 p0.length cap0, .int .i64 p1] w (fun e w' => ∃ v, e = .returned v ∧ ∃ (g' : Nat → Nat), v = .bool out ∧ Fr (fun q => N ≤ q) w g w' g') := by
  unfold law25_named.f at H
  refine calls_enter Try.func27 rfl Try.ntmps27 rfl (fun a hS => ?_)
  replace hS : Sl 27 a [(0, .slice A0 p0.length cap0), (1, .int .i64 p1)] := hS
  have hF : Fr (fun q => N ≤ q) w g w g := Fr.refl _ _ _
  refine c_pure [(0, .slice A0 p0.length cap0), (1, .int .i64 p1)] (fun R hR => st_val hS rfl rfl rfl (r_assign hS rfl rfl) fun a1 hS1 => wpList_nil (hR _ (hS1.re ⟨rfl, rfl, trivial⟩))) ?_
  clear hS
  clear a
  intro a hS
  obtain ⟨o3, H, Hl4⟩ := bind_el H
  refine c_cut (fun a w' => o3 = .nxt () ∧ w = w' ∧ Sl 27 a []) ?_ ?_
  · refine c_pure [(0, .slice A0 p0.length cap0), (1, .int .i64 p1), (5, .int .i64 0)] (fun R hR => st_val hS rfl rfl rfl (r_assign hS rfl rfl) fun a5 hS5 => wpList_nil (hR _ (hS5.re ⟨rfl, rfl, rfl, trivial⟩))) ?_
    clear hS
    clear a
    intro a hS
    refine wp_block ?_
    refine wp_loop_ghost (fun kq => fun a w' => ∃ (m0_0 : Int), law25_named.l0 p0 p1 kq m0_0 = some o3 ∧ w = w' ∧ Sl 27 a [(0, .slice A0 p0.length cap0), (1, .int .i64 p1), (5, .int .i64 m0_0)]) FUEL ?_ ?_
    · exact ⟨0, H, rfl, hS.re ⟨rfl, rfl, rfl, trivial⟩⟩
    · clear H
      clear hS
      rintro k6 a w' ⟨m0_0, hpre0, hw, hS⟩
      subst hw
      have H := hpre0
      clear hpre0
      cases k6 with
      | zero => exact absurd H (by simp [law25_named.l0])
      | succ k6 =>
        rw [law25_named.l0] at H
        refine wp_seq ?_
        refine c_pure [(0, .slice A0 p0.length cap0), (1, .int .i64 p1), (5, .int .i64 m0_0), (9, .bool (decide (m0_0 < (p0.length : Int))))] (fun R hR => st_val hS rfl rfl rfl (r_move hS rfl rfl) fun a7 hS7 => st_val hS7 rfl rfl rfl (r_move hS7 rfl rfl) fun a8 hS8 => st_val hS8 rfl rfl rfl (r_len (e := 50) (sz := 4) (by_ := 32) hS8 rfl rfl (by kernel_rfl)) fun a9 hS9 => st_val hS9 rfl rfl rfl (r_bin hS9 rfl rfl rfl b_lss) fun a10 hS10 => wpList_nil (hR _ (hS10.re ⟨rfl, rfl, rfl, rfl, trivial⟩))) ?_
        clear hS
        clear a
        intro a hS
        refine c_cond hS rfl (fun hb11 => ?_) (fun hb11 => ?_)
        · replace H := ite_t hb11 H
          refine wp_skip ?_
          change Code.wp _ _ _ _ _
          refine wp_seq ?_
          refine wp_block ?_
          obtain ⟨x14, hx15, H⟩ := bind_el H
          refine c_region (fun K hK => ?_)
          refine st_val hS rfl rfl rfl (r_move hS rfl rfl) fun a12 hS12 => st_val hS12 rfl rfl rfl (r_move hS12 rfl rfl) fun a13 hS13 => st_val hS13 rfl rfl rfl (r_index (e := 50) (sz := 4) (by_ := 32) hS13 rfl rfl rfl (by kernel_rfl) (RdS.some_ hp0 hx15) (idx_lo hx15) (idx_hi hx15)) fun a16 hS16 => st_val hS16 rfl rfl rfl (r_fieldE (off := 0) hS16 rfl rfl (by kernel_rfl)) fun a17 hS17 => st_val hS17 rfl rfl rfl (r_load1 (n := 1) hS17 rfl rfl (by kernel_rfl) (RdS.cell (i := m0_0) (sz := 4) (j := 0) hp0 hx15 rfl)) fun a18 hS18 => st_val hS18 rfl rfl rfl (r_bin hS18 rfl rfl rfl b_lss) fun a19 hS19 => st_val hS19 rfl rfl rfl (r_move hS19 rfl rfl) fun a20 hS20 => ?_
          refine g_join (N := 27) 8 [(0, .slice A0 p0.length cap0), (1, .int .i64 p1), (5, .int .i64 m0_0), (26, .bool ((decide (x14.Rail < 0)) || (decide (p1 ≤ x14.Rail))))] ?_ (fun hk => ?_)
          rotate_left
          · rcases Bool.eq_false_or_eq_true (decide (x14.Rail < 0)) with hb21 | hb21
            · refine st_off hS20 (want_off hS20 rfl rfl rfl hb21) rfl rfl fun a29 hS29 => st_off hS29 (want_off hS29 rfl rfl rfl hb21) rfl rfl fun a30 hS30 => st_off hS30 (want_off hS30 rfl rfl rfl hb21) rfl rfl fun a31 hS31 => st_off hS31 (want_off hS31 rfl rfl rfl hb21) rfl rfl fun a32 hS32 => st_off hS32 (want_off hS32 rfl rfl rfl hb21) rfl rfl fun a33 hS33 => st_off hS33 (want_off hS33 rfl rfl rfl hb21) rfl rfl fun a34 hS34 => st_off hS34 (want_off hS34 rfl rfl rfl hb21) rfl rfl fun a35 hS35 => st_val hS35 rfl rfl rfl (r_pickT hS35 rfl rfl rfl hb21) fun a36 hS36 => hk _ (hS36.re ⟨rfl, rfl, rfl, (by rw [hb21]; rfl), trivial⟩)
            · refine st_valW hS20 (want_on hS20 rfl rfl rfl hb21) rfl rfl (r_move hS20 rfl rfl) fun a37 hS37 => st_valW hS37 (want_on hS37 rfl rfl rfl hb21) rfl rfl (r_move hS37 rfl rfl) fun a38 hS38 => st_valW hS38 (want_on hS38 rfl rfl rfl hb21) rfl rfl (r_index (e := 50) (sz := 4) (by_ := 32) hS38 rfl rfl rfl (by kernel_rfl) (RdS.some_ hp0 hx15) (idx_lo hx15) (idx_hi hx15)) fun a39 hS39 => st_valW hS39 (want_on hS39 rfl rfl rfl hb21) rfl rfl (r_fieldE (off := 0) hS39 rfl rfl (by kernel_rfl)) fun a40 hS40 => st_valW hS40 (want_on hS40 rfl rfl rfl hb21) rfl rfl (r_load1 (n := 1) hS40 rfl rfl (by kernel_rfl) (RdS.cell (i := m0_0) (sz := 4) (j := 0) hp0 hx15 rfl)) fun a41 hS41 => st_valW hS41 (want_on hS41 rfl rfl rfl hb21) rfl rfl (r_move hS41 rfl rfl) fun a42 hS42 => st_valW hS42 (want_on hS42 rfl rfl rfl hb21) rfl rfl (r_bin hS42 rfl rfl rfl b_geq) fun a43 hS43 => st_val hS43 rfl rfl rfl (r_pickF hS43 rfl rfl rfl hb21) fun a44 hS44 => hk _ (hS44.re ⟨rfl, rfl, rfl, (by rw [hb21]; rfl), trivial⟩)
          intro a45 hS45
          refine wpList_nil (hK _ _ ?_)
          replace hS : Sl 27 _ [(0, .slice A0 p0.length cap0), (1, .int .i64 p1), (5, .int .i64 m0_0), (26, .bool ((decide (x14.Rail < 0)) || (decide (p1 ≤ x14.Rail))))] := hS45.re ⟨rfl, rfl, rfl, rfl, trivial⟩
          clear hK K
          try clear hS12 hS13 hS16 hS17 hS18 hS19 hS20 hS45
          obtain ⟨a, ha⟩ : ∃ a', a' = a45 := ⟨_, rfl⟩
          rw [← ha] at hS ⊢; clear ha
          refine c_cond hS rfl (fun hb46 => ?_) (fun hb46 => ?_)
          · replace H := ite_t hb46 H
            refine c_pure [(4, .bool false)] (fun R hR => st_val hS rfl rfl rfl (r_assign hS rfl rfl) fun a47 hS47 => wpList_nil (hR _ (hS47.re ⟨rfl, trivial⟩))) ?_
            clear hS
            clear a
            intro a hS
            refine wp_ret ?_
            have e := Option.some.inj H
            subst e
            replace H := Fl.go_out Hl4
            have e := Option.some.inj H
            subst e
            repeat (with_reducible first | refine then_ret ?_ | refine inBlock_ret ?_)
            exact c_ret1 hS Try.results27 rfl ⟨_, rfl, g, rfl, hF⟩
          · replace H := ite_f hb46 H
            refine wp_skip ?_
            change Code.wp _ _ _ _ _
            refine c_pure1 [(0, .slice A0 p0.length cap0), (1, .int .i64 p1), (5, .int .i64 (wi (m0_0 + 1)))] (fun R hR => st_val hS rfl rfl rfl (r_move hS rfl rfl) fun a48 hS48 => st_val hS48 rfl rfl rfl (r_bin hS48 rfl rfl rfl b_add) fun a49 hS49 => st_val hS49 rfl rfl rfl (r_assign hS49 rfl rfl) fun a50 hS50 => wpList_nil (hR _ (hS50.re ⟨rfl, rfl, rfl, trivial⟩))) ?_
            clear hS
            clear a
            intro a hS
            refine ⟨k6, Nat.lt_succ_self _, ?_⟩
            exact ⟨wi (m0_0 + 1), H, rfl, hS.re ⟨rfl, rfl, rfl, trivial⟩⟩
        · replace H := ite_f hb11 H
          refine wp_exit ?_
          have e := Option.some.inj H
          exact ⟨e.symm, rfl, hS.re trivial⟩
  · clear H
    clear hS
    rintro a w' ⟨hpre0, hw, hS⟩
    subst hpre0
    subst hw
    have H := Fl.go_nxt Hl4
    clear Hl4
    refine c_pure [(4, .bool true)] (fun R hR => st_val hS rfl rfl rfl (r_assign hS rfl rfl) fun a51 hS51 => wpList_nil (hR _ (hS51.re ⟨rfl, trivial⟩))) ?_
    clear hS
    clear a
    intro a hS
    refine wp_ret ?_
    have e := Option.some.inj H
    subst e
    repeat (with_reducible first | refine then_ret ?_ | refine inBlock_ret ?_)
    exact c_ret1 hS Try.results27 rfl ⟨_, rfl, g, rfl, hF⟩

/-! ### slices_Clone_rails_rail: function 37 -/
def slices_Clone_rails_rail.f (p0 : List rails_rail) : Option ((List rails_rail)) := (app ([] : List rails_rail) p0).bind fun y13 => some y13
set_option maxRecDepth 100000 in
set_option maxHeartbeats 4000000 in
theorem slices_Clone_rails_rail.calls {p0 : List rails_rail} {A0 : Option Addr} {cap0 : Nat} {C0 : Nat → Prop} {w : World} {g : Nat → Nat} {out : (List rails_rail)} (N : Nat) (r0 : Nat) (hp0 : RdS kd_rails_rail w g C0 A0 cap0 p0) (hC0 : ∀ c, C0 c → c < N) (hr0 : r0 + 2 ≤ N) (H : slices_Clone_rails_rail.f p0 = some out) :
    Calls Try.prog 37 #[.slice A0 p0.length cap0] w (fun e w' => ∃ v, e = .returned v ∧ ∃ (g' : Nat → Nat) (A_r0 : Option Addr) (cap_r0 : Nat), v = .slice A_r0 out.length cap_r0 ∧ OwS kd_rails_rail 75 w' g' r0 A_r0 cap_r0 out ∧ Fr (fun q => (r0 ≤ q ∧ q < r0 + 2) ∨ N ≤ q) w g w' g') := by
  unfold slices_Clone_rails_rail.f at H
  refine calls_enter Try.func37 rfl Try.ntmps37 rfl (fun a hS => ?_)
  replace hS : Sl 8 a [(0, .slice A0 p0.length cap0)] := hS
  have hF : Fr (fun q => (r0 ≤ q ∧ q < r0 + 2) ∨ N ≤ q) w g w g := Fr.refl _ _ _
  refine c_pure [(0, .slice A0 p0.length cap0)] (fun R hR => st_val hS rfl rfl rfl (r_assign hS rfl rfl) fun a1 hS1 => wpList_nil (hR _ (hS1.re ⟨rfl, trivial⟩))) ?_
  clear hS
  clear a
  intro a hS
  refine wp_seq ?_
  refine c_pure [(0, .slice A0 p0.length cap0), (4, .bool A0.isNone)] (fun R hR => st_val hS rfl rfl rfl (r_move hS rfl rfl) fun a2 hS2 => st_val hS2 rfl rfl rfl (r_slNil (E := 75) hS2 rfl rfl (by kernel_rfl)) fun a3 hS3 => wpList_nil (hR _ (hS3.re ⟨rfl, rfl, trivial⟩))) ?_
  clear hS
  clear a
  intro a hS
  refine c_cond hS rfl (fun hb4 => ?_) (fun hb4 => ?_)
  · have hn5 := RdS.none_ hp0 hb4
    subst hn5
    replace H : some [] = some out := by first | exact H | simpa [app] using H
    refine c_pure [(2, .slice none 0 0)] (fun R hR => st_val hS rfl rfl rfl (r_assign hS rfl rfl) fun a6 hS6 => wpList_nil (hR _ (hS6.re ⟨rfl, trivial⟩))) ?_
    clear hS
    clear a
    intro a hS
    refine wp_ret ?_
    have e := Option.some.inj H
    subst e
    repeat (with_reducible first | refine then_ret ?_ | refine inBlock_ret ?_)
    exact c_ret1 hS Try.results37 rfl ⟨_, rfl, g, none, 0, rfl, OwS.nil kd_rails_rail 75 w g r0, hF⟩
  · refine wp_skip ?_
    change Code.wp _ _ _ _ _
    obtain ⟨y13, hy14, H⟩ := bind_el H
    refine c_region (fun K hK => ?_)
    refine st_eff hS rfl rfl rfl (e_lit (e := 75) (parts := []) (cs := []) kd_rails_rail ([] : List rails_rail) (N + 0) g hS rfl rfl (fun _ => by kernel_rfl) rfl (by decide) Rows.nil) ?_
    rintro _ a10 w11 g11 ⟨⟨A7, rfl, h8⟩, F11⟩ hS10
    replace hp0 := RdS.fr hp0 F11 (by decide) (fun _ _ h => h)
    replace hF := hF.trans F11 (fun _ h => h.elim)
    refine st_val hS10 rfl rfl rfl (r_move hS10 rfl rfl) fun a12 hS12 => ?_
    refine st_eff hS12 rfl rfl rfl (e_append (e := 75) (sz := 5) (by_ := 40) (z := [.int .i64 0, .int .u64 0, .int .u64 0, .int .i64 0, .int .u64 0]) (kd := kd_rails_rail) g11 hS12 rfl rfl rfl rfl (by kernel_rfl) (by kernel_rfl) rfl rfl rfl rfl h8 hp0 (fun _ _ _ h => h) hy14) ?_
    rintro _ a19 w20 g20 ⟨⟨A15, cap16, rfl, h17⟩, F20⟩ hS19
    replace hp0 := RdS.fr hp0 F20 (by decide) (fun q (hq : C0 q) (hm : q = N + 0) => by have := hC0 q hq; omega)
    replace hF := hF.trans F20 (fun c' (hm : c' = N + 0) => by show (r0 ≤ c' ∧ c' < r0 + 2) ∨ N ≤ c'; omega)
    refine st_val hS19 rfl rfl rfl (r_assign hS19 rfl rfl) fun a21 hS21 => wpList_nil (hK _ _ ?_)
    replace hS : Sl 8 _ [(2, .slice A15 y13.length cap16)] := hS21.re ⟨rfl, trivial⟩
    clear hK K
    try clear hS10 hS12 hS19 hS21
    obtain ⟨a, ha⟩ : ∃ a', a' = a21 := ⟨_, rfl⟩
    rw [← ha] at hS ⊢; clear ha
    refine wp_ret ?_
    have e := Option.some.inj H
    subst e
    have F22 := Fr.recol2 w20 g20 (N + 0) r0
    replace h17 := h17.recol2 r0
    replace hF := hF.trans F22 (fun c' (hm : c' = N + 0 ∨ c' = N + 0 + 1) => by show (r0 ≤ c' ∧ c' < r0 + 2) ∨ N ≤ c'; omega)
    repeat (with_reducible first | refine then_ret ?_ | refine inBlock_ret ?_)
    exact c_ret1 hS Try.results37 rfl ⟨_, rfl, (recol2 g20 (N + 0) r0), A15, cap16, rfl, h17, hF⟩

/-! ### rails_Rails_Copy: function 29 -/
def rails_Rails_Copy.f (p0 : rails_Rails) : Option ((Option rails_Rails)) := (slices_Clone_rails_rail.f p0.list).bind fun r2 => some (some (rails_Rails.mk r2 p0.now))
set_option maxRecDepth 100000 in
set_option maxHeartbeats 4000000 in
theorem rails_Rails_Copy.calls {p0 : rails_Rails} {c0 : Nat}  {b_p0 : Nat} {A_list_p0 : Option Addr} {cap_list_p0 : Nat} {w : World} {g : Nat → Nat} {out : (Option rails_Rails)} (N : Nat) (r0 : Nat) (hp0 : rails_Rails_At w g c0 b_p0 A_list_p0 cap_list_p0 p0) (hc0 : c0 + 3 ≤ N) (hr0 : r0 + 3 ≤ N) (H : rails_Rails_Copy.f p0 = some out) :
    Calls Try.prog 29 #[.pointer (some ⟨b_p0, 0, none⟩)] w (fun e w' => ∃ v, e = .returned v ∧ ∃ (g' : Nat → Nat) (p_r0 : Option Addr), v = .pointer p_r0 ∧ rails_Rails_Opt w' g' r0 p_r0 out ∧ Fr (fun q => (r0 ≤ q ∧ q < r0 + 3) ∨ N ≤ q) w g w' g') := by
  unfold rails_Rails_Copy.f at H
  refine calls_enter Try.func29 rfl Try.ntmps29 rfl (fun a hS => ?_)
  replace hS : Sl 14 a [(0, .pointer (some ⟨b_p0, 0, none⟩))] := hS
  have hF : Fr (fun q => (r0 ≤ q ∧ q < r0 + 3) ∨ N ≤ q) w g w g := Fr.refl _ _ _
  obtain ⟨hb0, hf0_list⟩ := hp0
  refine c_pure [(0, .pointer (some ⟨b_p0, 0, none⟩))] (fun R hR => st_val hS rfl rfl rfl (r_assign hS rfl rfl) fun a1 hS1 => wpList_nil (hR _ (hS1.re ⟨rfl, trivial⟩))) ?_
  clear hS
  clear a
  intro a hS
  obtain ⟨r2, hr3, H⟩ := bind_el H
  refine c_draw (fun K hK => d_start (fun q => N + 4 ≤ q ∨ (N + 0 ≤ q ∧ q < N + 0 + 2)) g [] 12 #[false, false, false, false, false, false, false, false, false, false, false, false] (by kernel_rfl) rfl rfl (fun w11 hw11 => ?_))
  have F11 : Fr (fun _ => False) w g w11 g := by rw [hw11]; exact Fr.drew _ _ _
  replace hb0 := hb0.fr F11 (fun h => h)
  replace hf0_list := OwS.fr hf0_list F11 (fun _ _ h => h)
  replace hF := hF.trans F11 (fun _ h => h.elim)
  have hC : Fr (fun q => N + 4 ≤ q ∨ (N + 0 ≤ q ∧ q < N + 0 + 2)) w11 g w11 g := Fr.refl _ _ _
  refine d_pure hS 0 #[true, false, false, false, false, false, false, false, false, false, false, false] rfl rfl rfl rfl (by kernel_rfl) (fun _ _ _ h => h) (fun _ => (r_move hS rfl rfl)) fun a12 hS12 => d_pure hS12 1 #[true, true, false, false, false, false, false, false, false, false, false, false] rfl rfl rfl rfl (by kernel_rfl) (fun _ _ _ h => h) (fun _ => (r_nil hS12 rfl rfl)) fun a13 hS13 => d_pure hS13 2 #[true, true, true, false, false, false, false, false, false, false, false, false] rfl rfl rfl rfl (by kernel_rfl) (fun _ _ _ h => h) (fun _ => (r_fieldB (off := 0) hS13 rfl rfl (by kernel_rfl))) fun a14 hS14 => d_take hS14 3 #[true, true, true, true, false, false, false, false, false, false, false, false] rfl rfl rfl rfl (by kernel_rfl) (fun _ _ _ h => h) ⟨_, hC⟩ (fun w' g' Fz => (r_load1 (n := 1) hS14 rfl rfl (by kernel_rfl) (Bx.cell (hb0.fr Fz (fun (hm : N + 4 ≤ c0 ∨ (N + 0 ≤ c0 ∧ c0 < N + 0 + 2)) => by omega)) rfl))) fun a15 hS15 => d_pure hS15 5 #[true, true, true, true, false, true, false, false, false, false, false, false] rfl rfl rfl rfl (by kernel_rfl) (fun _ _ _ h => h) (fun _ => (r_move hS15 rfl rfl)) fun a16 hS16 => d_pure hS16 6 #[true, true, true, true, false, true, true, false, false, false, false, false] rfl rfl rfl rfl (by kernel_rfl) (fun _ _ _ h => h) (fun _ => (r_nil hS16 rfl rfl)) fun a17 hS17 => d_pure hS17 7 #[true, true, true, true, false, true, true, true, false, false, false, false] rfl rfl rfl rfl (by kernel_rfl) (fun _ _ _ h => h) (fun _ => (r_fieldB (off := 1) hS17 rfl rfl (by kernel_rfl))) fun a18 hS18 => d_take hS18 8 #[true, true, true, true, false, true, true, true, true, false, false, false] rfl rfl rfl rfl (by kernel_rfl) (fun _ _ _ h => h) ⟨_, hC⟩ (fun w' g' Fz => (r_load1 (n := 1) hS18 rfl rfl (by kernel_rfl) (Bx.cell (hb0.fr Fz (fun (hm : N + 4 ≤ c0 ∨ (N + 0 ≤ c0 ∧ c0 < N + 0 + 2)) => by omega)) rfl))) fun a19 hS19 => ?_
  refine d_one 4 #[true, true, true, true, true, true, true, true, true, false, false, false] rfl (by kernel_rfl) (arm_call hS19 rfl rfl rfl (r_call hS19 rfl rfl (by kernel_rfl)) (slices_Clone_rails_rail.calls (C0 := (fun q => q = c0 + 1)) (p0 := p0.list) (g := g) (N + 4) (N + 0) (OwD.rdf (fun _ _ _ _ _ _ h => h) hf0_list) (fun q (hq : q = c0 + 1) => by omega) (by omega) hr3) (fun _ _ ⟨g', _, _, _, _, Fz⟩ _ => ⟨g', hC.trans Fz (fun c' (hm : (N + 0 ≤ c' ∧ c' < N + 0 + 2) ∨ N + 4 ≤ c') => by show N + 4 ≤ c' ∨ (N + 0 ≤ c' ∧ c' < N + 0 + 2); omega)⟩) ?_)
  rintro _ a24 w25 ⟨g25, A20, cap21, rfl, h22, F25⟩ hS24
  have hC25 := hC.trans F25 (fun c' (hm : (N + 0 ≤ c' ∧ c' < N + 0 + 2) ∨ N + 4 ≤ c') => by show N + 4 ≤ c' ∨ (N + 0 ≤ c' ∧ c' < N + 0 + 2); omega)
  replace hb0 := hb0.fr F25 (fun (hm : (N + 0 ≤ c0 ∧ c0 < N + 0 + 2) ∨ N + 4 ≤ c0) => by omega)
  replace hf0_list := OwS.fr hf0_list F25 (fun c' hc (hm : (N + 0 ≤ c' ∧ c' < N + 0 + 2) ∨ N + 4 ≤ c') => by omega)
  replace hF := hF.trans F25 (fun c' (hm : (N + 0 ≤ c' ∧ c' < N + 0 + 2) ∨ N + 4 ≤ c') => by show (r0 ≤ c' ∧ c' < r0 + 3) ∨ N ≤ c'; omega)
  refine d_pure hS24 9 #[true, true, true, true, true, true, true, true, true, true, false, false] rfl rfl rfl rfl (by kernel_rfl) (fun _ _ _ h => h) (fun _ => (r_build (parts := [(0, .slice A20 r2.length cap21), (1, .int .u64 p0.now)]) (u := .agg #[.slice A20 r2.length cap21, .int .u64 p0.now]) hS24 rfl rfl (fun _ => by kernel_rfl))) fun a26 hS26 => ?_
  refine d_one 10 #[true, true, true, true, true, true, true, true, true, true, true, false] rfl (by kernel_rfl) (arm_eff hS26 rfl rfl rfl (e_box (cs := [.slice A20 r2.length cap21, .int .u64 p0.now]) (N + 2) g25 hS26 rfl rfl rfl) (fun _ _ g' hR _ => ⟨g', hC25.trans hR.2 (fun _ h => h.elim)⟩) ?_)
  rintro _ a30 w31 g31 ⟨⟨b27, rfl, h28⟩, F31⟩ hS30
  have hC31 := hC25.trans F31 (fun _ h => h.elim)
  replace h22 := OwS.fr h22 F31 (fun _ _ h => h)
  replace hb0 := hb0.fr F31 (fun h => h)
  replace hf0_list := OwS.fr hf0_list F31 (fun _ _ h => h)
  replace hF := hF.trans F31 (fun _ h => h.elim)
  refine d_pure hS30 11 #[true, true, true, true, true, true, true, true, true, true, true, true] rfl rfl rfl rfl (by kernel_rfl) (fun _ _ _ h => h) (fun _ => (r_assign hS30 rfl rfl)) fun a32 hS32 => d_done (by kernel_rfl) (hK _ _ ?_)
  replace hS : Sl 14 _ [(2, .pointer (some ⟨b27, 0, none⟩))] := hS32.re ⟨rfl, trivial⟩
  clear hK K hC
  try clear hS12 hS13 hS14 hS15 hS16 hS17 hS18 hS19 hS24 hS26 hS30 hS32
  obtain ⟨a, ha⟩ : ∃ a', a' = a32 := ⟨_, rfl⟩
  rw [← ha] at hS ⊢; clear ha
  refine wp_ret ?_
  have e := Option.some.inj H
  subst e
  have F33 : Fr (fun q => q = N + 2) w31 g31 w31 (recol g31 (N + 2) r0) := Fr.recol w31 g31 (N + 2) r0 rfl
  replace h28 := Bx.recol h28 r0
  replace h22 := OwS.fr h22 F33 (fun c' hc (hm : c' = N + 2) => by omega)
  replace hb0 := hb0.fr F33 (fun (hm : c0 = N + 2) => by omega)
  replace hf0_list := OwS.fr hf0_list F33 (fun c' hc (hm : c' = N + 2) => by omega)
  replace hF := hF.trans F33 (fun c' (hm : c' = N + 2) => by show (r0 ≤ c' ∧ c' < r0 + 3) ∨ N ≤ c'; omega)
  have F34 := Fr.recol2 w31 (recol g31 (N + 2) r0) (N + 0) (r0 + 1)
  replace h22 := h22.recol2 (r0 + 1)
  replace h28 := h28.fr F34 (fun (hm : r0 = N + 0 ∨ r0 = N + 0 + 1) => by omega)
  replace hb0 := hb0.fr F34 (fun (hm : c0 = N + 0 ∨ c0 = N + 0 + 1) => by omega)
  replace hf0_list := OwS.fr hf0_list F34 (fun c' hc (hm : c' = N + 0 ∨ c' = N + 0 + 1) => by omega)
  replace hF := hF.trans F34 (fun c' (hm : c' = N + 0 ∨ c' = N + 0 + 1) => by show (r0 ≤ c' ∧ c' < r0 + 3) ∨ N ≤ c'; omega)
  repeat (with_reducible first | refine then_ret ?_ | refine inBlock_ret ?_)
  exact c_ret1 hS Try.results29 rfl ⟨_, rfl, (recol2 (recol g31 (N + 2) r0) (N + 0) (r0 + 1)), (some ⟨b27, 0, none⟩), rfl, ⟨b27, A20, cap21, rfl, h28, h22⟩, hF⟩

/-! ### ref25_Rails_Copy: function 30 -/
def ref25_Rails_Copy.f (p0 : ref25_Rails) : Option ((Option ref25_Rails)) := (app ([] : List api_Rail) p0.R).bind fun y5 => (app ([] : List Int) p0.N).bind fun y14 => (app ([] : List Int) p0.Done).bind fun y23 => some (some (ref25_Rails.mk y5 y14 y23 p0.Clock))
set_option maxRecDepth 100000 in
set_option maxHeartbeats 4000000 in
theorem ref25_Rails_Copy.calls {p0 : ref25_Rails} {c0 : Nat}  {b_p0 : Nat} {A_R_p0 : Option Addr} {cap_R_p0 : Nat} {A_N_p0 : Option Addr} {cap_N_p0 : Nat} {A_Done_p0 : Option Addr} {cap_Done_p0 : Nat} {w : World} {g : Nat → Nat} {out : (Option ref25_Rails)} (N : Nat) (r0 : Nat) (hp0 : ref25_Rails_At w g c0 b_p0 A_R_p0 cap_R_p0 A_N_p0 cap_N_p0 A_Done_p0 cap_Done_p0 p0) (hc0 : c0 + 7 ≤ N) (hr0 : r0 + 7 ≤ N) (H : ref25_Rails_Copy.f p0 = some out) :
    Calls Try.prog 30 #[.pointer (some ⟨b_p0, 0, none⟩)] w (fun e w' => ∃ v, e = .returned v ∧ ∃ (g' : Nat → Nat) (p_r0 : Option Addr), v = .pointer p_r0 ∧ ref25_Rails_Opt w' g' r0 p_r0 out ∧ Fr (fun q => (r0 ≤ q ∧ q < r0 + 7) ∨ N ≤ q) w g w' g') := by
  unfold ref25_Rails_Copy.f at H
  refine calls_enter Try.func30 rfl Try.ntmps30 rfl (fun a hS => ?_)
  replace hS : Sl 27 a [(0, .pointer (some ⟨b_p0, 0, none⟩))] := hS
  have hF : Fr (fun q => (r0 ≤ q ∧ q < r0 + 7) ∨ N ≤ q) w g w g := Fr.refl _ _ _
  obtain ⟨hb0, hf0_R, hf0_N, hf0_Done⟩ := hp0
  refine c_pure [(0, .pointer (some ⟨b_p0, 0, none⟩))] (fun R hR => st_val hS rfl rfl rfl (r_assign hS rfl rfl) fun a1 hS1 => wpList_nil (hR _ (hS1.re ⟨rfl, trivial⟩))) ?_
  clear hS
  clear a
  intro a hS
  obtain ⟨y5, hy6, H⟩ := bind_el H
  obtain ⟨y14, hy15, H⟩ := bind_el H
  obtain ⟨y23, hy24, H⟩ := bind_el H
  refine c_cut (fun a w530 => ∃ (g530 : Nat → Nat), ∃ (b531 : Nat), ∃ (A533 : Option Addr), ∃ (cap534 : Nat), ∃ (A536 : Option Addr), ∃ (cap537 : Nat), ∃ (A539 : Option Addr), ∃ (cap540 : Nat), Sl 27 a [(2, .pointer (some ⟨b531, 0, none⟩))] ∧ OwS kd_api_Rail 35 w530 g530 (N + 0) A533 cap534 y5 ∧ OwS (kint .i64) 3 w530 g530 (N + 2) A536 cap537 y14 ∧ OwS (kint .u64) 33 w530 g530 (N + 4) A539 cap540 y23 ∧ Bx w530 g530 (N + 6) b531 41 [.slice A533 y5.length cap534, .slice A536 y14.length cap537, .slice A539 y23.length cap540, .int .u64 p0.Clock] ∧ Bx w530 g530 (c0) b_p0 41 [.slice A_R_p0 p0.R.length cap_R_p0, .slice A_N_p0 p0.N.length cap_N_p0, .slice A_Done_p0 p0.Done.length cap_Done_p0, .int .u64 p0.Clock] ∧ OwS (kint .u64) 33 w530 g530 (c0 + 5) A_Done_p0 cap_Done_p0 p0.Done ∧ OwS (kint .i64) 3 w530 g530 (c0 + 3) A_N_p0 cap_N_p0 p0.N ∧ OwS kd_api_Rail 35 w530 g530 (c0 + 1) A_R_p0 cap_R_p0 p0.R ∧ Fr (fun q => (r0 ≤ q ∧ q < r0 + 7) ∨ N ≤ q) w g w530 g530) (d_start (fun q => q = N + 0 ∨ q = N + 2 ∨ q = N + 4) g [] 25 #[false, false, false, false, false, false, false, false, false, false, false, false, false, false, false, false, false, false, false, false, false, false, false, false, false] (by kernel_rfl) rfl rfl (fun w542 hw542 => ?_)) ?_
  · have F542 : Fr (fun _ => False) w g w542 g := by rw [hw542]; exact Fr.drew _ _ _
    replace hb0 := hb0.fr F542 (fun h => h)
    replace hf0_Done := OwS.fr hf0_Done F542 (fun _ _ h => h)
    replace hf0_N := OwS.fr hf0_N F542 (fun _ _ h => h)
    replace hf0_R := OwS.fr hf0_R F542 (fun _ _ h => h)
    replace hF := hF.trans F542 (fun _ h => h.elim)
    have hC : Fr (fun q => q = N + 0 ∨ q = N + 2 ∨ q = N + 4) w542 g w542 g := Fr.refl _ _ _
    refine d_pure hS 1 #[false, true, false, false, false, false, false, false, false, false, false, false, false, false, false, false, false, false, false, false, false, false, false, false, false] rfl rfl rfl rfl (by kernel_rfl) (fun _ _ _ h => h) (fun _ => (r_move hS rfl rfl)) fun a543 hS543 => d_pure hS543 2 #[false, true, true, false, false, false, false, false, false, false, false, false, false, false, false, false, false, false, false, false, false, false, false, false, false] rfl rfl rfl rfl (by kernel_rfl) (fun _ _ _ h => h) (fun _ => (r_nil hS543 rfl rfl)) fun a544 hS544 => d_pure hS544 3 #[false, true, true, true, false, false, false, false, false, false, false, false, false, false, false, false, false, false, false, false, false, false, false, false, false] rfl rfl rfl rfl (by kernel_rfl) (fun _ _ _ h => h) (fun _ => (r_fieldB (off := 0) hS544 rfl rfl (by kernel_rfl))) fun a545 hS545 => d_take hS545 4 #[false, true, true, true, true, false, false, false, false, false, false, false, false, false, false, false, false, false, false, false, false, false, false, false, false] rfl rfl rfl rfl (by kernel_rfl) (fun _ _ _ h => h) ⟨_, hC⟩ (fun w' g' Fz => (r_load1 (n := 1) hS545 rfl rfl (by kernel_rfl) (Bx.cell (hb0.fr Fz (fun (hm : c0 = N + 0 ∨ c0 = N + 2 ∨ c0 = N + 4) => by omega)) rfl))) fun a546 hS546 => d_pure hS546 7 #[false, true, true, true, true, false, false, true, false, false, false, false, false, false, false, false, false, false, false, false, false, false, false, false, false] rfl rfl rfl rfl (by kernel_rfl) (fun _ _ _ h => h) (fun _ => (r_move hS546 rfl rfl)) fun a547 hS547 => d_pure hS547 8 #[false, true, true, true, true, false, false, true, true, false, false, false, false, false, false, false, false, false, false, false, false, false, false, false, false] rfl rfl rfl rfl (by kernel_rfl) (fun _ _ _ h => h) (fun _ => (r_nil hS547 rfl rfl)) fun a548 hS548 => d_pure hS548 9 #[false, true, true, true, true, false, false, true, true, true, false, false, false, false, false, false, false, false, false, false, false, false, false, false, false] rfl rfl rfl rfl (by kernel_rfl) (fun _ _ _ h => h) (fun _ => (r_fieldB (off := 1) hS548 rfl rfl (by kernel_rfl))) fun a549 hS549 => d_take hS549 10 #[false, true, true, true, true, false, false, true, true, true, true, false, false, false, false, false, false, false, false, false, false, false, false, false, false] rfl rfl rfl rfl (by kernel_rfl) (fun _ _ _ h => h) ⟨_, hC⟩ (fun w' g' Fz => (r_load1 (n := 1) hS549 rfl rfl (by kernel_rfl) (Bx.cell (hb0.fr Fz (fun (hm : c0 = N + 0 ∨ c0 = N + 2 ∨ c0 = N + 4) => by omega)) rfl))) fun a550 hS550 => d_pure hS550 13 #[false, true, true, true, true, false, false, true, true, true, true, false, false, true, false, false, false, false, false, false, false, false, false, false, false] rfl rfl rfl rfl (by kernel_rfl) (fun _ _ _ h => h) (fun _ => (r_move hS550 rfl rfl)) fun a551 hS551 => d_pure hS551 14 #[false, true, true, true, true, false, false, true, true, true, true, false, false, true, true, false, false, false, false, false, false, false, false, false, false] rfl rfl rfl rfl (by kernel_rfl) (fun _ _ _ h => h) (fun _ => (r_nil hS551 rfl rfl)) fun a552 hS552 => d_pure hS552 15 #[false, true, true, true, true, false, false, true, true, true, true, false, false, true, true, true, false, false, false, false, false, false, false, false, false] rfl rfl rfl rfl (by kernel_rfl) (fun _ _ _ h => h) (fun _ => (r_fieldB (off := 2) hS552 rfl rfl (by kernel_rfl))) fun a553 hS553 => d_take hS553 16 #[false, true, true, true, true, false, false, true, true, true, true, false, false, true, true, true, true, false, false, false, false, false, false, false, false] rfl rfl rfl rfl (by kernel_rfl) (fun _ _ _ h => h) ⟨_, hC⟩ (fun w' g' Fz => (r_load1 (n := 1) hS553 rfl rfl (by kernel_rfl) (Bx.cell (hb0.fr Fz (fun (hm : c0 = N + 0 ∨ c0 = N + 2 ∨ c0 = N + 4) => by omega)) rfl))) fun a554 hS554 => d_pure hS554 18 #[false, true, true, true, true, false, false, true, true, true, true, false, false, true, true, true, true, false, true, false, false, false, false, false, false] rfl rfl rfl rfl (by kernel_rfl) (fun _ _ _ h => h) (fun _ => (r_move hS554 rfl rfl)) fun a555 hS555 => d_pure hS555 19 #[false, true, true, true, true, false, false, true, true, true, true, false, false, true, true, true, true, false, true, true, false, false, false, false, false] rfl rfl rfl rfl (by kernel_rfl) (fun _ _ _ h => h) (fun _ => (r_nil hS555 rfl rfl)) fun a556 hS556 => d_pure hS556 20 #[false, true, true, true, true, false, false, true, true, true, true, false, false, true, true, true, true, false, true, true, true, false, false, false, false] rfl rfl rfl rfl (by kernel_rfl) (fun _ _ _ h => h) (fun _ => (r_fieldB (off := 3) hS556 rfl rfl (by kernel_rfl))) fun a557 hS557 => d_take hS557 21 #[false, true, true, true, true, false, false, true, true, true, true, false, false, true, true, true, true, false, true, true, true, true, false, false, false] rfl rfl rfl rfl (by kernel_rfl) (fun _ _ _ h => h) ⟨_, hC⟩ (fun w' g' Fz => (r_load1 (n := 1) hS557 rfl rfl (by kernel_rfl) (Bx.cell (hb0.fr Fz (fun (hm : c0 = N + 0 ∨ c0 = N + 2 ∨ c0 = N + 4) => by omega)) rfl))) fun a558 hS558 => ?_
    refine d_three 0 6 12 #[true, true, true, true, true, false, false, true, true, true, true, false, false, true, true, true, true, false, true, true, true, true, false, false, false] #[false, true, true, true, true, false, true, true, true, true, true, false, false, true, true, true, true, false, true, true, true, true, false, false, false] #[false, true, true, true, true, false, false, true, true, true, true, false, true, true, true, true, true, false, true, true, true, true, false, false, false] rfl rfl rfl (by kernel_rfl) (arm_eff hS558 rfl rfl rfl (e_lit (e := 35) (parts := []) (cs := []) kd_api_Rail ([] : List api_Rail) (N + 0) g hS558 rfl rfl (fun _ => by kernel_rfl) rfl (by decide) Rows.nil) (fun _ _ g' hR _ => ⟨g', hC.trans hR.2 (fun _ h => h.elim)⟩) ?_) (arm_eff hS558 rfl rfl rfl (e_lit (e := 3) (parts := []) (cs := []) (kint .i64) ([] : List Int) (N + 2) g hS558 rfl rfl (fun _ => by kernel_rfl) rfl (by decide) Rows.nil) (fun _ _ g' hR _ => ⟨g', hC.trans hR.2 (fun _ h => h.elim)⟩) ?_) (arm_eff hS558 rfl rfl rfl (e_lit (e := 33) (parts := []) (cs := []) (kint .u64) ([] : List Int) (N + 4) g hS558 rfl rfl (fun _ => by kernel_rfl) rfl (by decide) Rows.nil) (fun _ _ g' hR _ => ⟨g', hC.trans hR.2 (fun _ h => h.elim)⟩) ?_)
    · rintro _ a562 w563 g563 ⟨⟨A559, rfl, h560⟩, F563⟩ hS562
      have hC563 := hC.trans F563 (fun _ h => h.elim)
      replace hb0 := hb0.fr F563 (fun h => h)
      replace hf0_Done := OwS.fr hf0_Done F563 (fun _ _ h => h)
      replace hf0_N := OwS.fr hf0_N F563 (fun _ _ h => h)
      replace hf0_R := OwS.fr hf0_R F563 (fun _ _ h => h)
      replace hF := hF.trans F563 (fun _ h => h.elim)
      refine d_three 5 6 12 #[true, true, true, true, true, true, false, true, true, true, true, false, false, true, true, true, true, false, true, true, true, true, false, false, false] #[true, true, true, true, true, false, true, true, true, true, true, false, false, true, true, true, true, false, true, true, true, true, false, false, false] #[true, true, true, true, true, false, false, true, true, true, true, false, true, true, true, true, true, false, true, true, true, true, false, false, false] rfl rfl rfl (by kernel_rfl) (arm_eff hS562 rfl rfl rfl (e_append (e := 35) (sz := 3) (by_ := 24) (z := [.int .i64 0, .int .u64 0, .int .u64 0]) (kd := kd_api_Rail) g563 hS562 rfl rfl rfl rfl (by kernel_rfl) (by kernel_rfl) rfl rfl rfl rfl h560 (OwD.rdx hf0_R) (fun _ _ _ h => h) hy6) (fun _ _ g' hR _ => ⟨g', hC563.trans hR.2 (fun c' (hm : c' = N + 0) => by show c' = N + 0 ∨ c' = N + 2 ∨ c' = N + 4; omega)⟩) ?_) (arm_eff hS562 rfl rfl rfl (e_lit (e := 3) (parts := []) (cs := []) (kint .i64) ([] : List Int) (N + 2) g563 hS562 rfl rfl (fun _ => by kernel_rfl) rfl (by decide) Rows.nil) (fun _ _ g' hR _ => ⟨g', hC563.trans hR.2 (fun _ h => h.elim)⟩) ?_) (arm_eff hS562 rfl rfl rfl (e_lit (e := 33) (parts := []) (cs := []) (kint .u64) ([] : List Int) (N + 4) g563 hS562 rfl rfl (fun _ => by kernel_rfl) rfl (by decide) Rows.nil) (fun _ _ g' hR _ => ⟨g', hC563.trans hR.2 (fun _ h => h.elim)⟩) ?_)
      · rintro _ a568 w569 g569 ⟨⟨A564, cap565, rfl, h566⟩, F569⟩ hS568
        have hC569 := hC563.trans F569 (fun c' (hm : c' = N + 0) => by show c' = N + 0 ∨ c' = N + 2 ∨ c' = N + 4; omega)
        replace hb0 := hb0.fr F569 (fun (hm : c0 = N + 0) => by omega)
        replace hf0_Done := OwS.fr hf0_Done F569 (fun c' hc (hm : c' = N + 0) => by omega)
        replace hf0_N := OwS.fr hf0_N F569 (fun c' hc (hm : c' = N + 0) => by omega)
        replace hf0_R := OwS.fr hf0_R F569 (fun c' hc (hm : c' = N + 0) => by omega)
        replace hF := hF.trans F569 (fun c' (hm : c' = N + 0) => by show (r0 ≤ c' ∧ c' < r0 + 7) ∨ N ≤ c'; omega)
        refine d_two 6 12 #[true, true, true, true, true, true, true, true, true, true, true, false, false, true, true, true, true, false, true, true, true, true, false, false, false] #[true, true, true, true, true, true, false, true, true, true, true, false, true, true, true, true, true, false, true, true, true, true, false, false, false] rfl rfl (by kernel_rfl) (arm_eff hS568 rfl rfl rfl (e_lit (e := 3) (parts := []) (cs := []) (kint .i64) ([] : List Int) (N + 2) g569 hS568 rfl rfl (fun _ => by kernel_rfl) rfl (by decide) Rows.nil) (fun _ _ g' hR _ => ⟨g', hC569.trans hR.2 (fun _ h => h.elim)⟩) ?_) (arm_eff hS568 rfl rfl rfl (e_lit (e := 33) (parts := []) (cs := []) (kint .u64) ([] : List Int) (N + 4) g569 hS568 rfl rfl (fun _ => by kernel_rfl) rfl (by decide) Rows.nil) (fun _ _ g' hR _ => ⟨g', hC569.trans hR.2 (fun _ h => h.elim)⟩) ?_)
        · rintro _ a573 w574 g574 ⟨⟨A570, rfl, h571⟩, F574⟩ hS573
          have hC574 := hC569.trans F574 (fun _ h => h.elim)
          replace h566 := OwS.fr h566 F574 (fun _ _ h => h)
          replace hb0 := hb0.fr F574 (fun h => h)
          replace hf0_Done := OwS.fr hf0_Done F574 (fun _ _ h => h)
          replace hf0_N := OwS.fr hf0_N F574 (fun _ _ h => h)
          replace hf0_R := OwS.fr hf0_R F574 (fun _ _ h => h)
          replace hF := hF.trans F574 (fun _ h => h.elim)
          refine d_two 11 12 #[true, true, true, true, true, true, true, true, true, true, true, true, false, true, true, true, true, false, true, true, true, true, false, false, false] #[true, true, true, true, true, true, true, true, true, true, true, false, true, true, true, true, true, false, true, true, true, true, false, false, false] rfl rfl (by kernel_rfl) (arm_eff hS573 rfl rfl rfl (e_append (e := 3) (sz := 1) (by_ := 8) (z := [.int .i64 0]) (kd := (kint .i64)) g574 hS573 rfl rfl rfl rfl (by kernel_rfl) (by kernel_rfl) rfl rfl rfl rfl h571 (OwD.rdx hf0_N) (fun _ _ _ h => h) hy15) (fun _ _ g' hR _ => ⟨g', hC574.trans hR.2 (fun c' (hm : c' = N + 2) => by show c' = N + 0 ∨ c' = N + 2 ∨ c' = N + 4; omega)⟩) ?_) (arm_eff hS573 rfl rfl rfl (e_lit (e := 33) (parts := []) (cs := []) (kint .u64) ([] : List Int) (N + 4) g574 hS573 rfl rfl (fun _ => by kernel_rfl) rfl (by decide) Rows.nil) (fun _ _ g' hR _ => ⟨g', hC574.trans hR.2 (fun _ h => h.elim)⟩) ?_)
          · rintro _ a579 w580 g580 ⟨⟨A575, cap576, rfl, h577⟩, F580⟩ hS579
            have hC580 := hC574.trans F580 (fun c' (hm : c' = N + 2) => by show c' = N + 0 ∨ c' = N + 2 ∨ c' = N + 4; omega)
            replace h566 := OwS.fr h566 F580 (fun c' hc (hm : c' = N + 2) => by omega)
            replace hb0 := hb0.fr F580 (fun (hm : c0 = N + 2) => by omega)
            replace hf0_Done := OwS.fr hf0_Done F580 (fun c' hc (hm : c' = N + 2) => by omega)
            replace hf0_N := OwS.fr hf0_N F580 (fun c' hc (hm : c' = N + 2) => by omega)
            replace hf0_R := OwS.fr hf0_R F580 (fun c' hc (hm : c' = N + 2) => by omega)
            replace hF := hF.trans F580 (fun c' (hm : c' = N + 2) => by show (r0 ≤ c' ∧ c' < r0 + 7) ∨ N ≤ c'; omega)
            refine d_one 12 #[true, true, true, true, true, true, true, true, true, true, true, true, true, true, true, true, true, false, true, true, true, true, false, false, false] rfl (by kernel_rfl) (arm_eff hS579 rfl rfl rfl (e_lit (e := 33) (parts := []) (cs := []) (kint .u64) ([] : List Int) (N + 4) g580 hS579 rfl rfl (fun _ => by kernel_rfl) rfl (by decide) Rows.nil) (fun _ _ g' hR _ => ⟨g', hC580.trans hR.2 (fun _ h => h.elim)⟩) ?_)
            rintro _ a584 w585 g585 ⟨⟨A581, rfl, h582⟩, F585⟩ hS584
            have hC585 := hC580.trans F585 (fun _ h => h.elim)
            replace h566 := OwS.fr h566 F585 (fun _ _ h => h)
            replace h577 := OwS.fr h577 F585 (fun _ _ h => h)
            replace hb0 := hb0.fr F585 (fun h => h)
            replace hf0_Done := OwS.fr hf0_Done F585 (fun _ _ h => h)
            replace hf0_N := OwS.fr hf0_N F585 (fun _ _ h => h)
            replace hf0_R := OwS.fr hf0_R F585 (fun _ _ h => h)
            replace hF := hF.trans F585 (fun _ h => h.elim)
            refine d_one 17 #[true, true, true, true, true, true, true, true, true, true, true, true, true, true, true, true, true, true, true, true, true, true, false, false, false] rfl (by kernel_rfl) (arm_eff hS584 rfl rfl rfl (e_append (e := 33) (sz := 1) (by_ := 8) (z := [.int .u64 0]) (kd := (kint .u64)) g585 hS584 rfl rfl rfl rfl (by kernel_rfl) (by kernel_rfl) rfl rfl rfl rfl h582 (OwD.rdx hf0_Done) (fun _ _ _ h => h) hy24) (fun _ _ g' hR _ => ⟨g', hC585.trans hR.2 (fun c' (hm : c' = N + 4) => by show c' = N + 0 ∨ c' = N + 2 ∨ c' = N + 4; omega)⟩) ?_)
            rintro _ a590 w591 g591 ⟨⟨A586, cap587, rfl, h588⟩, F591⟩ hS590
            have hC591 := hC585.trans F591 (fun c' (hm : c' = N + 4) => by show c' = N + 0 ∨ c' = N + 2 ∨ c' = N + 4; omega)
            replace h566 := OwS.fr h566 F591 (fun c' hc (hm : c' = N + 4) => by omega)
            replace h577 := OwS.fr h577 F591 (fun c' hc (hm : c' = N + 4) => by omega)
            replace hb0 := hb0.fr F591 (fun (hm : c0 = N + 4) => by omega)
            replace hf0_Done := OwS.fr hf0_Done F591 (fun c' hc (hm : c' = N + 4) => by omega)
            replace hf0_N := OwS.fr hf0_N F591 (fun c' hc (hm : c' = N + 4) => by omega)
            replace hf0_R := OwS.fr hf0_R F591 (fun c' hc (hm : c' = N + 4) => by omega)
            replace hF := hF.trans F591 (fun c' (hm : c' = N + 4) => by show (r0 ≤ c' ∧ c' < r0 + 7) ∨ N ≤ c'; omega)
            refine d_pure hS590 22 #[true, true, true, true, true, true, true, true, true, true, true, true, true, true, true, true, true, true, true, true, true, true, true, false, false] rfl rfl rfl rfl (by kernel_rfl) (fun _ _ _ h => h) (fun _ => (r_build (parts := [(0, .slice A564 y5.length cap565), (1, .slice A575 y14.length cap576), (2, .slice A586 y23.length cap587), (3, .int .u64 p0.Clock)]) (u := .agg #[.slice A564 y5.length cap565, .slice A575 y14.length cap576, .slice A586 y23.length cap587, .int .u64 p0.Clock]) hS590 rfl rfl (fun _ => by kernel_rfl))) fun a592 hS592 => ?_
            refine d_one 23 #[true, true, true, true, true, true, true, true, true, true, true, true, true, true, true, true, true, true, true, true, true, true, true, true, false] rfl (by kernel_rfl) (arm_eff hS592 rfl rfl rfl (e_box (cs := [.slice A564 y5.length cap565, .slice A575 y14.length cap576, .slice A586 y23.length cap587, .int .u64 p0.Clock]) (N + 6) g591 hS592 rfl rfl rfl) (fun _ _ g' hR _ => ⟨g', hC591.trans hR.2 (fun _ h => h.elim)⟩) ?_)
            rintro _ a596 w597 g597 ⟨⟨b593, rfl, h594⟩, F597⟩ hS596
            have hC597 := hC591.trans F597 (fun _ h => h.elim)
            replace h566 := OwS.fr h566 F597 (fun _ _ h => h)
            replace h577 := OwS.fr h577 F597 (fun _ _ h => h)
            replace h588 := OwS.fr h588 F597 (fun _ _ h => h)
            replace hb0 := hb0.fr F597 (fun h => h)
            replace hf0_Done := OwS.fr hf0_Done F597 (fun _ _ h => h)
            replace hf0_N := OwS.fr hf0_N F597 (fun _ _ h => h)
            replace hf0_R := OwS.fr hf0_R F597 (fun _ _ h => h)
            replace hF := hF.trans F597 (fun _ h => h.elim)
            refine d_pure hS596 24 #[true, true, true, true, true, true, true, true, true, true, true, true, true, true, true, true, true, true, true, true, true, true, true, true, true] rfl rfl rfl rfl (by kernel_rfl) (fun _ _ _ h => h) (fun _ => (r_assign hS596 rfl rfl)) fun a598 hS598 => d_done (by kernel_rfl) ?_
            exact ⟨g597, b593, A564, cap565, A575, cap576, A586, cap587, hS598.re ⟨rfl, trivial⟩, h566, h577, h588, h594, hb0, hf0_Done, hf0_N, hf0_R, hF⟩
          · rintro _ a602 w603 g603 ⟨⟨A599, rfl, h600⟩, F603⟩ hS602
            have hC603 := hC574.trans F603 (fun _ h => h.elim)
            replace h566 := OwS.fr h566 F603 (fun _ _ h => h)
            replace h571 := OwS.fr h571 F603 (fun _ _ h => h)
            replace hb0 := hb0.fr F603 (fun h => h)
            replace hf0_Done := OwS.fr hf0_Done F603 (fun _ _ h => h)
            replace hf0_N := OwS.fr hf0_N F603 (fun _ _ h => h)
            replace hf0_R := OwS.fr hf0_R F603 (fun _ _ h => h)
            replace hF := hF.trans F603 (fun _ h => h.elim)
            refine d_one 11 #[true, true, true, true, true, true, true, true, true, true, true, true, true, true, true, true, true, false, true, true, true, true, false, false, false] rfl (by kernel_rfl) (arm_eff hS602 rfl rfl rfl (e_append (e := 3) (sz := 1) (by_ := 8) (z := [.int .i64 0]) (kd := (kint .i64)) g603 hS602 rfl rfl rfl rfl (by kernel_rfl) (by kernel_rfl) rfl rfl rfl rfl h571 (OwD.rdx hf0_N) (fun _ _ _ h => h) hy15) (fun _ _ g' hR _ => ⟨g', hC603.trans hR.2 (fun c' (hm : c' = N + 2) => by show c' = N + 0 ∨ c' = N + 2 ∨ c' = N + 4; omega)⟩) ?_)
            rintro _ a608 w609 g609 ⟨⟨A604, cap605, rfl, h606⟩, F609⟩ hS608
            have hC609 := hC603.trans F609 (fun c' (hm : c' = N + 2) => by show c' = N + 0 ∨ c' = N + 2 ∨ c' = N + 4; omega)
            replace h566 := OwS.fr h566 F609 (fun c' hc (hm : c' = N + 2) => by omega)
            replace h600 := OwS.fr h600 F609 (fun c' hc (hm : c' = N + 2) => by omega)
            replace hb0 := hb0.fr F609 (fun (hm : c0 = N + 2) => by omega)
            replace hf0_Done := OwS.fr hf0_Done F609 (fun c' hc (hm : c' = N + 2) => by omega)
            replace hf0_N := OwS.fr hf0_N F609 (fun c' hc (hm : c' = N + 2) => by omega)
            replace hf0_R := OwS.fr hf0_R F609 (fun c' hc (hm : c' = N + 2) => by omega)
            replace hF := hF.trans F609 (fun c' (hm : c' = N + 2) => by show (r0 ≤ c' ∧ c' < r0 + 7) ∨ N ≤ c'; omega)
            refine d_one 17 #[true, true, true, true, true, true, true, true, true, true, true, true, true, true, true, true, true, true, true, true, true, true, false, false, false] rfl (by kernel_rfl) (arm_eff hS608 rfl rfl rfl (e_append (e := 33) (sz := 1) (by_ := 8) (z := [.int .u64 0]) (kd := (kint .u64)) g609 hS608 rfl rfl rfl rfl (by kernel_rfl) (by kernel_rfl) rfl rfl rfl rfl h600 (OwD.rdx hf0_Done) (fun _ _ _ h => h) hy24) (fun _ _ g' hR _ => ⟨g', hC609.trans hR.2 (fun c' (hm : c' = N + 4) => by show c' = N + 0 ∨ c' = N + 2 ∨ c' = N + 4; omega)⟩) ?_)
            rintro _ a614 w615 g615 ⟨⟨A610, cap611, rfl, h612⟩, F615⟩ hS614
            have hC615 := hC609.trans F615 (fun c' (hm : c' = N + 4) => by show c' = N + 0 ∨ c' = N + 2 ∨ c' = N + 4; omega)
            replace h566 := OwS.fr h566 F615 (fun c' hc (hm : c' = N + 4) => by omega)
            replace h606 := OwS.fr h606 F615 (fun c' hc (hm : c' = N + 4) => by omega)
            replace hb0 := hb0.fr F615 (fun (hm : c0 = N + 4) => by omega)
            replace hf0_Done := OwS.fr hf0_Done F615 (fun c' hc (hm : c' = N + 4) => by omega)
            replace hf0_N := OwS.fr hf0_N F615 (fun c' hc (hm : c' = N + 4) => by omega)
            replace hf0_R := OwS.fr hf0_R F615 (fun c' hc (hm : c' = N + 4) => by omega)
            replace hF := hF.trans F615 (fun c' (hm : c' = N + 4) => by show (r0 ≤ c' ∧ c' < r0 + 7) ∨ N ≤ c'; omega)
            refine d_pure hS614 22 #[true, true, true, true, true, true, true, true, true, true, true, true, true, true, true, true, true, true, true, true, true, true, true, false, false] rfl rfl rfl rfl (by kernel_rfl) (fun _ _ _ h => h) (fun _ => (r_build (parts := [(0, .slice A564 y5.length cap565), (1, .slice A604 y14.length cap605), (2, .slice A610 y23.length cap611), (3, .int .u64 p0.Clock)]) (u := .agg #[.slice A564 y5.length cap565, .slice A604 y14.length cap605, .slice A610 y23.length cap611, .int .u64 p0.Clock]) hS614 rfl rfl (fun _ => by kernel_rfl))) fun a616 hS616 => ?_
            refine d_one 23 #[true, true, true, true, true, true, true, true, true, true, true, true, true, true, true, true, true, true, true, true, true, true, true, true, false] rfl (by kernel_rfl) (arm_eff hS616 rfl rfl rfl (e_box (cs := [.slice A564 y5.length cap565, .slice A604 y14.length cap605, .slice A610 y23.length cap611, .int .u64 p0.Clock]) (N + 6) g615 hS616 rfl rfl rfl) (fun _ _ g' hR _ => ⟨g', hC615.trans hR.2 (fun _ h => h.elim)⟩) ?_)
            rintro _ a620 w621 g621 ⟨⟨b617, rfl, h618⟩, F621⟩ hS620
            have hC621 := hC615.trans F621 (fun _ h => h.elim)
            replace h566 := OwS.fr h566 F621 (fun _ _ h => h)
            replace h606 := OwS.fr h606 F621 (fun _ _ h => h)
            replace h612 := OwS.fr h612 F621 (fun _ _ h => h)
            replace hb0 := hb0.fr F621 (fun h => h)
            replace hf0_Done := OwS.fr hf0_Done F621 (fun _ _ h => h)
            replace hf0_N := OwS.fr hf0_N F621 (fun _ _ h => h)
            replace hf0_R := OwS.fr hf0_R F621 (fun _ _ h => h)
            replace hF := hF.trans F621 (fun _ h => h.elim)
            refine d_pure hS620 24 #[true, true, true, true, true, true, true, true, true, true, true, true, true, true, true, true, true, true, true, true, true, true, true, true, true] rfl rfl rfl rfl (by kernel_rfl) (fun _ _ _ h => h) (fun _ => (r_assign hS620 rfl rfl)) fun a622 hS622 => d_done (by kernel_rfl) ?_
            exact ⟨g621, b617, A564, cap565, A604, cap605, A610, cap611, hS622.re ⟨rfl, trivial⟩, h566, h606, h612, h618, hb0, hf0_Done, hf0_N, hf0_R, hF⟩
        · rintro _ a626 w627 g627 ⟨⟨A623, rfl, h624⟩, F627⟩ hS626
          have hC627 := hC569.trans F627 (fun _ h => h.elim)
          replace h566 := OwS.fr h566 F627 (fun _ _ h => h)
          replace hb0 := hb0.fr F627 (fun h => h)
          replace hf0_Done := OwS.fr hf0_Done F627 (fun _ _ h => h)
          replace hf0_N := OwS.fr hf0_N F627 (fun _ _ h => h)
          replace hf0_R := OwS.fr hf0_R F627 (fun _ _ h => h)
          replace hF := hF.trans F627 (fun _ h => h.elim)
          refine d_one 6 #[true, true, true, true, true, true, true, true, true, true, true, false, true, true, true, true, true, false, true, true, true, true, false, false, false] rfl (by kernel_rfl) (arm_eff hS626 rfl rfl rfl (e_lit (e := 3) (parts := []) (cs := []) (kint .i64) ([] : List Int) (N + 2) g627 hS626 rfl rfl (fun _ => by kernel_rfl) rfl (by decide) Rows.nil) (fun _ _ g' hR _ => ⟨g', hC627.trans hR.2 (fun _ h => h.elim)⟩) ?_)
          rintro _ a631 w632 g632 ⟨⟨A628, rfl, h629⟩, F632⟩ hS631
          have hC632 := hC627.trans F632 (fun _ h => h.elim)
          replace h566 := OwS.fr h566 F632 (fun _ _ h => h)
          replace h624 := OwS.fr h624 F632 (fun _ _ h => h)
          replace hb0 := hb0.fr F632 (fun h => h)
          replace hf0_Done := OwS.fr hf0_Done F632 (fun _ _ h => h)
          replace hf0_N := OwS.fr hf0_N F632 (fun _ _ h => h)
          replace hf0_R := OwS.fr hf0_R F632 (fun _ _ h => h)
          replace hF := hF.trans F632 (fun _ h => h.elim)
          refine d_one 11 #[true, true, true, true, true, true, true, true, true, true, true, true, true, true, true, true, true, false, true, true, true, true, false, false, false] rfl (by kernel_rfl) (arm_eff hS631 rfl rfl rfl (e_append (e := 3) (sz := 1) (by_ := 8) (z := [.int .i64 0]) (kd := (kint .i64)) g632 hS631 rfl rfl rfl rfl (by kernel_rfl) (by kernel_rfl) rfl rfl rfl rfl h629 (OwD.rdx hf0_N) (fun _ _ _ h => h) hy15) (fun _ _ g' hR _ => ⟨g', hC632.trans hR.2 (fun c' (hm : c' = N + 2) => by show c' = N + 0 ∨ c' = N + 2 ∨ c' = N + 4; omega)⟩) ?_)
          rintro _ a637 w638 g638 ⟨⟨A633, cap634, rfl, h635⟩, F638⟩ hS637
          have hC638 := hC632.trans F638 (fun c' (hm : c' = N + 2) => by show c' = N + 0 ∨ c' = N + 2 ∨ c' = N + 4; omega)
          replace h566 := OwS.fr h566 F638 (fun c' hc (hm : c' = N + 2) => by omega)
          replace h624 := OwS.fr h624 F638 (fun c' hc (hm : c' = N + 2) => by omega)
          replace hb0 := hb0.fr F638 (fun (hm : c0 = N + 2) => by omega)
          replace hf0_Done := OwS.fr hf0_Done F638 (fun c' hc (hm : c' = N + 2) => by omega)
          replace hf0_N := OwS.fr hf0_N F638 (fun c' hc (hm : c' = N + 2) => by omega)
          replace hf0_R := OwS.fr hf0_R F638 (fun c' hc (hm : c' = N + 2) => by omega)
          replace hF := hF.trans F638 (fun c' (hm : c' = N + 2) => by show (r0 ≤ c' ∧ c' < r0 + 7) ∨ N ≤ c'; omega)
          refine d_one 17 #[true, true, true, true, true, true, true, true, true, true, true, true, true, true, true, true, true, true, true, true, true, true, false, false, false] rfl (by kernel_rfl) (arm_eff hS637 rfl rfl rfl (e_append (e := 33) (sz := 1) (by_ := 8) (z := [.int .u64 0]) (kd := (kint .u64)) g638 hS637 rfl rfl rfl rfl (by kernel_rfl) (by kernel_rfl) rfl rfl rfl rfl h624 (OwD.rdx hf0_Done) (fun _ _ _ h => h) hy24) (fun _ _ g' hR _ => ⟨g', hC638.trans hR.2 (fun c' (hm : c' = N + 4) => by show c' = N + 0 ∨ c' = N + 2 ∨ c' = N + 4; omega)⟩) ?_)
          rintro _ a643 w644 g644 ⟨⟨A639, cap640, rfl, h641⟩, F644⟩ hS643
          have hC644 := hC638.trans F644 (fun c' (hm : c' = N + 4) => by show c' = N + 0 ∨ c' = N + 2 ∨ c' = N + 4; omega)
          replace h566 := OwS.fr h566 F644 (fun c' hc (hm : c' = N + 4) => by omega)
          replace h635 := OwS.fr h635 F644 (fun c' hc (hm : c' = N + 4) => by omega)
          replace hb0 := hb0.fr F644 (fun (hm : c0 = N + 4) => by omega)
          replace hf0_Done := OwS.fr hf0_Done F644 (fun c' hc (hm : c' = N + 4) => by omega)
          replace hf0_N := OwS.fr hf0_N F644 (fun c' hc (hm : c' = N + 4) => by omega)
          replace hf0_R := OwS.fr hf0_R F644 (fun c' hc (hm : c' = N + 4) => by omega)
          replace hF := hF.trans F644 (fun c' (hm : c' = N + 4) => by show (r0 ≤ c' ∧ c' < r0 + 7) ∨ N ≤ c'; omega)
          refine d_pure hS643 22 #[true, true, true, true, true, true, true, true, true, true, true, true, true, true, true, true, true, true, true, true, true, true, true, false, false] rfl rfl rfl rfl (by kernel_rfl) (fun _ _ _ h => h) (fun _ => (r_build (parts := [(0, .slice A564 y5.length cap565), (1, .slice A633 y14.length cap634), (2, .slice A639 y23.length cap640), (3, .int .u64 p0.Clock)]) (u := .agg #[.slice A564 y5.length cap565, .slice A633 y14.length cap634, .slice A639 y23.length cap640, .int .u64 p0.Clock]) hS643 rfl rfl (fun _ => by kernel_rfl))) fun a645 hS645 => ?_
          refine d_one 23 #[true, true, true, true, true, true, true, true, true, true, true, true, true, true, true, true, true, true, true, true, true, true, true, true, false] rfl (by kernel_rfl) (arm_eff hS645 rfl rfl rfl (e_box (cs := [.slice A564 y5.length cap565, .slice A633 y14.length cap634, .slice A639 y23.length cap640, .int .u64 p0.Clock]) (N + 6) g644 hS645 rfl rfl rfl) (fun _ _ g' hR _ => ⟨g', hC644.trans hR.2 (fun _ h => h.elim)⟩) ?_)
          rintro _ a649 w650 g650 ⟨⟨b646, rfl, h647⟩, F650⟩ hS649
          have hC650 := hC644.trans F650 (fun _ h => h.elim)
          replace h566 := OwS.fr h566 F650 (fun _ _ h => h)
          replace h635 := OwS.fr h635 F650 (fun _ _ h => h)
          replace h641 := OwS.fr h641 F650 (fun _ _ h => h)
          replace hb0 := hb0.fr F650 (fun h => h)
          replace hf0_Done := OwS.fr hf0_Done F650 (fun _ _ h => h)
          replace hf0_N := OwS.fr hf0_N F650 (fun _ _ h => h)
          replace hf0_R := OwS.fr hf0_R F650 (fun _ _ h => h)
          replace hF := hF.trans F650 (fun _ h => h.elim)
          refine d_pure hS649 24 #[true, true, true, true, true, true, true, true, true, true, true, true, true, true, true, true, true, true, true, true, true, true, true, true, true] rfl rfl rfl rfl (by kernel_rfl) (fun _ _ _ h => h) (fun _ => (r_assign hS649 rfl rfl)) fun a651 hS651 => d_done (by kernel_rfl) ?_
          exact ⟨g650, b646, A564, cap565, A633, cap634, A639, cap640, hS651.re ⟨rfl, trivial⟩, h566, h635, h641, h647, hb0, hf0_Done, hf0_N, hf0_R, hF⟩
      · rintro _ a655 w656 g656 ⟨⟨A652, rfl, h653⟩, F656⟩ hS655
        have hC656 := hC563.trans F656 (fun _ h => h.elim)
        replace h560 := OwS.fr h560 F656 (fun _ _ h => h)
        replace hb0 := hb0.fr F656 (fun h => h)
        replace hf0_Done := OwS.fr hf0_Done F656 (fun _ _ h => h)
        replace hf0_N := OwS.fr hf0_N F656 (fun _ _ h => h)
        replace hf0_R := OwS.fr hf0_R F656 (fun _ _ h => h)
        replace hF := hF.trans F656 (fun _ h => h.elim)
        refine d_two 5 12 #[true, true, true, true, true, true, true, true, true, true, true, false, false, true, true, true, true, false, true, true, true, true, false, false, false] #[true, true, true, true, true, false, true, true, true, true, true, false, true, true, true, true, true, false, true, true, true, true, false, false, false] rfl rfl (by kernel_rfl) (arm_eff hS655 rfl rfl rfl (e_append (e := 35) (sz := 3) (by_ := 24) (z := [.int .i64 0, .int .u64 0, .int .u64 0]) (kd := kd_api_Rail) g656 hS655 rfl rfl rfl rfl (by kernel_rfl) (by kernel_rfl) rfl rfl rfl rfl h560 (OwD.rdx hf0_R) (fun _ _ _ h => h) hy6) (fun _ _ g' hR _ => ⟨g', hC656.trans hR.2 (fun c' (hm : c' = N + 0) => by show c' = N + 0 ∨ c' = N + 2 ∨ c' = N + 4; omega)⟩) ?_) (arm_eff hS655 rfl rfl rfl (e_lit (e := 33) (parts := []) (cs := []) (kint .u64) ([] : List Int) (N + 4) g656 hS655 rfl rfl (fun _ => by kernel_rfl) rfl (by decide) Rows.nil) (fun _ _ g' hR _ => ⟨g', hC656.trans hR.2 (fun _ h => h.elim)⟩) ?_)
        · rintro _ a661 w662 g662 ⟨⟨A657, cap658, rfl, h659⟩, F662⟩ hS661
          have hC662 := hC656.trans F662 (fun c' (hm : c' = N + 0) => by show c' = N + 0 ∨ c' = N + 2 ∨ c' = N + 4; omega)
          replace h653 := OwS.fr h653 F662 (fun c' hc (hm : c' = N + 0) => by omega)
          replace hb0 := hb0.fr F662 (fun (hm : c0 = N + 0) => by omega)
          replace hf0_Done := OwS.fr hf0_Done F662 (fun c' hc (hm : c' = N + 0) => by omega)
          replace hf0_N := OwS.fr hf0_N F662 (fun c' hc (hm : c' = N + 0) => by omega)
          replace hf0_R := OwS.fr hf0_R F662 (fun c' hc (hm : c' = N + 0) => by omega)
          replace hF := hF.trans F662 (fun c' (hm : c' = N + 0) => by show (r0 ≤ c' ∧ c' < r0 + 7) ∨ N ≤ c'; omega)
          refine d_two 11 12 #[true, true, true, true, true, true, true, true, true, true, true, true, false, true, true, true, true, false, true, true, true, true, false, false, false] #[true, true, true, true, true, true, true, true, true, true, true, false, true, true, true, true, true, false, true, true, true, true, false, false, false] rfl rfl (by kernel_rfl) (arm_eff hS661 rfl rfl rfl (e_append (e := 3) (sz := 1) (by_ := 8) (z := [.int .i64 0]) (kd := (kint .i64)) g662 hS661 rfl rfl rfl rfl (by kernel_rfl) (by kernel_rfl) rfl rfl rfl rfl h653 (OwD.rdx hf0_N) (fun _ _ _ h => h) hy15) (fun _ _ g' hR _ => ⟨g', hC662.trans hR.2 (fun c' (hm : c' = N + 2) => by show c' = N + 0 ∨ c' = N + 2 ∨ c' = N + 4; omega)⟩) ?_) (arm_eff hS661 rfl rfl rfl (e_lit (e := 33) (parts := []) (cs := []) (kint .u64) ([] : List Int) (N + 4) g662 hS661 rfl rfl (fun _ => by kernel_rfl) rfl (by decide) Rows.nil) (fun _ _ g' hR _ => ⟨g', hC662.trans hR.2 (fun _ h => h.elim)⟩) ?_)
          · rintro _ a667 w668 g668 ⟨⟨A663, cap664, rfl, h665⟩, F668⟩ hS667
            have hC668 := hC662.trans F668 (fun c' (hm : c' = N + 2) => by show c' = N + 0 ∨ c' = N + 2 ∨ c' = N + 4; omega)
            replace h659 := OwS.fr h659 F668 (fun c' hc (hm : c' = N + 2) => by omega)
            replace hb0 := hb0.fr F668 (fun (hm : c0 = N + 2) => by omega)
            replace hf0_Done := OwS.fr hf0_Done F668 (fun c' hc (hm : c' = N + 2) => by omega)
            replace hf0_N := OwS.fr hf0_N F668 (fun c' hc (hm : c' = N + 2) => by omega)
            replace hf0_R := OwS.fr hf0_R F668 (fun c' hc (hm : c' = N + 2) => by omega)
            replace hF := hF.trans F668 (fun c' (hm : c' = N + 2) => by show (r0 ≤ c' ∧ c' < r0 + 7) ∨ N ≤ c'; omega)
            refine d_one 12 #[true, true, true, true, true, true, true, true, true, true, true, true, true, true, true, true, true, false, true, true, true, true, false, false, false] rfl (by kernel_rfl) (arm_eff hS667 rfl rfl rfl (e_lit (e := 33) (parts := []) (cs := []) (kint .u64) ([] : List Int) (N + 4) g668 hS667 rfl rfl (fun _ => by kernel_rfl) rfl (by decide) Rows.nil) (fun _ _ g' hR _ => ⟨g', hC668.trans hR.2 (fun _ h => h.elim)⟩) ?_)
            rintro _ a672 w673 g673 ⟨⟨A669, rfl, h670⟩, F673⟩ hS672
            have hC673 := hC668.trans F673 (fun _ h => h.elim)
            replace h659 := OwS.fr h659 F673 (fun _ _ h => h)
            replace h665 := OwS.fr h665 F673 (fun _ _ h => h)
            replace hb0 := hb0.fr F673 (fun h => h)
            replace hf0_Done := OwS.fr hf0_Done F673 (fun _ _ h => h)
            replace hf0_N := OwS.fr hf0_N F673 (fun _ _ h => h)
            replace hf0_R := OwS.fr hf0_R F673 (fun _ _ h => h)
            replace hF := hF.trans F673 (fun _ h => h.elim)
            refine d_one 17 #[true, true, true, true, true, true, true, true, true, true, true, true, true, true, true, true, true, true, true, true, true, true, false, false, false] rfl (by kernel_rfl) (arm_eff hS672 rfl rfl rfl (e_append (e := 33) (sz := 1) (by_ := 8) (z := [.int .u64 0]) (kd := (kint .u64)) g673 hS672 rfl rfl rfl rfl (by kernel_rfl) (by kernel_rfl) rfl rfl rfl rfl h670 (OwD.rdx hf0_Done) (fun _ _ _ h => h) hy24) (fun _ _ g' hR _ => ⟨g', hC673.trans hR.2 (fun c' (hm : c' = N + 4) => by show c' = N + 0 ∨ c' = N + 2 ∨ c' = N + 4; omega)⟩) ?_)
            rintro _ a678 w679 g679 ⟨⟨A674, cap675, rfl, h676⟩, F679⟩ hS678
            have hC679 := hC673.trans F679 (fun c' (hm : c' = N + 4) => by show c' = N + 0 ∨ c' = N + 2 ∨ c' = N + 4; omega)
            replace h659 := OwS.fr h659 F679 (fun c' hc (hm : c' = N + 4) => by omega)
            replace h665 := OwS.fr h665 F679 (fun c' hc (hm : c' = N + 4) => by omega)
            replace hb0 := hb0.fr F679 (fun (hm : c0 = N + 4) => by omega)
            replace hf0_Done := OwS.fr hf0_Done F679 (fun c' hc (hm : c' = N + 4) => by omega)
            replace hf0_N := OwS.fr hf0_N F679 (fun c' hc (hm : c' = N + 4) => by omega)
            replace hf0_R := OwS.fr hf0_R F679 (fun c' hc (hm : c' = N + 4) => by omega)
            replace hF := hF.trans F679 (fun c' (hm : c' = N + 4) => by show (r0 ≤ c' ∧ c' < r0 + 7) ∨ N ≤ c'; omega)
            refine d_pure hS678 22 #[true, true, true, true, true, true, true, true, true, true, true, true, true, true, true, true, true, true, true, true, true, true, true, false, false] rfl rfl rfl rfl (by kernel_rfl) (fun _ _ _ h => h) (fun _ => (r_build (parts := [(0, .slice A657 y5.length cap658), (1, .slice A663 y14.length cap664), (2, .slice A674 y23.length cap675), (3, .int .u64 p0.Clock)]) (u := .agg #[.slice A657 y5.length cap658, .slice A663 y14.length cap664, .slice A674 y23.length cap675, .int .u64 p0.Clock]) hS678 rfl rfl (fun _ => by kernel_rfl))) fun a680 hS680 => ?_
            refine d_one 23 #[true, true, true, true, true, true, true, true, true, true, true, true, true, true, true, true, true, true, true, true, true, true, true, true, false] rfl (by kernel_rfl) (arm_eff hS680 rfl rfl rfl (e_box (cs := [.slice A657 y5.length cap658, .slice A663 y14.length cap664, .slice A674 y23.length cap675, .int .u64 p0.Clock]) (N + 6) g679 hS680 rfl rfl rfl) (fun _ _ g' hR _ => ⟨g', hC679.trans hR.2 (fun _ h => h.elim)⟩) ?_)
            rintro _ a684 w685 g685 ⟨⟨b681, rfl, h682⟩, F685⟩ hS684
            have hC685 := hC679.trans F685 (fun _ h => h.elim)
            replace h659 := OwS.fr h659 F685 (fun _ _ h => h)
            replace h665 := OwS.fr h665 F685 (fun _ _ h => h)
            replace h676 := OwS.fr h676 F685 (fun _ _ h => h)
            replace hb0 := hb0.fr F685 (fun h => h)
            replace hf0_Done := OwS.fr hf0_Done F685 (fun _ _ h => h)
            replace hf0_N := OwS.fr hf0_N F685 (fun _ _ h => h)
            replace hf0_R := OwS.fr hf0_R F685 (fun _ _ h => h)
            replace hF := hF.trans F685 (fun _ h => h.elim)
            refine d_pure hS684 24 #[true, true, true, true, true, true, true, true, true, true, true, true, true, true, true, true, true, true, true, true, true, true, true, true, true] rfl rfl rfl rfl (by kernel_rfl) (fun _ _ _ h => h) (fun _ => (r_assign hS684 rfl rfl)) fun a686 hS686 => d_done (by kernel_rfl) ?_
            exact ⟨g685, b681, A657, cap658, A663, cap664, A674, cap675, hS686.re ⟨rfl, trivial⟩, h659, h665, h676, h682, hb0, hf0_Done, hf0_N, hf0_R, hF⟩
          · rintro _ a690 w691 g691 ⟨⟨A687, rfl, h688⟩, F691⟩ hS690
            have hC691 := hC662.trans F691 (fun _ h => h.elim)
            replace h653 := OwS.fr h653 F691 (fun _ _ h => h)
            replace h659 := OwS.fr h659 F691 (fun _ _ h => h)
            replace hb0 := hb0.fr F691 (fun h => h)
            replace hf0_Done := OwS.fr hf0_Done F691 (fun _ _ h => h)
            replace hf0_N := OwS.fr hf0_N F691 (fun _ _ h => h)
            replace hf0_R := OwS.fr hf0_R F691 (fun _ _ h => h)
            replace hF := hF.trans F691 (fun _ h => h.elim)
            refine d_one 11 #[true, true, true, true, true, true, true, true, true, true, true, true, true, true, true, true, true, false, true, true, true, true, false, false, false] rfl (by kernel_rfl) (arm_eff hS690 rfl rfl rfl (e_append (e := 3) (sz := 1) (by_ := 8) (z := [.int .i64 0]) (kd := (kint .i64)) g691 hS690 rfl rfl rfl rfl (by kernel_rfl) (by kernel_rfl) rfl rfl rfl rfl h653 (OwD.rdx hf0_N) (fun _ _ _ h => h) hy15) (fun _ _ g' hR _ => ⟨g', hC691.trans hR.2 (fun c' (hm : c' = N + 2) => by show c' = N + 0 ∨ c' = N + 2 ∨ c' = N + 4; omega)⟩) ?_)
            rintro _ a696 w697 g697 ⟨⟨A692, cap693, rfl, h694⟩, F697⟩ hS696
            have hC697 := hC691.trans F697 (fun c' (hm : c' = N + 2) => by show c' = N + 0 ∨ c' = N + 2 ∨ c' = N + 4; omega)
            replace h659 := OwS.fr h659 F697 (fun c' hc (hm : c' = N + 2) => by omega)
            replace h688 := OwS.fr h688 F697 (fun c' hc (hm : c' = N + 2) => by omega)
            replace hb0 := hb0.fr F697 (fun (hm : c0 = N + 2) => by omega)
            replace hf0_Done := OwS.fr hf0_Done F697 (fun c' hc (hm : c' = N + 2) => by omega)
            replace hf0_N := OwS.fr hf0_N F697 (fun c' hc (hm : c' = N + 2) => by omega)
            replace hf0_R := OwS.fr hf0_R F697 (fun c' hc (hm : c' = N + 2) => by omega)
            replace hF := hF.trans F697 (fun c' (hm : c' = N + 2) => by show (r0 ≤ c' ∧ c' < r0 + 7) ∨ N ≤ c'; omega)
            refine d_one 17 #[true, true, true, true, true, true, true, true, true, true, true, true, true, true, true, true, true, true, true, true, true, true, false, false, false] rfl (by kernel_rfl) (arm_eff hS696 rfl rfl rfl (e_append (e := 33) (sz := 1) (by_ := 8) (z := [.int .u64 0]) (kd := (kint .u64)) g697 hS696 rfl rfl rfl rfl (by kernel_rfl) (by kernel_rfl) rfl rfl rfl rfl h688 (OwD.rdx hf0_Done) (fun _ _ _ h => h) hy24) (fun _ _ g' hR _ => ⟨g', hC697.trans hR.2 (fun c' (hm : c' = N + 4) => by show c' = N + 0 ∨ c' = N + 2 ∨ c' = N + 4; omega)⟩) ?_)
            rintro _ a702 w703 g703 ⟨⟨A698, cap699, rfl, h700⟩, F703⟩ hS702
            have hC703 := hC697.trans F703 (fun c' (hm : c' = N + 4) => by show c' = N + 0 ∨ c' = N + 2 ∨ c' = N + 4; omega)
            replace h659 := OwS.fr h659 F703 (fun c' hc (hm : c' = N + 4) => by omega)
            replace h694 := OwS.fr h694 F703 (fun c' hc (hm : c' = N + 4) => by omega)
            replace hb0 := hb0.fr F703 (fun (hm : c0 = N + 4) => by omega)
            replace hf0_Done := OwS.fr hf0_Done F703 (fun c' hc (hm : c' = N + 4) => by omega)
            replace hf0_N := OwS.fr hf0_N F703 (fun c' hc (hm : c' = N + 4) => by omega)
            replace hf0_R := OwS.fr hf0_R F703 (fun c' hc (hm : c' = N + 4) => by omega)
            replace hF := hF.trans F703 (fun c' (hm : c' = N + 4) => by show (r0 ≤ c' ∧ c' < r0 + 7) ∨ N ≤ c'; omega)
            refine d_pure hS702 22 #[true, true, true, true, true, true, true, true, true, true, true, true, true, true, true, true, true, true, true, true, true, true, true, false, false] rfl rfl rfl rfl (by kernel_rfl) (fun _ _ _ h => h) (fun _ => (r_build (parts := [(0, .slice A657 y5.length cap658), (1, .slice A692 y14.length cap693), (2, .slice A698 y23.length cap699), (3, .int .u64 p0.Clock)]) (u := .agg #[.slice A657 y5.length cap658, .slice A692 y14.length cap693, .slice A698 y23.length cap699, .int .u64 p0.Clock]) hS702 rfl rfl (fun _ => by kernel_rfl))) fun a704 hS704 => ?_
            refine d_one 23 #[true, true, true, true, true, true, true, true, true, true, true, true, true, true, true, true, true, true, true, true, true, true, true, true, false] rfl (by kernel_rfl) (arm_eff hS704 rfl rfl rfl (e_box (cs := [.slice A657 y5.length cap658, .slice A692 y14.length cap693, .slice A698 y23.length cap699, .int .u64 p0.Clock]) (N + 6) g703 hS704 rfl rfl rfl) (fun _ _ g' hR _ => ⟨g', hC703.trans hR.2 (fun _ h => h.elim)⟩) ?_)
            rintro _ a708 w709 g709 ⟨⟨b705, rfl, h706⟩, F709⟩ hS708
            have hC709 := hC703.trans F709 (fun _ h => h.elim)
            replace h659 := OwS.fr h659 F709 (fun _ _ h => h)
            replace h694 := OwS.fr h694 F709 (fun _ _ h => h)
            replace h700 := OwS.fr h700 F709 (fun _ _ h => h)
            replace hb0 := hb0.fr F709 (fun h => h)
            replace hf0_Done := OwS.fr hf0_Done F709 (fun _ _ h => h)
            replace hf0_N := OwS.fr hf0_N F709 (fun _ _ h => h)
            replace hf0_R := OwS.fr hf0_R F709 (fun _ _ h => h)
            replace hF := hF.trans F709 (fun _ h => h.elim)
            refine d_pure hS708 24 #[true, true, true, true, true, true, true, true, true, true, true, true, true, true, true, true, true, true, true, true, true, true, true, true, true] rfl rfl rfl rfl (by kernel_rfl) (fun _ _ _ h => h) (fun _ => (r_assign hS708 rfl rfl)) fun a710 hS710 => d_done (by kernel_rfl) ?_
            exact ⟨g709, b705, A657, cap658, A692, cap693, A698, cap699, hS710.re ⟨rfl, trivial⟩, h659, h694, h700, h706, hb0, hf0_Done, hf0_N, hf0_R, hF⟩
        · rintro _ a714 w715 g715 ⟨⟨A711, rfl, h712⟩, F715⟩ hS714
          have hC715 := hC656.trans F715 (fun _ h => h.elim)
          replace h560 := OwS.fr h560 F715 (fun _ _ h => h)
          replace h653 := OwS.fr h653 F715 (fun _ _ h => h)
          replace hb0 := hb0.fr F715 (fun h => h)
          replace hf0_Done := OwS.fr hf0_Done F715 (fun _ _ h => h)
          replace hf0_N := OwS.fr hf0_N F715 (fun _ _ h => h)
          replace hf0_R := OwS.fr hf0_R F715 (fun _ _ h => h)
          replace hF := hF.trans F715 (fun _ h => h.elim)
          refine d_one 5 #[true, true, true, true, true, true, true, true, true, true, true, false, true, true, true, true, true, false, true, true, true, true, false, false, false] rfl (by kernel_rfl) (arm_eff hS714 rfl rfl rfl (e_append (e := 35) (sz := 3) (by_ := 24) (z := [.int .i64 0, .int .u64 0, .int .u64 0]) (kd := kd_api_Rail) g715 hS714 rfl rfl rfl rfl (by kernel_rfl) (by kernel_rfl) rfl rfl rfl rfl h560 (OwD.rdx hf0_R) (fun _ _ _ h => h) hy6) (fun _ _ g' hR _ => ⟨g', hC715.trans hR.2 (fun c' (hm : c' = N + 0) => by show c' = N + 0 ∨ c' = N + 2 ∨ c' = N + 4; omega)⟩) ?_)
          rintro _ a720 w721 g721 ⟨⟨A716, cap717, rfl, h718⟩, F721⟩ hS720
          have hC721 := hC715.trans F721 (fun c' (hm : c' = N + 0) => by show c' = N + 0 ∨ c' = N + 2 ∨ c' = N + 4; omega)
          replace h653 := OwS.fr h653 F721 (fun c' hc (hm : c' = N + 0) => by omega)
          replace h712 := OwS.fr h712 F721 (fun c' hc (hm : c' = N + 0) => by omega)
          replace hb0 := hb0.fr F721 (fun (hm : c0 = N + 0) => by omega)
          replace hf0_Done := OwS.fr hf0_Done F721 (fun c' hc (hm : c' = N + 0) => by omega)
          replace hf0_N := OwS.fr hf0_N F721 (fun c' hc (hm : c' = N + 0) => by omega)
          replace hf0_R := OwS.fr hf0_R F721 (fun c' hc (hm : c' = N + 0) => by omega)
          replace hF := hF.trans F721 (fun c' (hm : c' = N + 0) => by show (r0 ≤ c' ∧ c' < r0 + 7) ∨ N ≤ c'; omega)
          refine d_one 11 #[true, true, true, true, true, true, true, true, true, true, true, true, true, true, true, true, true, false, true, true, true, true, false, false, false] rfl (by kernel_rfl) (arm_eff hS720 rfl rfl rfl (e_append (e := 3) (sz := 1) (by_ := 8) (z := [.int .i64 0]) (kd := (kint .i64)) g721 hS720 rfl rfl rfl rfl (by kernel_rfl) (by kernel_rfl) rfl rfl rfl rfl h653 (OwD.rdx hf0_N) (fun _ _ _ h => h) hy15) (fun _ _ g' hR _ => ⟨g', hC721.trans hR.2 (fun c' (hm : c' = N + 2) => by show c' = N + 0 ∨ c' = N + 2 ∨ c' = N + 4; omega)⟩) ?_)
          rintro _ a726 w727 g727 ⟨⟨A722, cap723, rfl, h724⟩, F727⟩ hS726
          have hC727 := hC721.trans F727 (fun c' (hm : c' = N + 2) => by show c' = N + 0 ∨ c' = N + 2 ∨ c' = N + 4; omega)
          replace h712 := OwS.fr h712 F727 (fun c' hc (hm : c' = N + 2) => by omega)
          replace h718 := OwS.fr h718 F727 (fun c' hc (hm : c' = N + 2) => by omega)
          replace hb0 := hb0.fr F727 (fun (hm : c0 = N + 2) => by omega)
          replace hf0_Done := OwS.fr hf0_Done F727 (fun c' hc (hm : c' = N + 2) => by omega)
          replace hf0_N := OwS.fr hf0_N F727 (fun c' hc (hm : c' = N + 2) => by omega)
          replace hf0_R := OwS.fr hf0_R F727 (fun c' hc (hm : c' = N + 2) => by omega)
          replace hF := hF.trans F727 (fun c' (hm : c' = N + 2) => by show (r0 ≤ c' ∧ c' < r0 + 7) ∨ N ≤ c'; omega)
          refine d_one 17 #[true, true, true, true, true, true, true, true, true, true, true, true, true, true, true, true, true, true, true, true, true, true, false, false, false] rfl (by kernel_rfl) (arm_eff hS726 rfl rfl rfl (e_append (e := 33) (sz := 1) (by_ := 8) (z := [.int .u64 0]) (kd := (kint .u64)) g727 hS726 rfl rfl rfl rfl (by kernel_rfl) (by kernel_rfl) rfl rfl rfl rfl h712 (OwD.rdx hf0_Done) (fun _ _ _ h => h) hy24) (fun _ _ g' hR _ => ⟨g', hC727.trans hR.2 (fun c' (hm : c' = N + 4) => by show c' = N + 0 ∨ c' = N + 2 ∨ c' = N + 4; omega)⟩) ?_)
          rintro _ a732 w733 g733 ⟨⟨A728, cap729, rfl, h730⟩, F733⟩ hS732
          have hC733 := hC727.trans F733 (fun c' (hm : c' = N + 4) => by show c' = N + 0 ∨ c' = N + 2 ∨ c' = N + 4; omega)
          replace h718 := OwS.fr h718 F733 (fun c' hc (hm : c' = N + 4) => by omega)
          replace h724 := OwS.fr h724 F733 (fun c' hc (hm : c' = N + 4) => by omega)
          replace hb0 := hb0.fr F733 (fun (hm : c0 = N + 4) => by omega)
          replace hf0_Done := OwS.fr hf0_Done F733 (fun c' hc (hm : c' = N + 4) => by omega)
          replace hf0_N := OwS.fr hf0_N F733 (fun c' hc (hm : c' = N + 4) => by omega)
          replace hf0_R := OwS.fr hf0_R F733 (fun c' hc (hm : c' = N + 4) => by omega)
          replace hF := hF.trans F733 (fun c' (hm : c' = N + 4) => by show (r0 ≤ c' ∧ c' < r0 + 7) ∨ N ≤ c'; omega)
          refine d_pure hS732 22 #[true, true, true, true, true, true, true, true, true, true, true, true, true, true, true, true, true, true, true, true, true, true, true, false, false] rfl rfl rfl rfl (by kernel_rfl) (fun _ _ _ h => h) (fun _ => (r_build (parts := [(0, .slice A716 y5.length cap717), (1, .slice A722 y14.length cap723), (2, .slice A728 y23.length cap729), (3, .int .u64 p0.Clock)]) (u := .agg #[.slice A716 y5.length cap717, .slice A722 y14.length cap723, .slice A728 y23.length cap729, .int .u64 p0.Clock]) hS732 rfl rfl (fun _ => by kernel_rfl))) fun a734 hS734 => ?_
          refine d_one 23 #[true, true, true, true, true, true, true, true, true, true, true, true, true, true, true, true, true, true, true, true, true, true, true, true, false] rfl (by kernel_rfl) (arm_eff hS734 rfl rfl rfl (e_box (cs := [.slice A716 y5.length cap717, .slice A722 y14.length cap723, .slice A728 y23.length cap729, .int .u64 p0.Clock]) (N + 6) g733 hS734 rfl rfl rfl) (fun _ _ g' hR _ => ⟨g', hC733.trans hR.2 (fun _ h => h.elim)⟩) ?_)
          rintro _ a738 w739 g739 ⟨⟨b735, rfl, h736⟩, F739⟩ hS738
          have hC739 := hC733.trans F739 (fun _ h => h.elim)
          replace h718 := OwS.fr h718 F739 (fun _ _ h => h)
          replace h724 := OwS.fr h724 F739 (fun _ _ h => h)
          replace h730 := OwS.fr h730 F739 (fun _ _ h => h)
          replace hb0 := hb0.fr F739 (fun h => h)
          replace hf0_Done := OwS.fr hf0_Done F739 (fun _ _ h => h)
          replace hf0_N := OwS.fr hf0_N F739 (fun _ _ h => h)
          replace hf0_R := OwS.fr hf0_R F739 (fun _ _ h => h)
          replace hF := hF.trans F739 (fun _ h => h.elim)
          refine d_pure hS738 24 #[true, true, true, true, true, true, true, true, true, true, true, true, true, true, true, true, true, true, true, true, true, true, true, true, true] rfl rfl rfl rfl (by kernel_rfl) (fun _ _ _ h => h) (fun _ => (r_assign hS738 rfl rfl)) fun a740 hS740 => d_done (by kernel_rfl) ?_
          exact ⟨g739, b735, A716, cap717, A722, cap723, A728, cap729, hS740.re ⟨rfl, trivial⟩, h718, h724, h730, h736, hb0, hf0_Done, hf0_N, hf0_R, hF⟩
      · rintro _ a744 w745 g745 ⟨⟨A741, rfl, h742⟩, F745⟩ hS744
        have hC745 := hC563.trans F745 (fun _ h => h.elim)
        replace h560 := OwS.fr h560 F745 (fun _ _ h => h)
        replace hb0 := hb0.fr F745 (fun h => h)
        replace hf0_Done := OwS.fr hf0_Done F745 (fun _ _ h => h)
        replace hf0_N := OwS.fr hf0_N F745 (fun _ _ h => h)
        replace hf0_R := OwS.fr hf0_R F745 (fun _ _ h => h)
        replace hF := hF.trans F745 (fun _ h => h.elim)
        refine d_two 5 6 #[true, true, true, true, true, true, false, true, true, true, true, false, true, true, true, true, true, false, true, true, true, true, false, false, false] #[true, true, true, true, true, false, true, true, true, true, true, false, true, true, true, true, true, false, true, true, true, true, false, false, false] rfl rfl (by kernel_rfl) (arm_eff hS744 rfl rfl rfl (e_append (e := 35) (sz := 3) (by_ := 24) (z := [.int .i64 0, .int .u64 0, .int .u64 0]) (kd := kd_api_Rail) g745 hS744 rfl rfl rfl rfl (by kernel_rfl) (by kernel_rfl) rfl rfl rfl rfl h560 (OwD.rdx hf0_R) (fun _ _ _ h => h) hy6) (fun _ _ g' hR _ => ⟨g', hC745.trans hR.2 (fun c' (hm : c' = N + 0) => by show c' = N + 0 ∨ c' = N + 2 ∨ c' = N + 4; omega)⟩) ?_) (arm_eff hS744 rfl rfl rfl (e_lit (e := 3) (parts := []) (cs := []) (kint .i64) ([] : List Int) (N + 2) g745 hS744 rfl rfl (fun _ => by kernel_rfl) rfl (by decide) Rows.nil) (fun _ _ g' hR _ => ⟨g', hC745.trans hR.2 (fun _ h => h.elim)⟩) ?_)
        · rintro _ a750 w751 g751 ⟨⟨A746, cap747, rfl, h748⟩, F751⟩ hS750
          have hC751 := hC745.trans F751 (fun c' (hm : c' = N + 0) => by show c' = N + 0 ∨ c' = N + 2 ∨ c' = N + 4; omega)
          replace h742 := OwS.fr h742 F751 (fun c' hc (hm : c' = N + 0) => by omega)
          replace hb0 := hb0.fr F751 (fun (hm : c0 = N + 0) => by omega)
          replace hf0_Done := OwS.fr hf0_Done F751 (fun c' hc (hm : c' = N + 0) => by omega)
          replace hf0_N := OwS.fr hf0_N F751 (fun c' hc (hm : c' = N + 0) => by omega)
          replace hf0_R := OwS.fr hf0_R F751 (fun c' hc (hm : c' = N + 0) => by omega)
          replace hF := hF.trans F751 (fun c' (hm : c' = N + 0) => by show (r0 ≤ c' ∧ c' < r0 + 7) ∨ N ≤ c'; omega)
          refine d_one 6 #[true, true, true, true, true, true, true, true, true, true, true, false, true, true, true, true, true, false, true, true, true, true, false, false, false] rfl (by kernel_rfl) (arm_eff hS750 rfl rfl rfl (e_lit (e := 3) (parts := []) (cs := []) (kint .i64) ([] : List Int) (N + 2) g751 hS750 rfl rfl (fun _ => by kernel_rfl) rfl (by decide) Rows.nil) (fun _ _ g' hR _ => ⟨g', hC751.trans hR.2 (fun _ h => h.elim)⟩) ?_)
          rintro _ a755 w756 g756 ⟨⟨A752, rfl, h753⟩, F756⟩ hS755
          have hC756 := hC751.trans F756 (fun _ h => h.elim)
          replace h742 := OwS.fr h742 F756 (fun _ _ h => h)
          replace h748 := OwS.fr h748 F756 (fun _ _ h => h)
          replace hb0 := hb0.fr F756 (fun h => h)
          replace hf0_Done := OwS.fr hf0_Done F756 (fun _ _ h => h)
          replace hf0_N := OwS.fr hf0_N F756 (fun _ _ h => h)
          replace hf0_R := OwS.fr hf0_R F756 (fun _ _ h => h)
          replace hF := hF.trans F756 (fun _ h => h.elim)
          refine d_one 11 #[true, true, true, true, true, true, true, true, true, true, true, true, true, true, true, true, true, false, true, true, true, true, false, false, false] rfl (by kernel_rfl) (arm_eff hS755 rfl rfl rfl (e_append (e := 3) (sz := 1) (by_ := 8) (z := [.int .i64 0]) (kd := (kint .i64)) g756 hS755 rfl rfl rfl rfl (by kernel_rfl) (by kernel_rfl) rfl rfl rfl rfl h753 (OwD.rdx hf0_N) (fun _ _ _ h => h) hy15) (fun _ _ g' hR _ => ⟨g', hC756.trans hR.2 (fun c' (hm : c' = N + 2) => by show c' = N + 0 ∨ c' = N + 2 ∨ c' = N + 4; omega)⟩) ?_)
          rintro _ a761 w762 g762 ⟨⟨A757, cap758, rfl, h759⟩, F762⟩ hS761
          have hC762 := hC756.trans F762 (fun c' (hm : c' = N + 2) => by show c' = N + 0 ∨ c' = N + 2 ∨ c' = N + 4; omega)
          replace h742 := OwS.fr h742 F762 (fun c' hc (hm : c' = N + 2) => by omega)
          replace h748 := OwS.fr h748 F762 (fun c' hc (hm : c' = N + 2) => by omega)
          replace hb0 := hb0.fr F762 (fun (hm : c0 = N + 2) => by omega)
          replace hf0_Done := OwS.fr hf0_Done F762 (fun c' hc (hm : c' = N + 2) => by omega)
          replace hf0_N := OwS.fr hf0_N F762 (fun c' hc (hm : c' = N + 2) => by omega)
          replace hf0_R := OwS.fr hf0_R F762 (fun c' hc (hm : c' = N + 2) => by omega)
          replace hF := hF.trans F762 (fun c' (hm : c' = N + 2) => by show (r0 ≤ c' ∧ c' < r0 + 7) ∨ N ≤ c'; omega)
          refine d_one 17 #[true, true, true, true, true, true, true, true, true, true, true, true, true, true, true, true, true, true, true, true, true, true, false, false, false] rfl (by kernel_rfl) (arm_eff hS761 rfl rfl rfl (e_append (e := 33) (sz := 1) (by_ := 8) (z := [.int .u64 0]) (kd := (kint .u64)) g762 hS761 rfl rfl rfl rfl (by kernel_rfl) (by kernel_rfl) rfl rfl rfl rfl h742 (OwD.rdx hf0_Done) (fun _ _ _ h => h) hy24) (fun _ _ g' hR _ => ⟨g', hC762.trans hR.2 (fun c' (hm : c' = N + 4) => by show c' = N + 0 ∨ c' = N + 2 ∨ c' = N + 4; omega)⟩) ?_)
          rintro _ a767 w768 g768 ⟨⟨A763, cap764, rfl, h765⟩, F768⟩ hS767
          have hC768 := hC762.trans F768 (fun c' (hm : c' = N + 4) => by show c' = N + 0 ∨ c' = N + 2 ∨ c' = N + 4; omega)
          replace h748 := OwS.fr h748 F768 (fun c' hc (hm : c' = N + 4) => by omega)
          replace h759 := OwS.fr h759 F768 (fun c' hc (hm : c' = N + 4) => by omega)
          replace hb0 := hb0.fr F768 (fun (hm : c0 = N + 4) => by omega)
          replace hf0_Done := OwS.fr hf0_Done F768 (fun c' hc (hm : c' = N + 4) => by omega)
          replace hf0_N := OwS.fr hf0_N F768 (fun c' hc (hm : c' = N + 4) => by omega)
          replace hf0_R := OwS.fr hf0_R F768 (fun c' hc (hm : c' = N + 4) => by omega)
          replace hF := hF.trans F768 (fun c' (hm : c' = N + 4) => by show (r0 ≤ c' ∧ c' < r0 + 7) ∨ N ≤ c'; omega)
          refine d_pure hS767 22 #[true, true, true, true, true, true, true, true, true, true, true, true, true, true, true, true, true, true, true, true, true, true, true, false, false] rfl rfl rfl rfl (by kernel_rfl) (fun _ _ _ h => h) (fun _ => (r_build (parts := [(0, .slice A746 y5.length cap747), (1, .slice A757 y14.length cap758), (2, .slice A763 y23.length cap764), (3, .int .u64 p0.Clock)]) (u := .agg #[.slice A746 y5.length cap747, .slice A757 y14.length cap758, .slice A763 y23.length cap764, .int .u64 p0.Clock]) hS767 rfl rfl (fun _ => by kernel_rfl))) fun a769 hS769 => ?_
          refine d_one 23 #[true, true, true, true, true, true, true, true, true, true, true, true, true, true, true, true, true, true, true, true, true, true, true, true, false] rfl (by kernel_rfl) (arm_eff hS769 rfl rfl rfl (e_box (cs := [.slice A746 y5.length cap747, .slice A757 y14.length cap758, .slice A763 y23.length cap764, .int .u64 p0.Clock]) (N + 6) g768 hS769 rfl rfl rfl) (fun _ _ g' hR _ => ⟨g', hC768.trans hR.2 (fun _ h => h.elim)⟩) ?_)
          rintro _ a773 w774 g774 ⟨⟨b770, rfl, h771⟩, F774⟩ hS773
          have hC774 := hC768.trans F774 (fun _ h => h.elim)
          replace h748 := OwS.fr h748 F774 (fun _ _ h => h)
          replace h759 := OwS.fr h759 F774 (fun _ _ h => h)
          replace h765 := OwS.fr h765 F774 (fun _ _ h => h)
          replace hb0 := hb0.fr F774 (fun h => h)
          replace hf0_Done := OwS.fr hf0_Done F774 (fun _ _ h => h)
          replace hf0_N := OwS.fr hf0_N F774 (fun _ _ h => h)
          replace hf0_R := OwS.fr hf0_R F774 (fun _ _ h => h)
          replace hF := hF.trans F774 (fun _ h => h.elim)
          refine d_pure hS773 24 #[true, true, true, true, true, true, true, true, true, true, true, true, true, true, true, true, true, true, true, true, true, true, true, true, true] rfl rfl rfl rfl (by kernel_rfl) (fun _ _ _ h => h) (fun _ => (r_assign hS773 rfl rfl)) fun a775 hS775 => d_done (by kernel_rfl) ?_
          exact ⟨g774, b770, A746, cap747, A757, cap758, A763, cap764, hS775.re ⟨rfl, trivial⟩, h748, h759, h765, h771, hb0, hf0_Done, hf0_N, hf0_R, hF⟩
        · rintro _ a779 w780 g780 ⟨⟨A776, rfl, h777⟩, F780⟩ hS779
          have hC780 := hC745.trans F780 (fun _ h => h.elim)
          replace h560 := OwS.fr h560 F780 (fun _ _ h => h)
          replace h742 := OwS.fr h742 F780 (fun _ _ h => h)
          replace hb0 := hb0.fr F780 (fun h => h)
          replace hf0_Done := OwS.fr hf0_Done F780 (fun _ _ h => h)
          replace hf0_N := OwS.fr hf0_N F780 (fun _ _ h => h)
          replace hf0_R := OwS.fr hf0_R F780 (fun _ _ h => h)
          replace hF := hF.trans F780 (fun _ h => h.elim)
          refine d_one 5 #[true, true, true, true, true, true, true, true, true, true, true, false, true, true, true, true, true, false, true, true, true, true, false, false, false] rfl (by kernel_rfl) (arm_eff hS779 rfl rfl rfl (e_append (e := 35) (sz := 3) (by_ := 24) (z := [.int .i64 0, .int .u64 0, .int .u64 0]) (kd := kd_api_Rail) g780 hS779 rfl rfl rfl rfl (by kernel_rfl) (by kernel_rfl) rfl rfl rfl rfl h560 (OwD.rdx hf0_R) (fun _ _ _ h => h) hy6) (fun _ _ g' hR _ => ⟨g', hC780.trans hR.2 (fun c' (hm : c' = N + 0) => by show c' = N + 0 ∨ c' = N + 2 ∨ c' = N + 4; omega)⟩) ?_)
          rintro _ a785 w786 g786 ⟨⟨A781, cap782, rfl, h783⟩, F786⟩ hS785
          have hC786 := hC780.trans F786 (fun c' (hm : c' = N + 0) => by show c' = N + 0 ∨ c' = N + 2 ∨ c' = N + 4; omega)
          replace h742 := OwS.fr h742 F786 (fun c' hc (hm : c' = N + 0) => by omega)
          replace h777 := OwS.fr h777 F786 (fun c' hc (hm : c' = N + 0) => by omega)
          replace hb0 := hb0.fr F786 (fun (hm : c0 = N + 0) => by omega)
          replace hf0_Done := OwS.fr hf0_Done F786 (fun c' hc (hm : c' = N + 0) => by omega)
          replace hf0_N := OwS.fr hf0_N F786 (fun c' hc (hm : c' = N + 0) => by omega)
          replace hf0_R := OwS.fr hf0_R F786 (fun c' hc (hm : c' = N + 0) => by omega)
          replace hF := hF.trans F786 (fun c' (hm : c' = N + 0) => by show (r0 ≤ c' ∧ c' < r0 + 7) ∨ N ≤ c'; omega)
          refine d_one 11 #[true, true, true, true, true, true, true, true, true, true, true, true, true, true, true, true, true, false, true, true, true, true, false, false, false] rfl (by kernel_rfl) (arm_eff hS785 rfl rfl rfl (e_append (e := 3) (sz := 1) (by_ := 8) (z := [.int .i64 0]) (kd := (kint .i64)) g786 hS785 rfl rfl rfl rfl (by kernel_rfl) (by kernel_rfl) rfl rfl rfl rfl h777 (OwD.rdx hf0_N) (fun _ _ _ h => h) hy15) (fun _ _ g' hR _ => ⟨g', hC786.trans hR.2 (fun c' (hm : c' = N + 2) => by show c' = N + 0 ∨ c' = N + 2 ∨ c' = N + 4; omega)⟩) ?_)
          rintro _ a791 w792 g792 ⟨⟨A787, cap788, rfl, h789⟩, F792⟩ hS791
          have hC792 := hC786.trans F792 (fun c' (hm : c' = N + 2) => by show c' = N + 0 ∨ c' = N + 2 ∨ c' = N + 4; omega)
          replace h742 := OwS.fr h742 F792 (fun c' hc (hm : c' = N + 2) => by omega)
          replace h783 := OwS.fr h783 F792 (fun c' hc (hm : c' = N + 2) => by omega)
          replace hb0 := hb0.fr F792 (fun (hm : c0 = N + 2) => by omega)
          replace hf0_Done := OwS.fr hf0_Done F792 (fun c' hc (hm : c' = N + 2) => by omega)
          replace hf0_N := OwS.fr hf0_N F792 (fun c' hc (hm : c' = N + 2) => by omega)
          replace hf0_R := OwS.fr hf0_R F792 (fun c' hc (hm : c' = N + 2) => by omega)
          replace hF := hF.trans F792 (fun c' (hm : c' = N + 2) => by show (r0 ≤ c' ∧ c' < r0 + 7) ∨ N ≤ c'; omega)
          refine d_one 17 #[true, true, true, true, true, true, true, true, true, true, true, true, true, true, true, true, true, true, true, true, true, true, false, false, false] rfl (by kernel_rfl) (arm_eff hS791 rfl rfl rfl (e_append (e := 33) (sz := 1) (by_ := 8) (z := [.int .u64 0]) (kd := (kint .u64)) g792 hS791 rfl rfl rfl rfl (by kernel_rfl) (by kernel_rfl) rfl rfl rfl rfl h742 (OwD.rdx hf0_Done) (fun _ _ _ h => h) hy24) (fun _ _ g' hR _ => ⟨g', hC792.trans hR.2 (fun c' (hm : c' = N + 4) => by show c' = N + 0 ∨ c' = N + 2 ∨ c' = N + 4; omega)⟩) ?_)
          rintro _ a797 w798 g798 ⟨⟨A793, cap794, rfl, h795⟩, F798⟩ hS797
          have hC798 := hC792.trans F798 (fun c' (hm : c' = N + 4) => by show c' = N + 0 ∨ c' = N + 2 ∨ c' = N + 4; omega)
          replace h783 := OwS.fr h783 F798 (fun c' hc (hm : c' = N + 4) => by omega)
          replace h789 := OwS.fr h789 F798 (fun c' hc (hm : c' = N + 4) => by omega)
          replace hb0 := hb0.fr F798 (fun (hm : c0 = N + 4) => by omega)
          replace hf0_Done := OwS.fr hf0_Done F798 (fun c' hc (hm : c' = N + 4) => by omega)
          replace hf0_N := OwS.fr hf0_N F798 (fun c' hc (hm : c' = N + 4) => by omega)
          replace hf0_R := OwS.fr hf0_R F798 (fun c' hc (hm : c' = N + 4) => by omega)
          replace hF := hF.trans F798 (fun c' (hm : c' = N + 4) => by show (r0 ≤ c' ∧ c' < r0 + 7) ∨ N ≤ c'; omega)
          refine d_pure hS797 22 #[true, true, true, true, true, true, true, true, true, true, true, true, true, true, true, true, true, true, true, true, true, true, true, false, false] rfl rfl rfl rfl (by kernel_rfl) (fun _ _ _ h => h) (fun _ => (r_build (parts := [(0, .slice A781 y5.length cap782), (1, .slice A787 y14.length cap788), (2, .slice A793 y23.length cap794), (3, .int .u64 p0.Clock)]) (u := .agg #[.slice A781 y5.length cap782, .slice A787 y14.length cap788, .slice A793 y23.length cap794, .int .u64 p0.Clock]) hS797 rfl rfl (fun _ => by kernel_rfl))) fun a799 hS799 => ?_
          refine d_one 23 #[true, true, true, true, true, true, true, true, true, true, true, true, true, true, true, true, true, true, true, true, true, true, true, true, false] rfl (by kernel_rfl) (arm_eff hS799 rfl rfl rfl (e_box (cs := [.slice A781 y5.length cap782, .slice A787 y14.length cap788, .slice A793 y23.length cap794, .int .u64 p0.Clock]) (N + 6) g798 hS799 rfl rfl rfl) (fun _ _ g' hR _ => ⟨g', hC798.trans hR.2 (fun _ h => h.elim)⟩) ?_)
          rintro _ a803 w804 g804 ⟨⟨b800, rfl, h801⟩, F804⟩ hS803
          have hC804 := hC798.trans F804 (fun _ h => h.elim)
          replace h783 := OwS.fr h783 F804 (fun _ _ h => h)
          replace h789 := OwS.fr h789 F804 (fun _ _ h => h)
          replace h795 := OwS.fr h795 F804 (fun _ _ h => h)
          replace hb0 := hb0.fr F804 (fun h => h)
          replace hf0_Done := OwS.fr hf0_Done F804 (fun _ _ h => h)
          replace hf0_N := OwS.fr hf0_N F804 (fun _ _ h => h)
          replace hf0_R := OwS.fr hf0_R F804 (fun _ _ h => h)
          replace hF := hF.trans F804 (fun _ h => h.elim)
          refine d_pure hS803 24 #[true, true, true, true, true, true, true, true, true, true, true, true, true, true, true, true, true, true, true, true, true, true, true, true, true] rfl rfl rfl rfl (by kernel_rfl) (fun _ _ _ h => h) (fun _ => (r_assign hS803 rfl rfl)) fun a805 hS805 => d_done (by kernel_rfl) ?_
          exact ⟨g804, b800, A781, cap782, A787, cap788, A793, cap794, hS805.re ⟨rfl, trivial⟩, h783, h789, h795, h801, hb0, hf0_Done, hf0_N, hf0_R, hF⟩
    · rintro _ a809 w810 g810 ⟨⟨A806, rfl, h807⟩, F810⟩ hS809
      have hC810 := hC.trans F810 (fun _ h => h.elim)
      replace hb0 := hb0.fr F810 (fun h => h)
      replace hf0_Done := OwS.fr hf0_Done F810 (fun _ _ h => h)
      replace hf0_N := OwS.fr hf0_N F810 (fun _ _ h => h)
      replace hf0_R := OwS.fr hf0_R F810 (fun _ _ h => h)
      replace hF := hF.trans F810 (fun _ h => h.elim)
      refine d_two 0 12 #[true, true, true, true, true, false, true, true, true, true, true, false, false, true, true, true, true, false, true, true, true, true, false, false, false] #[false, true, true, true, true, false, true, true, true, true, true, false, true, true, true, true, true, false, true, true, true, true, false, false, false] rfl rfl (by kernel_rfl) (arm_eff hS809 rfl rfl rfl (e_lit (e := 35) (parts := []) (cs := []) kd_api_Rail ([] : List api_Rail) (N + 0) g810 hS809 rfl rfl (fun _ => by kernel_rfl) rfl (by decide) Rows.nil) (fun _ _ g' hR _ => ⟨g', hC810.trans hR.2 (fun _ h => h.elim)⟩) ?_) (arm_eff hS809 rfl rfl rfl (e_lit (e := 33) (parts := []) (cs := []) (kint .u64) ([] : List Int) (N + 4) g810 hS809 rfl rfl (fun _ => by kernel_rfl) rfl (by decide) Rows.nil) (fun _ _ g' hR _ => ⟨g', hC810.trans hR.2 (fun _ h => h.elim)⟩) ?_)
      · rintro _ a814 w815 g815 ⟨⟨A811, rfl, h812⟩, F815⟩ hS814
        have hC815 := hC810.trans F815 (fun _ h => h.elim)
        replace h807 := OwS.fr h807 F815 (fun _ _ h => h)
        replace hb0 := hb0.fr F815 (fun h => h)
        replace hf0_Done := OwS.fr hf0_Done F815 (fun _ _ h => h)
        replace hf0_N := OwS.fr hf0_N F815 (fun _ _ h => h)
        replace hf0_R := OwS.fr hf0_R F815 (fun _ _ h => h)
        replace hF := hF.trans F815 (fun _ h => h.elim)
        refine d_two 5 12 #[true, true, true, true, true, true, true, true, true, true, true, false, false, true, true, true, true, false, true, true, true, true, false, false, false] #[true, true, true, true, true, false, true, true, true, true, true, false, true, true, true, true, true, false, true, true, true, true, false, false, false] rfl rfl (by kernel_rfl) (arm_eff hS814 rfl rfl rfl (e_append (e := 35) (sz := 3) (by_ := 24) (z := [.int .i64 0, .int .u64 0, .int .u64 0]) (kd := kd_api_Rail) g815 hS814 rfl rfl rfl rfl (by kernel_rfl) (by kernel_rfl) rfl rfl rfl rfl h812 (OwD.rdx hf0_R) (fun _ _ _ h => h) hy6) (fun _ _ g' hR _ => ⟨g', hC815.trans hR.2 (fun c' (hm : c' = N + 0) => by show c' = N + 0 ∨ c' = N + 2 ∨ c' = N + 4; omega)⟩) ?_) (arm_eff hS814 rfl rfl rfl (e_lit (e := 33) (parts := []) (cs := []) (kint .u64) ([] : List Int) (N + 4) g815 hS814 rfl rfl (fun _ => by kernel_rfl) rfl (by decide) Rows.nil) (fun _ _ g' hR _ => ⟨g', hC815.trans hR.2 (fun _ h => h.elim)⟩) ?_)
        · rintro _ a820 w821 g821 ⟨⟨A816, cap817, rfl, h818⟩, F821⟩ hS820
          have hC821 := hC815.trans F821 (fun c' (hm : c' = N + 0) => by show c' = N + 0 ∨ c' = N + 2 ∨ c' = N + 4; omega)
          replace h807 := OwS.fr h807 F821 (fun c' hc (hm : c' = N + 0) => by omega)
          replace hb0 := hb0.fr F821 (fun (hm : c0 = N + 0) => by omega)
          replace hf0_Done := OwS.fr hf0_Done F821 (fun c' hc (hm : c' = N + 0) => by omega)
          replace hf0_N := OwS.fr hf0_N F821 (fun c' hc (hm : c' = N + 0) => by omega)
          replace hf0_R := OwS.fr hf0_R F821 (fun c' hc (hm : c' = N + 0) => by omega)
          replace hF := hF.trans F821 (fun c' (hm : c' = N + 0) => by show (r0 ≤ c' ∧ c' < r0 + 7) ∨ N ≤ c'; omega)
          refine d_two 11 12 #[true, true, true, true, true, true, true, true, true, true, true, true, false, true, true, true, true, false, true, true, true, true, false, false, false] #[true, true, true, true, true, true, true, true, true, true, true, false, true, true, true, true, true, false, true, true, true, true, false, false, false] rfl rfl (by kernel_rfl) (arm_eff hS820 rfl rfl rfl (e_append (e := 3) (sz := 1) (by_ := 8) (z := [.int .i64 0]) (kd := (kint .i64)) g821 hS820 rfl rfl rfl rfl (by kernel_rfl) (by kernel_rfl) rfl rfl rfl rfl h807 (OwD.rdx hf0_N) (fun _ _ _ h => h) hy15) (fun _ _ g' hR _ => ⟨g', hC821.trans hR.2 (fun c' (hm : c' = N + 2) => by show c' = N + 0 ∨ c' = N + 2 ∨ c' = N + 4; omega)⟩) ?_) (arm_eff hS820 rfl rfl rfl (e_lit (e := 33) (parts := []) (cs := []) (kint .u64) ([] : List Int) (N + 4) g821 hS820 rfl rfl (fun _ => by kernel_rfl) rfl (by decide) Rows.nil) (fun _ _ g' hR _ => ⟨g', hC821.trans hR.2 (fun _ h => h.elim)⟩) ?_)
          · rintro _ a826 w827 g827 ⟨⟨A822, cap823, rfl, h824⟩, F827⟩ hS826
            have hC827 := hC821.trans F827 (fun c' (hm : c' = N + 2) => by show c' = N + 0 ∨ c' = N + 2 ∨ c' = N + 4; omega)
            replace h818 := OwS.fr h818 F827 (fun c' hc (hm : c' = N + 2) => by omega)
            replace hb0 := hb0.fr F827 (fun (hm : c0 = N + 2) => by omega)
            replace hf0_Done := OwS.fr hf0_Done F827 (fun c' hc (hm : c' = N + 2) => by omega)
            replace hf0_N := OwS.fr hf0_N F827 (fun c' hc (hm : c' = N + 2) => by omega)
            replace hf0_R := OwS.fr hf0_R F827 (fun c' hc (hm : c' = N + 2) => by omega)
            replace hF := hF.trans F827 (fun c' (hm : c' = N + 2) => by show (r0 ≤ c' ∧ c' < r0 + 7) ∨ N ≤ c'; omega)
            refine d_one 12 #[true, true, true, true, true, true, true, true, true, true, true, true, true, true, true, true, true, false, true, true, true, true, false, false, false] rfl (by kernel_rfl) (arm_eff hS826 rfl rfl rfl (e_lit (e := 33) (parts := []) (cs := []) (kint .u64) ([] : List Int) (N + 4) g827 hS826 rfl rfl (fun _ => by kernel_rfl) rfl (by decide) Rows.nil) (fun _ _ g' hR _ => ⟨g', hC827.trans hR.2 (fun _ h => h.elim)⟩) ?_)
            rintro _ a831 w832 g832 ⟨⟨A828, rfl, h829⟩, F832⟩ hS831
            have hC832 := hC827.trans F832 (fun _ h => h.elim)
            replace h818 := OwS.fr h818 F832 (fun _ _ h => h)
            replace h824 := OwS.fr h824 F832 (fun _ _ h => h)
            replace hb0 := hb0.fr F832 (fun h => h)
            replace hf0_Done := OwS.fr hf0_Done F832 (fun _ _ h => h)
            replace hf0_N := OwS.fr hf0_N F832 (fun _ _ h => h)
            replace hf0_R := OwS.fr hf0_R F832 (fun _ _ h => h)
            replace hF := hF.trans F832 (fun _ h => h.elim)
            refine d_one 17 #[true, true, true, true, true, true, true, true, true, true, true, true, true, true, true, true, true, true, true, true, true, true, false, false, false] rfl (by kernel_rfl) (arm_eff hS831 rfl rfl rfl (e_append (e := 33) (sz := 1) (by_ := 8) (z := [.int .u64 0]) (kd := (kint .u64)) g832 hS831 rfl rfl rfl rfl (by kernel_rfl) (by kernel_rfl) rfl rfl rfl rfl h829 (OwD.rdx hf0_Done) (fun _ _ _ h => h) hy24) (fun _ _ g' hR _ => ⟨g', hC832.trans hR.2 (fun c' (hm : c' = N + 4) => by show c' = N + 0 ∨ c' = N + 2 ∨ c' = N + 4; omega)⟩) ?_)
            rintro _ a837 w838 g838 ⟨⟨A833, cap834, rfl, h835⟩, F838⟩ hS837
            have hC838 := hC832.trans F838 (fun c' (hm : c' = N + 4) => by show c' = N + 0 ∨ c' = N + 2 ∨ c' = N + 4; omega)
            replace h818 := OwS.fr h818 F838 (fun c' hc (hm : c' = N + 4) => by omega)
            replace h824 := OwS.fr h824 F838 (fun c' hc (hm : c' = N + 4) => by omega)
            replace hb0 := hb0.fr F838 (fun (hm : c0 = N + 4) => by omega)
            replace hf0_Done := OwS.fr hf0_Done F838 (fun c' hc (hm : c' = N + 4) => by omega)
            replace hf0_N := OwS.fr hf0_N F838 (fun c' hc (hm : c' = N + 4) => by omega)
            replace hf0_R := OwS.fr hf0_R F838 (fun c' hc (hm : c' = N + 4) => by omega)
            replace hF := hF.trans F838 (fun c' (hm : c' = N + 4) => by show (r0 ≤ c' ∧ c' < r0 + 7) ∨ N ≤ c'; omega)
            refine d_pure hS837 22 #[true, true, true, true, true, true, true, true, true, true, true, true, true, true, true, true, true, true, true, true, true, true, true, false, false] rfl rfl rfl rfl (by kernel_rfl) (fun _ _ _ h => h) (fun _ => (r_build (parts := [(0, .slice A816 y5.length cap817), (1, .slice A822 y14.length cap823), (2, .slice A833 y23.length cap834), (3, .int .u64 p0.Clock)]) (u := .agg #[.slice A816 y5.length cap817, .slice A822 y14.length cap823, .slice A833 y23.length cap834, .int .u64 p0.Clock]) hS837 rfl rfl (fun _ => by kernel_rfl))) fun a839 hS839 => ?_
            refine d_one 23 #[true, true, true, true, true, true, true, true, true, true, true, true, true, true, true, true, true, true, true, true, true, true, true, true, false] rfl (by kernel_rfl) (arm_eff hS839 rfl rfl rfl (e_box (cs := [.slice A816 y5.length cap817, .slice A822 y14.length cap823, .slice A833 y23.length cap834, .int .u64 p0.Clock]) (N + 6) g838 hS839 rfl rfl rfl) (fun _ _ g' hR _ => ⟨g', hC838.trans hR.2 (fun _ h => h.elim)⟩) ?_)
            rintro _ a843 w844 g844 ⟨⟨b840, rfl, h841⟩, F844⟩ hS843
            have hC844 := hC838.trans F844 (fun _ h => h.elim)
            replace h818 := OwS.fr h818 F844 (fun _ _ h => h)
            replace h824 := OwS.fr h824 F844 (fun _ _ h => h)
            replace h835 := OwS.fr h835 F844 (fun _ _ h => h)
            replace hb0 := hb0.fr F844 (fun h => h)
            replace hf0_Done := OwS.fr hf0_Done F844 (fun _ _ h => h)
            replace hf0_N := OwS.fr hf0_N F844 (fun _ _ h => h)
            replace hf0_R := OwS.fr hf0_R F844 (fun _ _ h => h)
            replace hF := hF.trans F844 (fun _ h => h.elim)
            refine d_pure hS843 24 #[true, true, true, true, true, true, true, true, true, true, true, true, true, true, true, true, true, true, true, true, true, true, true, true, true] rfl rfl rfl rfl (by kernel_rfl) (fun _ _ _ h => h) (fun _ => (r_assign hS843 rfl rfl)) fun a845 hS845 => d_done (by kernel_rfl) ?_
            exact ⟨g844, b840, A816, cap817, A822, cap823, A833, cap834, hS845.re ⟨rfl, trivial⟩, h818, h824, h835, h841, hb0, hf0_Done, hf0_N, hf0_R, hF⟩
          · rintro _ a849 w850 g850 ⟨⟨A846, rfl, h847⟩, F850⟩ hS849
            have hC850 := hC821.trans F850 (fun _ h => h.elim)
            replace h807 := OwS.fr h807 F850 (fun _ _ h => h)
            replace h818 := OwS.fr h818 F850 (fun _ _ h => h)
            replace hb0 := hb0.fr F850 (fun h => h)
            replace hf0_Done := OwS.fr hf0_Done F850 (fun _ _ h => h)
            replace hf0_N := OwS.fr hf0_N F850 (fun _ _ h => h)
            replace hf0_R := OwS.fr hf0_R F850 (fun _ _ h => h)
            replace hF := hF.trans F850 (fun _ h => h.elim)
            refine d_one 11 #[true, true, true, true, true, true, true, true, true, true, true, true, true, true, true, true, true, false, true, true, true, true, false, false, false] rfl (by kernel_rfl) (arm_eff hS849 rfl rfl rfl (e_append (e := 3) (sz := 1) (by_ := 8) (z := [.int .i64 0]) (kd := (kint .i64)) g850 hS849 rfl rfl rfl rfl (by kernel_rfl) (by kernel_rfl) rfl rfl rfl rfl h807 (OwD.rdx hf0_N) (fun _ _ _ h => h) hy15) (fun _ _ g' hR _ => ⟨g', hC850.trans hR.2 (fun c' (hm : c' = N + 2) => by show c' = N + 0 ∨ c' = N + 2 ∨ c' = N + 4; omega)⟩) ?_)
            rintro _ a855 w856 g856 ⟨⟨A851, cap852, rfl, h853⟩, F856⟩ hS855
            have hC856 := hC850.trans F856 (fun c' (hm : c' = N + 2) => by show c' = N + 0 ∨ c' = N + 2 ∨ c' = N + 4; omega)
            replace h818 := OwS.fr h818 F856 (fun c' hc (hm : c' = N + 2) => by omega)
            replace h847 := OwS.fr h847 F856 (fun c' hc (hm : c' = N + 2) => by omega)
            replace hb0 := hb0.fr F856 (fun (hm : c0 = N + 2) => by omega)
            replace hf0_Done := OwS.fr hf0_Done F856 (fun c' hc (hm : c' = N + 2) => by omega)
            replace hf0_N := OwS.fr hf0_N F856 (fun c' hc (hm : c' = N + 2) => by omega)
            replace hf0_R := OwS.fr hf0_R F856 (fun c' hc (hm : c' = N + 2) => by omega)
            replace hF := hF.trans F856 (fun c' (hm : c' = N + 2) => by show (r0 ≤ c' ∧ c' < r0 + 7) ∨ N ≤ c'; omega)
            refine d_one 17 #[true, true, true, true, true, true, true, true, true, true, true, true, true, true, true, true, true, true, true, true, true, true, false, false, false] rfl (by kernel_rfl) (arm_eff hS855 rfl rfl rfl (e_append (e := 33) (sz := 1) (by_ := 8) (z := [.int .u64 0]) (kd := (kint .u64)) g856 hS855 rfl rfl rfl rfl (by kernel_rfl) (by kernel_rfl) rfl rfl rfl rfl h847 (OwD.rdx hf0_Done) (fun _ _ _ h => h) hy24) (fun _ _ g' hR _ => ⟨g', hC856.trans hR.2 (fun c' (hm : c' = N + 4) => by show c' = N + 0 ∨ c' = N + 2 ∨ c' = N + 4; omega)⟩) ?_)
            rintro _ a861 w862 g862 ⟨⟨A857, cap858, rfl, h859⟩, F862⟩ hS861
            have hC862 := hC856.trans F862 (fun c' (hm : c' = N + 4) => by show c' = N + 0 ∨ c' = N + 2 ∨ c' = N + 4; omega)
            replace h818 := OwS.fr h818 F862 (fun c' hc (hm : c' = N + 4) => by omega)
            replace h853 := OwS.fr h853 F862 (fun c' hc (hm : c' = N + 4) => by omega)
            replace hb0 := hb0.fr F862 (fun (hm : c0 = N + 4) => by omega)
            replace hf0_Done := OwS.fr hf0_Done F862 (fun c' hc (hm : c' = N + 4) => by omega)
            replace hf0_N := OwS.fr hf0_N F862 (fun c' hc (hm : c' = N + 4) => by omega)
            replace hf0_R := OwS.fr hf0_R F862 (fun c' hc (hm : c' = N + 4) => by omega)
            replace hF := hF.trans F862 (fun c' (hm : c' = N + 4) => by show (r0 ≤ c' ∧ c' < r0 + 7) ∨ N ≤ c'; omega)
            refine d_pure hS861 22 #[true, true, true, true, true, true, true, true, true, true, true, true, true, true, true, true, true, true, true, true, true, true, true, false, false] rfl rfl rfl rfl (by kernel_rfl) (fun _ _ _ h => h) (fun _ => (r_build (parts := [(0, .slice A816 y5.length cap817), (1, .slice A851 y14.length cap852), (2, .slice A857 y23.length cap858), (3, .int .u64 p0.Clock)]) (u := .agg #[.slice A816 y5.length cap817, .slice A851 y14.length cap852, .slice A857 y23.length cap858, .int .u64 p0.Clock]) hS861 rfl rfl (fun _ => by kernel_rfl))) fun a863 hS863 => ?_
            refine d_one 23 #[true, true, true, true, true, true, true, true, true, true, true, true, true, true, true, true, true, true, true, true, true, true, true, true, false] rfl (by kernel_rfl) (arm_eff hS863 rfl rfl rfl (e_box (cs := [.slice A816 y5.length cap817, .slice A851 y14.length cap852, .slice A857 y23.length cap858, .int .u64 p0.Clock]) (N + 6) g862 hS863 rfl rfl rfl) (fun _ _ g' hR _ => ⟨g', hC862.trans hR.2 (fun _ h => h.elim)⟩) ?_)
            rintro _ a867 w868 g868 ⟨⟨b864, rfl, h865⟩, F868⟩ hS867
            have hC868 := hC862.trans F868 (fun _ h => h.elim)
            replace h818 := OwS.fr h818 F868 (fun _ _ h => h)
            replace h853 := OwS.fr h853 F868 (fun _ _ h => h)
            replace h859 := OwS.fr h859 F868 (fun _ _ h => h)
            replace hb0 := hb0.fr F868 (fun h => h)
            replace hf0_Done := OwS.fr hf0_Done F868 (fun _ _ h => h)
            replace hf0_N := OwS.fr hf0_N F868 (fun _ _ h => h)
            replace hf0_R := OwS.fr hf0_R F868 (fun _ _ h => h)
            replace hF := hF.trans F868 (fun _ h => h.elim)
            refine d_pure hS867 24 #[true, true, true, true, true, true, true, true, true, true, true, true, true, true, true, true, true, true, true, true, true, true, true, true, true] rfl rfl rfl rfl (by kernel_rfl) (fun _ _ _ h => h) (fun _ => (r_assign hS867 rfl rfl)) fun a869 hS869 => d_done (by kernel_rfl) ?_
            exact ⟨g868, b864, A816, cap817, A851, cap852, A857, cap858, hS869.re ⟨rfl, trivial⟩, h818, h853, h859, h865, hb0, hf0_Done, hf0_N, hf0_R, hF⟩
        · rintro _ a873 w874 g874 ⟨⟨A870, rfl, h871⟩, F874⟩ hS873
          have hC874 := hC815.trans F874 (fun _ h => h.elim)
          replace h807 := OwS.fr h807 F874 (fun _ _ h => h)
          replace h812 := OwS.fr h812 F874 (fun _ _ h => h)
          replace hb0 := hb0.fr F874 (fun h => h)
          replace hf0_Done := OwS.fr hf0_Done F874 (fun _ _ h => h)
          replace hf0_N := OwS.fr hf0_N F874 (fun _ _ h => h)
          replace hf0_R := OwS.fr hf0_R F874 (fun _ _ h => h)
          replace hF := hF.trans F874 (fun _ h => h.elim)
          refine d_one 5 #[true, true, true, true, true, true, true, true, true, true, true, false, true, true, true, true, true, false, true, true, true, true, false, false, false] rfl (by kernel_rfl) (arm_eff hS873 rfl rfl rfl (e_append (e := 35) (sz := 3) (by_ := 24) (z := [.int .i64 0, .int .u64 0, .int .u64 0]) (kd := kd_api_Rail) g874 hS873 rfl rfl rfl rfl (by kernel_rfl) (by kernel_rfl) rfl rfl rfl rfl h812 (OwD.rdx hf0_R) (fun _ _ _ h => h) hy6) (fun _ _ g' hR _ => ⟨g', hC874.trans hR.2 (fun c' (hm : c' = N + 0) => by show c' = N + 0 ∨ c' = N + 2 ∨ c' = N + 4; omega)⟩) ?_)
          rintro _ a879 w880 g880 ⟨⟨A875, cap876, rfl, h877⟩, F880⟩ hS879
          have hC880 := hC874.trans F880 (fun c' (hm : c' = N + 0) => by show c' = N + 0 ∨ c' = N + 2 ∨ c' = N + 4; omega)
          replace h807 := OwS.fr h807 F880 (fun c' hc (hm : c' = N + 0) => by omega)
          replace h871 := OwS.fr h871 F880 (fun c' hc (hm : c' = N + 0) => by omega)
          replace hb0 := hb0.fr F880 (fun (hm : c0 = N + 0) => by omega)
          replace hf0_Done := OwS.fr hf0_Done F880 (fun c' hc (hm : c' = N + 0) => by omega)
          replace hf0_N := OwS.fr hf0_N F880 (fun c' hc (hm : c' = N + 0) => by omega)
          replace hf0_R := OwS.fr hf0_R F880 (fun c' hc (hm : c' = N + 0) => by omega)
          replace hF := hF.trans F880 (fun c' (hm : c' = N + 0) => by show (r0 ≤ c' ∧ c' < r0 + 7) ∨ N ≤ c'; omega)
          refine d_one 11 #[true, true, true, true, true, true, true, true, true, true, true, true, true, true, true, true, true, false, true, true, true, true, false, false, false] rfl (by kernel_rfl) (arm_eff hS879 rfl rfl rfl (e_append (e := 3) (sz := 1) (by_ := 8) (z := [.int .i64 0]) (kd := (kint .i64)) g880 hS879 rfl rfl rfl rfl (by kernel_rfl) (by kernel_rfl) rfl rfl rfl rfl h807 (OwD.rdx hf0_N) (fun _ _ _ h => h) hy15) (fun _ _ g' hR _ => ⟨g', hC880.trans hR.2 (fun c' (hm : c' = N + 2) => by show c' = N + 0 ∨ c' = N + 2 ∨ c' = N + 4; omega)⟩) ?_)
          rintro _ a885 w886 g886 ⟨⟨A881, cap882, rfl, h883⟩, F886⟩ hS885
          have hC886 := hC880.trans F886 (fun c' (hm : c' = N + 2) => by show c' = N + 0 ∨ c' = N + 2 ∨ c' = N + 4; omega)
          replace h871 := OwS.fr h871 F886 (fun c' hc (hm : c' = N + 2) => by omega)
          replace h877 := OwS.fr h877 F886 (fun c' hc (hm : c' = N + 2) => by omega)
          replace hb0 := hb0.fr F886 (fun (hm : c0 = N + 2) => by omega)
          replace hf0_Done := OwS.fr hf0_Done F886 (fun c' hc (hm : c' = N + 2) => by omega)
          replace hf0_N := OwS.fr hf0_N F886 (fun c' hc (hm : c' = N + 2) => by omega)
          replace hf0_R := OwS.fr hf0_R F886 (fun c' hc (hm : c' = N + 2) => by omega)
          replace hF := hF.trans F886 (fun c' (hm : c' = N + 2) => by show (r0 ≤ c' ∧ c' < r0 + 7) ∨ N ≤ c'; omega)
          refine d_one 17 #[true, true, true, true, true, true, true, true, true, true, true, true, true, true, true, true, true, true, true, true, true, true, false, false, false] rfl (by kernel_rfl) (arm_eff hS885 rfl rfl rfl (e_append (e := 33) (sz := 1) (by_ := 8) (z := [.int .u64 0]) (kd := (kint .u64)) g886 hS885 rfl rfl rfl rfl (by kernel_rfl) (by kernel_rfl) rfl rfl rfl rfl h871 (OwD.rdx hf0_Done) (fun _ _ _ h => h) hy24) (fun _ _ g' hR _ => ⟨g', hC886.trans hR.2 (fun c' (hm : c' = N + 4) => by show c' = N + 0 ∨ c' = N + 2 ∨ c' = N + 4; omega)⟩) ?_)
          rintro _ a891 w892 g892 ⟨⟨A887, cap888, rfl, h889⟩, F892⟩ hS891
          have hC892 := hC886.trans F892 (fun c' (hm : c' = N + 4) => by show c' = N + 0 ∨ c' = N + 2 ∨ c' = N + 4; omega)
          replace h877 := OwS.fr h877 F892 (fun c' hc (hm : c' = N + 4) => by omega)
          replace h883 := OwS.fr h883 F892 (fun c' hc (hm : c' = N + 4) => by omega)
          replace hb0 := hb0.fr F892 (fun (hm : c0 = N + 4) => by omega)
          replace hf0_Done := OwS.fr hf0_Done F892 (fun c' hc (hm : c' = N + 4) => by omega)
          replace hf0_N := OwS.fr hf0_N F892 (fun c' hc (hm : c' = N + 4) => by omega)
          replace hf0_R := OwS.fr hf0_R F892 (fun c' hc (hm : c' = N + 4) => by omega)
          replace hF := hF.trans F892 (fun c' (hm : c' = N + 4) => by show (r0 ≤ c' ∧ c' < r0 + 7) ∨ N ≤ c'; omega)
          refine d_pure hS891 22 #[true, true, true, true, true, true, true, true, true, true, true, true, true, true, true, true, true, true, true, true, true, true, true, false, false] rfl rfl rfl rfl (by kernel_rfl) (fun _ _ _ h => h) (fun _ => (r_build (parts := [(0, .slice A875 y5.length cap876), (1, .slice A881 y14.length cap882), (2, .slice A887 y23.length cap888), (3, .int .u64 p0.Clock)]) (u := .agg #[.slice A875 y5.length cap876, .slice A881 y14.length cap882, .slice A887 y23.length cap888, .int .u64 p0.Clock]) hS891 rfl rfl (fun _ => by kernel_rfl))) fun a893 hS893 => ?_
          refine d_one 23 #[true, true, true, true, true, true, true, true, true, true, true, true, true, true, true, true, true, true, true, true, true, true, true, true, false] rfl (by kernel_rfl) (arm_eff hS893 rfl rfl rfl (e_box (cs := [.slice A875 y5.length cap876, .slice A881 y14.length cap882, .slice A887 y23.length cap888, .int .u64 p0.Clock]) (N + 6) g892 hS893 rfl rfl rfl) (fun _ _ g' hR _ => ⟨g', hC892.trans hR.2 (fun _ h => h.elim)⟩) ?_)
          rintro _ a897 w898 g898 ⟨⟨b894, rfl, h895⟩, F898⟩ hS897
          have hC898 := hC892.trans F898 (fun _ h => h.elim)
          replace h877 := OwS.fr h877 F898 (fun _ _ h => h)
          replace h883 := OwS.fr h883 F898 (fun _ _ h => h)
          replace h889 := OwS.fr h889 F898 (fun _ _ h => h)
          replace hb0 := hb0.fr F898 (fun h => h)
          replace hf0_Done := OwS.fr hf0_Done F898 (fun _ _ h => h)
          replace hf0_N := OwS.fr hf0_N F898 (fun _ _ h => h)
          replace hf0_R := OwS.fr hf0_R F898 (fun _ _ h => h)
          replace hF := hF.trans F898 (fun _ h => h.elim)
          refine d_pure hS897 24 #[true, true, true, true, true, true, true, true, true, true, true, true, true, true, true, true, true, true, true, true, true, true, true, true, true] rfl rfl rfl rfl (by kernel_rfl) (fun _ _ _ h => h) (fun _ => (r_assign hS897 rfl rfl)) fun a899 hS899 => d_done (by kernel_rfl) ?_
          exact ⟨g898, b894, A875, cap876, A881, cap882, A887, cap888, hS899.re ⟨rfl, trivial⟩, h877, h883, h889, h895, hb0, hf0_Done, hf0_N, hf0_R, hF⟩
      · rintro _ a903 w904 g904 ⟨⟨A900, rfl, h901⟩, F904⟩ hS903
        have hC904 := hC810.trans F904 (fun _ h => h.elim)
        replace h807 := OwS.fr h807 F904 (fun _ _ h => h)
        replace hb0 := hb0.fr F904 (fun h => h)
        replace hf0_Done := OwS.fr hf0_Done F904 (fun _ _ h => h)
        replace hf0_N := OwS.fr hf0_N F904 (fun _ _ h => h)
        replace hf0_R := OwS.fr hf0_R F904 (fun _ _ h => h)
        replace hF := hF.trans F904 (fun _ h => h.elim)
        refine d_one 0 #[true, true, true, true, true, false, true, true, true, true, true, false, true, true, true, true, true, false, true, true, true, true, false, false, false] rfl (by kernel_rfl) (arm_eff hS903 rfl rfl rfl (e_lit (e := 35) (parts := []) (cs := []) kd_api_Rail ([] : List api_Rail) (N + 0) g904 hS903 rfl rfl (fun _ => by kernel_rfl) rfl (by decide) Rows.nil) (fun _ _ g' hR _ => ⟨g', hC904.trans hR.2 (fun _ h => h.elim)⟩) ?_)
        rintro _ a908 w909 g909 ⟨⟨A905, rfl, h906⟩, F909⟩ hS908
        have hC909 := hC904.trans F909 (fun _ h => h.elim)
        replace h807 := OwS.fr h807 F909 (fun _ _ h => h)
        replace h901 := OwS.fr h901 F909 (fun _ _ h => h)
        replace hb0 := hb0.fr F909 (fun h => h)
        replace hf0_Done := OwS.fr hf0_Done F909 (fun _ _ h => h)
        replace hf0_N := OwS.fr hf0_N F909 (fun _ _ h => h)
        replace hf0_R := OwS.fr hf0_R F909 (fun _ _ h => h)
        replace hF := hF.trans F909 (fun _ h => h.elim)
        refine d_one 5 #[true, true, true, true, true, true, true, true, true, true, true, false, true, true, true, true, true, false, true, true, true, true, false, false, false] rfl (by kernel_rfl) (arm_eff hS908 rfl rfl rfl (e_append (e := 35) (sz := 3) (by_ := 24) (z := [.int .i64 0, .int .u64 0, .int .u64 0]) (kd := kd_api_Rail) g909 hS908 rfl rfl rfl rfl (by kernel_rfl) (by kernel_rfl) rfl rfl rfl rfl h906 (OwD.rdx hf0_R) (fun _ _ _ h => h) hy6) (fun _ _ g' hR _ => ⟨g', hC909.trans hR.2 (fun c' (hm : c' = N + 0) => by show c' = N + 0 ∨ c' = N + 2 ∨ c' = N + 4; omega)⟩) ?_)
        rintro _ a914 w915 g915 ⟨⟨A910, cap911, rfl, h912⟩, F915⟩ hS914
        have hC915 := hC909.trans F915 (fun c' (hm : c' = N + 0) => by show c' = N + 0 ∨ c' = N + 2 ∨ c' = N + 4; omega)
        replace h807 := OwS.fr h807 F915 (fun c' hc (hm : c' = N + 0) => by omega)
        replace h901 := OwS.fr h901 F915 (fun c' hc (hm : c' = N + 0) => by omega)
        replace hb0 := hb0.fr F915 (fun (hm : c0 = N + 0) => by omega)
        replace hf0_Done := OwS.fr hf0_Done F915 (fun c' hc (hm : c' = N + 0) => by omega)
        replace hf0_N := OwS.fr hf0_N F915 (fun c' hc (hm : c' = N + 0) => by omega)
        replace hf0_R := OwS.fr hf0_R F915 (fun c' hc (hm : c' = N + 0) => by omega)
        replace hF := hF.trans F915 (fun c' (hm : c' = N + 0) => by show (r0 ≤ c' ∧ c' < r0 + 7) ∨ N ≤ c'; omega)
        refine d_one 11 #[true, true, true, true, true, true, true, true, true, true, true, true, true, true, true, true, true, false, true, true, true, true, false, false, false] rfl (by kernel_rfl) (arm_eff hS914 rfl rfl rfl (e_append (e := 3) (sz := 1) (by_ := 8) (z := [.int .i64 0]) (kd := (kint .i64)) g915 hS914 rfl rfl rfl rfl (by kernel_rfl) (by kernel_rfl) rfl rfl rfl rfl h807 (OwD.rdx hf0_N) (fun _ _ _ h => h) hy15) (fun _ _ g' hR _ => ⟨g', hC915.trans hR.2 (fun c' (hm : c' = N + 2) => by show c' = N + 0 ∨ c' = N + 2 ∨ c' = N + 4; omega)⟩) ?_)
        rintro _ a920 w921 g921 ⟨⟨A916, cap917, rfl, h918⟩, F921⟩ hS920
        have hC921 := hC915.trans F921 (fun c' (hm : c' = N + 2) => by show c' = N + 0 ∨ c' = N + 2 ∨ c' = N + 4; omega)
        replace h901 := OwS.fr h901 F921 (fun c' hc (hm : c' = N + 2) => by omega)
        replace h912 := OwS.fr h912 F921 (fun c' hc (hm : c' = N + 2) => by omega)
        replace hb0 := hb0.fr F921 (fun (hm : c0 = N + 2) => by omega)
        replace hf0_Done := OwS.fr hf0_Done F921 (fun c' hc (hm : c' = N + 2) => by omega)
        replace hf0_N := OwS.fr hf0_N F921 (fun c' hc (hm : c' = N + 2) => by omega)
        replace hf0_R := OwS.fr hf0_R F921 (fun c' hc (hm : c' = N + 2) => by omega)
        replace hF := hF.trans F921 (fun c' (hm : c' = N + 2) => by show (r0 ≤ c' ∧ c' < r0 + 7) ∨ N ≤ c'; omega)
        refine d_one 17 #[true, true, true, true, true, true, true, true, true, true, true, true, true, true, true, true, true, true, true, true, true, true, false, false, false] rfl (by kernel_rfl) (arm_eff hS920 rfl rfl rfl (e_append (e := 33) (sz := 1) (by_ := 8) (z := [.int .u64 0]) (kd := (kint .u64)) g921 hS920 rfl rfl rfl rfl (by kernel_rfl) (by kernel_rfl) rfl rfl rfl rfl h901 (OwD.rdx hf0_Done) (fun _ _ _ h => h) hy24) (fun _ _ g' hR _ => ⟨g', hC921.trans hR.2 (fun c' (hm : c' = N + 4) => by show c' = N + 0 ∨ c' = N + 2 ∨ c' = N + 4; omega)⟩) ?_)
        rintro _ a926 w927 g927 ⟨⟨A922, cap923, rfl, h924⟩, F927⟩ hS926
        have hC927 := hC921.trans F927 (fun c' (hm : c' = N + 4) => by show c' = N + 0 ∨ c' = N + 2 ∨ c' = N + 4; omega)
        replace h912 := OwS.fr h912 F927 (fun c' hc (hm : c' = N + 4) => by omega)
        replace h918 := OwS.fr h918 F927 (fun c' hc (hm : c' = N + 4) => by omega)
        replace hb0 := hb0.fr F927 (fun (hm : c0 = N + 4) => by omega)
        replace hf0_Done := OwS.fr hf0_Done F927 (fun c' hc (hm : c' = N + 4) => by omega)
        replace hf0_N := OwS.fr hf0_N F927 (fun c' hc (hm : c' = N + 4) => by omega)
        replace hf0_R := OwS.fr hf0_R F927 (fun c' hc (hm : c' = N + 4) => by omega)
        replace hF := hF.trans F927 (fun c' (hm : c' = N + 4) => by show (r0 ≤ c' ∧ c' < r0 + 7) ∨ N ≤ c'; omega)
        refine d_pure hS926 22 #[true, true, true, true, true, true, true, true, true, true, true, true, true, true, true, true, true, true, true, true, true, true, true, false, false] rfl rfl rfl rfl (by kernel_rfl) (fun _ _ _ h => h) (fun _ => (r_build (parts := [(0, .slice A910 y5.length cap911), (1, .slice A916 y14.length cap917), (2, .slice A922 y23.length cap923), (3, .int .u64 p0.Clock)]) (u := .agg #[.slice A910 y5.length cap911, .slice A916 y14.length cap917, .slice A922 y23.length cap923, .int .u64 p0.Clock]) hS926 rfl rfl (fun _ => by kernel_rfl))) fun a928 hS928 => ?_
        refine d_one 23 #[true, true, true, true, true, true, true, true, true, true, true, true, true, true, true, true, true, true, true, true, true, true, true, true, false] rfl (by kernel_rfl) (arm_eff hS928 rfl rfl rfl (e_box (cs := [.slice A910 y5.length cap911, .slice A916 y14.length cap917, .slice A922 y23.length cap923, .int .u64 p0.Clock]) (N + 6) g927 hS928 rfl rfl rfl) (fun _ _ g' hR _ => ⟨g', hC927.trans hR.2 (fun _ h => h.elim)⟩) ?_)
        rintro _ a932 w933 g933 ⟨⟨b929, rfl, h930⟩, F933⟩ hS932
        have hC933 := hC927.trans F933 (fun _ h => h.elim)
        replace h912 := OwS.fr h912 F933 (fun _ _ h => h)
        replace h918 := OwS.fr h918 F933 (fun _ _ h => h)
        replace h924 := OwS.fr h924 F933 (fun _ _ h => h)
        replace hb0 := hb0.fr F933 (fun h => h)
        replace hf0_Done := OwS.fr hf0_Done F933 (fun _ _ h => h)
        replace hf0_N := OwS.fr hf0_N F933 (fun _ _ h => h)
        replace hf0_R := OwS.fr hf0_R F933 (fun _ _ h => h)
        replace hF := hF.trans F933 (fun _ h => h.elim)
        refine d_pure hS932 24 #[true, true, true, true, true, true, true, true, true, true, true, true, true, true, true, true, true, true, true, true, true, true, true, true, true] rfl rfl rfl rfl (by kernel_rfl) (fun _ _ _ h => h) (fun _ => (r_assign hS932 rfl rfl)) fun a934 hS934 => d_done (by kernel_rfl) ?_
        exact ⟨g933, b929, A910, cap911, A916, cap917, A922, cap923, hS934.re ⟨rfl, trivial⟩, h912, h918, h924, h930, hb0, hf0_Done, hf0_N, hf0_R, hF⟩
    · rintro _ a938 w939 g939 ⟨⟨A935, rfl, h936⟩, F939⟩ hS938
      have hC939 := hC.trans F939 (fun _ h => h.elim)
      replace hb0 := hb0.fr F939 (fun h => h)
      replace hf0_Done := OwS.fr hf0_Done F939 (fun _ _ h => h)
      replace hf0_N := OwS.fr hf0_N F939 (fun _ _ h => h)
      replace hf0_R := OwS.fr hf0_R F939 (fun _ _ h => h)
      replace hF := hF.trans F939 (fun _ h => h.elim)
      refine d_two 0 6 #[true, true, true, true, true, false, false, true, true, true, true, false, true, true, true, true, true, false, true, true, true, true, false, false, false] #[false, true, true, true, true, false, true, true, true, true, true, false, true, true, true, true, true, false, true, true, true, true, false, false, false] rfl rfl (by kernel_rfl) (arm_eff hS938 rfl rfl rfl (e_lit (e := 35) (parts := []) (cs := []) kd_api_Rail ([] : List api_Rail) (N + 0) g939 hS938 rfl rfl (fun _ => by kernel_rfl) rfl (by decide) Rows.nil) (fun _ _ g' hR _ => ⟨g', hC939.trans hR.2 (fun _ h => h.elim)⟩) ?_) (arm_eff hS938 rfl rfl rfl (e_lit (e := 3) (parts := []) (cs := []) (kint .i64) ([] : List Int) (N + 2) g939 hS938 rfl rfl (fun _ => by kernel_rfl) rfl (by decide) Rows.nil) (fun _ _ g' hR _ => ⟨g', hC939.trans hR.2 (fun _ h => h.elim)⟩) ?_)
      · rintro _ a943 w944 g944 ⟨⟨A940, rfl, h941⟩, F944⟩ hS943
        have hC944 := hC939.trans F944 (fun _ h => h.elim)
        replace h936 := OwS.fr h936 F944 (fun _ _ h => h)
        replace hb0 := hb0.fr F944 (fun h => h)
        replace hf0_Done := OwS.fr hf0_Done F944 (fun _ _ h => h)
        replace hf0_N := OwS.fr hf0_N F944 (fun _ _ h => h)
        replace hf0_R := OwS.fr hf0_R F944 (fun _ _ h => h)
        replace hF := hF.trans F944 (fun _ h => h.elim)
        refine d_two 5 6 #[true, true, true, true, true, true, false, true, true, true, true, false, true, true, true, true, true, false, true, true, true, true, false, false, false] #[true, true, true, true, true, false, true, true, true, true, true, false, true, true, true, true, true, false, true, true, true, true, false, false, false] rfl rfl (by kernel_rfl) (arm_eff hS943 rfl rfl rfl (e_append (e := 35) (sz := 3) (by_ := 24) (z := [.int .i64 0, .int .u64 0, .int .u64 0]) (kd := kd_api_Rail) g944 hS943 rfl rfl rfl rfl (by kernel_rfl) (by kernel_rfl) rfl rfl rfl rfl h941 (OwD.rdx hf0_R) (fun _ _ _ h => h) hy6) (fun _ _ g' hR _ => ⟨g', hC944.trans hR.2 (fun c' (hm : c' = N + 0) => by show c' = N + 0 ∨ c' = N + 2 ∨ c' = N + 4; omega)⟩) ?_) (arm_eff hS943 rfl rfl rfl (e_lit (e := 3) (parts := []) (cs := []) (kint .i64) ([] : List Int) (N + 2) g944 hS943 rfl rfl (fun _ => by kernel_rfl) rfl (by decide) Rows.nil) (fun _ _ g' hR _ => ⟨g', hC944.trans hR.2 (fun _ h => h.elim)⟩) ?_)
        · rintro _ a949 w950 g950 ⟨⟨A945, cap946, rfl, h947⟩, F950⟩ hS949
          have hC950 := hC944.trans F950 (fun c' (hm : c' = N + 0) => by show c' = N + 0 ∨ c' = N + 2 ∨ c' = N + 4; omega)
          replace h936 := OwS.fr h936 F950 (fun c' hc (hm : c' = N + 0) => by omega)
          replace hb0 := hb0.fr F950 (fun (hm : c0 = N + 0) => by omega)
          replace hf0_Done := OwS.fr hf0_Done F950 (fun c' hc (hm : c' = N + 0) => by omega)
          replace hf0_N := OwS.fr hf0_N F950 (fun c' hc (hm : c' = N + 0) => by omega)
          replace hf0_R := OwS.fr hf0_R F950 (fun c' hc (hm : c' = N + 0) => by omega)
          replace hF := hF.trans F950 (fun c' (hm : c' = N + 0) => by show (r0 ≤ c' ∧ c' < r0 + 7) ∨ N ≤ c'; omega)
          refine d_one 6 #[true, true, true, true, true, true, true, true, true, true, true, false, true, true, true, true, true, false, true, true, true, true, false, false, false] rfl (by kernel_rfl) (arm_eff hS949 rfl rfl rfl (e_lit (e := 3) (parts := []) (cs := []) (kint .i64) ([] : List Int) (N + 2) g950 hS949 rfl rfl (fun _ => by kernel_rfl) rfl (by decide) Rows.nil) (fun _ _ g' hR _ => ⟨g', hC950.trans hR.2 (fun _ h => h.elim)⟩) ?_)
          rintro _ a954 w955 g955 ⟨⟨A951, rfl, h952⟩, F955⟩ hS954
          have hC955 := hC950.trans F955 (fun _ h => h.elim)
          replace h936 := OwS.fr h936 F955 (fun _ _ h => h)
          replace h947 := OwS.fr h947 F955 (fun _ _ h => h)
          replace hb0 := hb0.fr F955 (fun h => h)
          replace hf0_Done := OwS.fr hf0_Done F955 (fun _ _ h => h)
          replace hf0_N := OwS.fr hf0_N F955 (fun _ _ h => h)
          replace hf0_R := OwS.fr hf0_R F955 (fun _ _ h => h)
          replace hF := hF.trans F955 (fun _ h => h.elim)
          refine d_one 11 #[true, true, true, true, true, true, true, true, true, true, true, true, true, true, true, true, true, false, true, true, true, true, false, false, false] rfl (by kernel_rfl) (arm_eff hS954 rfl rfl rfl (e_append (e := 3) (sz := 1) (by_ := 8) (z := [.int .i64 0]) (kd := (kint .i64)) g955 hS954 rfl rfl rfl rfl (by kernel_rfl) (by kernel_rfl) rfl rfl rfl rfl h952 (OwD.rdx hf0_N) (fun _ _ _ h => h) hy15) (fun _ _ g' hR _ => ⟨g', hC955.trans hR.2 (fun c' (hm : c' = N + 2) => by show c' = N + 0 ∨ c' = N + 2 ∨ c' = N + 4; omega)⟩) ?_)
          rintro _ a960 w961 g961 ⟨⟨A956, cap957, rfl, h958⟩, F961⟩ hS960
          have hC961 := hC955.trans F961 (fun c' (hm : c' = N + 2) => by show c' = N + 0 ∨ c' = N + 2 ∨ c' = N + 4; omega)
          replace h936 := OwS.fr h936 F961 (fun c' hc (hm : c' = N + 2) => by omega)
          replace h947 := OwS.fr h947 F961 (fun c' hc (hm : c' = N + 2) => by omega)
          replace hb0 := hb0.fr F961 (fun (hm : c0 = N + 2) => by omega)
          replace hf0_Done := OwS.fr hf0_Done F961 (fun c' hc (hm : c' = N + 2) => by omega)
          replace hf0_N := OwS.fr hf0_N F961 (fun c' hc (hm : c' = N + 2) => by omega)
          replace hf0_R := OwS.fr hf0_R F961 (fun c' hc (hm : c' = N + 2) => by omega)
          replace hF := hF.trans F961 (fun c' (hm : c' = N + 2) => by show (r0 ≤ c' ∧ c' < r0 + 7) ∨ N ≤ c'; omega)
          refine d_one 17 #[true, true, true, true, true, true, true, true, true, true, true, true, true, true, true, true, true, true, true, true, true, true, false, false, false] rfl (by kernel_rfl) (arm_eff hS960 rfl rfl rfl (e_append (e := 33) (sz := 1) (by_ := 8) (z := [.int .u64 0]) (kd := (kint .u64)) g961 hS960 rfl rfl rfl rfl (by kernel_rfl) (by kernel_rfl) rfl rfl rfl rfl h936 (OwD.rdx hf0_Done) (fun _ _ _ h => h) hy24) (fun _ _ g' hR _ => ⟨g', hC961.trans hR.2 (fun c' (hm : c' = N + 4) => by show c' = N + 0 ∨ c' = N + 2 ∨ c' = N + 4; omega)⟩) ?_)
          rintro _ a966 w967 g967 ⟨⟨A962, cap963, rfl, h964⟩, F967⟩ hS966
          have hC967 := hC961.trans F967 (fun c' (hm : c' = N + 4) => by show c' = N + 0 ∨ c' = N + 2 ∨ c' = N + 4; omega)
          replace h947 := OwS.fr h947 F967 (fun c' hc (hm : c' = N + 4) => by omega)
          replace h958 := OwS.fr h958 F967 (fun c' hc (hm : c' = N + 4) => by omega)
          replace hb0 := hb0.fr F967 (fun (hm : c0 = N + 4) => by omega)
          replace hf0_Done := OwS.fr hf0_Done F967 (fun c' hc (hm : c' = N + 4) => by omega)
          replace hf0_N := OwS.fr hf0_N F967 (fun c' hc (hm : c' = N + 4) => by omega)
          replace hf0_R := OwS.fr hf0_R F967 (fun c' hc (hm : c' = N + 4) => by omega)
          replace hF := hF.trans F967 (fun c' (hm : c' = N + 4) => by show (r0 ≤ c' ∧ c' < r0 + 7) ∨ N ≤ c'; omega)
          refine d_pure hS966 22 #[true, true, true, true, true, true, true, true, true, true, true, true, true, true, true, true, true, true, true, true, true, true, true, false, false] rfl rfl rfl rfl (by kernel_rfl) (fun _ _ _ h => h) (fun _ => (r_build (parts := [(0, .slice A945 y5.length cap946), (1, .slice A956 y14.length cap957), (2, .slice A962 y23.length cap963), (3, .int .u64 p0.Clock)]) (u := .agg #[.slice A945 y5.length cap946, .slice A956 y14.length cap957, .slice A962 y23.length cap963, .int .u64 p0.Clock]) hS966 rfl rfl (fun _ => by kernel_rfl))) fun a968 hS968 => ?_
          refine d_one 23 #[true, true, true, true, true, true, true, true, true, true, true, true, true, true, true, true, true, true, true, true, true, true, true, true, false] rfl (by kernel_rfl) (arm_eff hS968 rfl rfl rfl (e_box (cs := [.slice A945 y5.length cap946, .slice A956 y14.length cap957, .slice A962 y23.length cap963, .int .u64 p0.Clock]) (N + 6) g967 hS968 rfl rfl rfl) (fun _ _ g' hR _ => ⟨g', hC967.trans hR.2 (fun _ h => h.elim)⟩) ?_)
          rintro _ a972 w973 g973 ⟨⟨b969, rfl, h970⟩, F973⟩ hS972
          have hC973 := hC967.trans F973 (fun _ h => h.elim)
          replace h947 := OwS.fr h947 F973 (fun _ _ h => h)
          replace h958 := OwS.fr h958 F973 (fun _ _ h => h)
          replace h964 := OwS.fr h964 F973 (fun _ _ h => h)
          replace hb0 := hb0.fr F973 (fun h => h)
          replace hf0_Done := OwS.fr hf0_Done F973 (fun _ _ h => h)
          replace hf0_N := OwS.fr hf0_N F973 (fun _ _ h => h)
          replace hf0_R := OwS.fr hf0_R F973 (fun _ _ h => h)
          replace hF := hF.trans F973 (fun _ h => h.elim)
          refine d_pure hS972 24 #[true, true, true, true, true, true, true, true, true, true, true, true, true, true, true, true, true, true, true, true, true, true, true, true, true] rfl rfl rfl rfl (by kernel_rfl) (fun _ _ _ h => h) (fun _ => (r_assign hS972 rfl rfl)) fun a974 hS974 => d_done (by kernel_rfl) ?_
          exact ⟨g973, b969, A945, cap946, A956, cap957, A962, cap963, hS974.re ⟨rfl, trivial⟩, h947, h958, h964, h970, hb0, hf0_Done, hf0_N, hf0_R, hF⟩
        · rintro _ a978 w979 g979 ⟨⟨A975, rfl, h976⟩, F979⟩ hS978
          have hC979 := hC944.trans F979 (fun _ h => h.elim)
          replace h936 := OwS.fr h936 F979 (fun _ _ h => h)
          replace h941 := OwS.fr h941 F979 (fun _ _ h => h)
          replace hb0 := hb0.fr F979 (fun h => h)
          replace hf0_Done := OwS.fr hf0_Done F979 (fun _ _ h => h)
          replace hf0_N := OwS.fr hf0_N F979 (fun _ _ h => h)
          replace hf0_R := OwS.fr hf0_R F979 (fun _ _ h => h)
          replace hF := hF.trans F979 (fun _ h => h.elim)
          refine d_one 5 #[true, true, true, true, true, true, true, true, true, true, true, false, true, true, true, true, true, false, true, true, true, true, false, false, false] rfl (by kernel_rfl) (arm_eff hS978 rfl rfl rfl (e_append (e := 35) (sz := 3) (by_ := 24) (z := [.int .i64 0, .int .u64 0, .int .u64 0]) (kd := kd_api_Rail) g979 hS978 rfl rfl rfl rfl (by kernel_rfl) (by kernel_rfl) rfl rfl rfl rfl h941 (OwD.rdx hf0_R) (fun _ _ _ h => h) hy6) (fun _ _ g' hR _ => ⟨g', hC979.trans hR.2 (fun c' (hm : c' = N + 0) => by show c' = N + 0 ∨ c' = N + 2 ∨ c' = N + 4; omega)⟩) ?_)
          rintro _ a984 w985 g985 ⟨⟨A980, cap981, rfl, h982⟩, F985⟩ hS984
          have hC985 := hC979.trans F985 (fun c' (hm : c' = N + 0) => by show c' = N + 0 ∨ c' = N + 2 ∨ c' = N + 4; omega)
          replace h936 := OwS.fr h936 F985 (fun c' hc (hm : c' = N + 0) => by omega)
          replace h976 := OwS.fr h976 F985 (fun c' hc (hm : c' = N + 0) => by omega)
          replace hb0 := hb0.fr F985 (fun (hm : c0 = N + 0) => by omega)
          replace hf0_Done := OwS.fr hf0_Done F985 (fun c' hc (hm : c' = N + 0) => by omega)
          replace hf0_N := OwS.fr hf0_N F985 (fun c' hc (hm : c' = N + 0) => by omega)
          replace hf0_R := OwS.fr hf0_R F985 (fun c' hc (hm : c' = N + 0) => by omega)
          replace hF := hF.trans F985 (fun c' (hm : c' = N + 0) => by show (r0 ≤ c' ∧ c' < r0 + 7) ∨ N ≤ c'; omega)
          refine d_one 11 #[true, true, true, true, true, true, true, true, true, true, true, true, true, true, true, true, true, false, true, true, true, true, false, false, false] rfl (by kernel_rfl) (arm_eff hS984 rfl rfl rfl (e_append (e := 3) (sz := 1) (by_ := 8) (z := [.int .i64 0]) (kd := (kint .i64)) g985 hS984 rfl rfl rfl rfl (by kernel_rfl) (by kernel_rfl) rfl rfl rfl rfl h976 (OwD.rdx hf0_N) (fun _ _ _ h => h) hy15) (fun _ _ g' hR _ => ⟨g', hC985.trans hR.2 (fun c' (hm : c' = N + 2) => by show c' = N + 0 ∨ c' = N + 2 ∨ c' = N + 4; omega)⟩) ?_)
          rintro _ a990 w991 g991 ⟨⟨A986, cap987, rfl, h988⟩, F991⟩ hS990
          have hC991 := hC985.trans F991 (fun c' (hm : c' = N + 2) => by show c' = N + 0 ∨ c' = N + 2 ∨ c' = N + 4; omega)
          replace h936 := OwS.fr h936 F991 (fun c' hc (hm : c' = N + 2) => by omega)
          replace h982 := OwS.fr h982 F991 (fun c' hc (hm : c' = N + 2) => by omega)
          replace hb0 := hb0.fr F991 (fun (hm : c0 = N + 2) => by omega)
          replace hf0_Done := OwS.fr hf0_Done F991 (fun c' hc (hm : c' = N + 2) => by omega)
          replace hf0_N := OwS.fr hf0_N F991 (fun c' hc (hm : c' = N + 2) => by omega)
          replace hf0_R := OwS.fr hf0_R F991 (fun c' hc (hm : c' = N + 2) => by omega)
          replace hF := hF.trans F991 (fun c' (hm : c' = N + 2) => by show (r0 ≤ c' ∧ c' < r0 + 7) ∨ N ≤ c'; omega)
          refine d_one 17 #[true, true, true, true, true, true, true, true, true, true, true, true, true, true, true, true, true, true, true, true, true, true, false, false, false] rfl (by kernel_rfl) (arm_eff hS990 rfl rfl rfl (e_append (e := 33) (sz := 1) (by_ := 8) (z := [.int .u64 0]) (kd := (kint .u64)) g991 hS990 rfl rfl rfl rfl (by kernel_rfl) (by kernel_rfl) rfl rfl rfl rfl h936 (OwD.rdx hf0_Done) (fun _ _ _ h => h) hy24) (fun _ _ g' hR _ => ⟨g', hC991.trans hR.2 (fun c' (hm : c' = N + 4) => by show c' = N + 0 ∨ c' = N + 2 ∨ c' = N + 4; omega)⟩) ?_)
          rintro _ a996 w997 g997 ⟨⟨A992, cap993, rfl, h994⟩, F997⟩ hS996
          have hC997 := hC991.trans F997 (fun c' (hm : c' = N + 4) => by show c' = N + 0 ∨ c' = N + 2 ∨ c' = N + 4; omega)
          replace h982 := OwS.fr h982 F997 (fun c' hc (hm : c' = N + 4) => by omega)
          replace h988 := OwS.fr h988 F997 (fun c' hc (hm : c' = N + 4) => by omega)
          replace hb0 := hb0.fr F997 (fun (hm : c0 = N + 4) => by omega)
          replace hf0_Done := OwS.fr hf0_Done F997 (fun c' hc (hm : c' = N + 4) => by omega)
          replace hf0_N := OwS.fr hf0_N F997 (fun c' hc (hm : c' = N + 4) => by omega)
          replace hf0_R := OwS.fr hf0_R F997 (fun c' hc (hm : c' = N + 4) => by omega)
          replace hF := hF.trans F997 (fun c' (hm : c' = N + 4) => by show (r0 ≤ c' ∧ c' < r0 + 7) ∨ N ≤ c'; omega)
          refine d_pure hS996 22 #[true, true, true, true, true, true, true, true, true, true, true, true, true, true, true, true, true, true, true, true, true, true, true, false, false] rfl rfl rfl rfl (by kernel_rfl) (fun _ _ _ h => h) (fun _ => (r_build (parts := [(0, .slice A980 y5.length cap981), (1, .slice A986 y14.length cap987), (2, .slice A992 y23.length cap993), (3, .int .u64 p0.Clock)]) (u := .agg #[.slice A980 y5.length cap981, .slice A986 y14.length cap987, .slice A992 y23.length cap993, .int .u64 p0.Clock]) hS996 rfl rfl (fun _ => by kernel_rfl))) fun a998 hS998 => ?_
          refine d_one 23 #[true, true, true, true, true, true, true, true, true, true, true, true, true, true, true, true, true, true, true, true, true, true, true, true, false] rfl (by kernel_rfl) (arm_eff hS998 rfl rfl rfl (e_box (cs := [.slice A980 y5.length cap981, .slice A986 y14.length cap987, .slice A992 y23.length cap993, .int .u64 p0.Clock]) (N + 6) g997 hS998 rfl rfl rfl) (fun _ _ g' hR _ => ⟨g', hC997.trans hR.2 (fun _ h => h.elim)⟩) ?_)
          rintro _ a1002 w1003 g1003 ⟨⟨b999, rfl, h1000⟩, F1003⟩ hS1002
          have hC1003 := hC997.trans F1003 (fun _ h => h.elim)
          replace h982 := OwS.fr h982 F1003 (fun _ _ h => h)
          replace h988 := OwS.fr h988 F1003 (fun _ _ h => h)
          replace h994 := OwS.fr h994 F1003 (fun _ _ h => h)
          replace hb0 := hb0.fr F1003 (fun h => h)
          replace hf0_Done := OwS.fr hf0_Done F1003 (fun _ _ h => h)
          replace hf0_N := OwS.fr hf0_N F1003 (fun _ _ h => h)
          replace hf0_R := OwS.fr hf0_R F1003 (fun _ _ h => h)
          replace hF := hF.trans F1003 (fun _ h => h.elim)
          refine d_pure hS1002 24 #[true, true, true, true, true, true, true, true, true, true, true, true, true, true, true, true, true, true, true, true, true, true, true, true, true] rfl rfl rfl rfl (by kernel_rfl) (fun _ _ _ h => h) (fun _ => (r_assign hS1002 rfl rfl)) fun a1004 hS1004 => d_done (by kernel_rfl) ?_
          exact ⟨g1003, b999, A980, cap981, A986, cap987, A992, cap993, hS1004.re ⟨rfl, trivial⟩, h982, h988, h994, h1000, hb0, hf0_Done, hf0_N, hf0_R, hF⟩
      · rintro _ a1008 w1009 g1009 ⟨⟨A1005, rfl, h1006⟩, F1009⟩ hS1008
        have hC1009 := hC939.trans F1009 (fun _ h => h.elim)
        replace h936 := OwS.fr h936 F1009 (fun _ _ h => h)
        replace hb0 := hb0.fr F1009 (fun h => h)
        replace hf0_Done := OwS.fr hf0_Done F1009 (fun _ _ h => h)
        replace hf0_N := OwS.fr hf0_N F1009 (fun _ _ h => h)
        replace hf0_R := OwS.fr hf0_R F1009 (fun _ _ h => h)
        replace hF := hF.trans F1009 (fun _ h => h.elim)
        refine d_one 0 #[true, true, true, true, true, false, true, true, true, true, true, false, true, true, true, true, true, false, true, true, true, true, false, false, false] rfl (by kernel_rfl) (arm_eff hS1008 rfl rfl rfl (e_lit (e := 35) (parts := []) (cs := []) kd_api_Rail ([] : List api_Rail) (N + 0) g1009 hS1008 rfl rfl (fun _ => by kernel_rfl) rfl (by decide) Rows.nil) (fun _ _ g' hR _ => ⟨g', hC1009.trans hR.2 (fun _ h => h.elim)⟩) ?_)
        rintro _ a1013 w1014 g1014 ⟨⟨A1010, rfl, h1011⟩, F1014⟩ hS1013
        have hC1014 := hC1009.trans F1014 (fun _ h => h.elim)
        replace h1006 := OwS.fr h1006 F1014 (fun _ _ h => h)
        replace h936 := OwS.fr h936 F1014 (fun _ _ h => h)
        replace hb0 := hb0.fr F1014 (fun h => h)
        replace hf0_Done := OwS.fr hf0_Done F1014 (fun _ _ h => h)
        replace hf0_N := OwS.fr hf0_N F1014 (fun _ _ h => h)
        replace hf0_R := OwS.fr hf0_R F1014 (fun _ _ h => h)
        replace hF := hF.trans F1014 (fun _ h => h.elim)
        refine d_one 5 #[true, true, true, true, true, true, true, true, true, true, true, false, true, true, true, true, true, false, true, true, true, true, false, false, false] rfl (by kernel_rfl) (arm_eff hS1013 rfl rfl rfl (e_append (e := 35) (sz := 3) (by_ := 24) (z := [.int .i64 0, .int .u64 0, .int .u64 0]) (kd := kd_api_Rail) g1014 hS1013 rfl rfl rfl rfl (by kernel_rfl) (by kernel_rfl) rfl rfl rfl rfl h1011 (OwD.rdx hf0_R) (fun _ _ _ h => h) hy6) (fun _ _ g' hR _ => ⟨g', hC1014.trans hR.2 (fun c' (hm : c' = N + 0) => by show c' = N + 0 ∨ c' = N + 2 ∨ c' = N + 4; omega)⟩) ?_)
        rintro _ a1019 w1020 g1020 ⟨⟨A1015, cap1016, rfl, h1017⟩, F1020⟩ hS1019
        have hC1020 := hC1014.trans F1020 (fun c' (hm : c' = N + 0) => by show c' = N + 0 ∨ c' = N + 2 ∨ c' = N + 4; omega)
        replace h1006 := OwS.fr h1006 F1020 (fun c' hc (hm : c' = N + 0) => by omega)
        replace h936 := OwS.fr h936 F1020 (fun c' hc (hm : c' = N + 0) => by omega)
        replace hb0 := hb0.fr F1020 (fun (hm : c0 = N + 0) => by omega)
        replace hf0_Done := OwS.fr hf0_Done F1020 (fun c' hc (hm : c' = N + 0) => by omega)
        replace hf0_N := OwS.fr hf0_N F1020 (fun c' hc (hm : c' = N + 0) => by omega)
        replace hf0_R := OwS.fr hf0_R F1020 (fun c' hc (hm : c' = N + 0) => by omega)
        replace hF := hF.trans F1020 (fun c' (hm : c' = N + 0) => by show (r0 ≤ c' ∧ c' < r0 + 7) ∨ N ≤ c'; omega)
        refine d_one 11 #[true, true, true, true, true, true, true, true, true, true, true, true, true, true, true, true, true, false, true, true, true, true, false, false, false] rfl (by kernel_rfl) (arm_eff hS1019 rfl rfl rfl (e_append (e := 3) (sz := 1) (by_ := 8) (z := [.int .i64 0]) (kd := (kint .i64)) g1020 hS1019 rfl rfl rfl rfl (by kernel_rfl) (by kernel_rfl) rfl rfl rfl rfl h1006 (OwD.rdx hf0_N) (fun _ _ _ h => h) hy15) (fun _ _ g' hR _ => ⟨g', hC1020.trans hR.2 (fun c' (hm : c' = N + 2) => by show c' = N + 0 ∨ c' = N + 2 ∨ c' = N + 4; omega)⟩) ?_)
        rintro _ a1025 w1026 g1026 ⟨⟨A1021, cap1022, rfl, h1023⟩, F1026⟩ hS1025
        have hC1026 := hC1020.trans F1026 (fun c' (hm : c' = N + 2) => by show c' = N + 0 ∨ c' = N + 2 ∨ c' = N + 4; omega)
        replace h1017 := OwS.fr h1017 F1026 (fun c' hc (hm : c' = N + 2) => by omega)
        replace h936 := OwS.fr h936 F1026 (fun c' hc (hm : c' = N + 2) => by omega)
        replace hb0 := hb0.fr F1026 (fun (hm : c0 = N + 2) => by omega)
        replace hf0_Done := OwS.fr hf0_Done F1026 (fun c' hc (hm : c' = N + 2) => by omega)
        replace hf0_N := OwS.fr hf0_N F1026 (fun c' hc (hm : c' = N + 2) => by omega)
        replace hf0_R := OwS.fr hf0_R F1026 (fun c' hc (hm : c' = N + 2) => by omega)
        replace hF := hF.trans F1026 (fun c' (hm : c' = N + 2) => by show (r0 ≤ c' ∧ c' < r0 + 7) ∨ N ≤ c'; omega)
        refine d_one 17 #[true, true, true, true, true, true, true, true, true, true, true, true, true, true, true, true, true, true, true, true, true, true, false, false, false] rfl (by kernel_rfl) (arm_eff hS1025 rfl rfl rfl (e_append (e := 33) (sz := 1) (by_ := 8) (z := [.int .u64 0]) (kd := (kint .u64)) g1026 hS1025 rfl rfl rfl rfl (by kernel_rfl) (by kernel_rfl) rfl rfl rfl rfl h936 (OwD.rdx hf0_Done) (fun _ _ _ h => h) hy24) (fun _ _ g' hR _ => ⟨g', hC1026.trans hR.2 (fun c' (hm : c' = N + 4) => by show c' = N + 0 ∨ c' = N + 2 ∨ c' = N + 4; omega)⟩) ?_)
        rintro _ a1031 w1032 g1032 ⟨⟨A1027, cap1028, rfl, h1029⟩, F1032⟩ hS1031
        have hC1032 := hC1026.trans F1032 (fun c' (hm : c' = N + 4) => by show c' = N + 0 ∨ c' = N + 2 ∨ c' = N + 4; omega)
        replace h1017 := OwS.fr h1017 F1032 (fun c' hc (hm : c' = N + 4) => by omega)
        replace h1023 := OwS.fr h1023 F1032 (fun c' hc (hm : c' = N + 4) => by omega)
        replace hb0 := hb0.fr F1032 (fun (hm : c0 = N + 4) => by omega)
        replace hf0_Done := OwS.fr hf0_Done F1032 (fun c' hc (hm : c' = N + 4) => by omega)
        replace hf0_N := OwS.fr hf0_N F1032 (fun c' hc (hm : c' = N + 4) => by omega)
        replace hf0_R := OwS.fr hf0_R F1032 (fun c' hc (hm : c' = N + 4) => by omega)
        replace hF := hF.trans F1032 (fun c' (hm : c' = N + 4) => by show (r0 ≤ c' ∧ c' < r0 + 7) ∨ N ≤ c'; omega)
        refine d_pure hS1031 22 #[true, true, true, true, true, true, true, true, true, true, true, true, true, true, true, true, true, true, true, true, true, true, true, false, false] rfl rfl rfl rfl (by kernel_rfl) (fun _ _ _ h => h) (fun _ => (r_build (parts := [(0, .slice A1015 y5.length cap1016), (1, .slice A1021 y14.length cap1022), (2, .slice A1027 y23.length cap1028), (3, .int .u64 p0.Clock)]) (u := .agg #[.slice A1015 y5.length cap1016, .slice A1021 y14.length cap1022, .slice A1027 y23.length cap1028, .int .u64 p0.Clock]) hS1031 rfl rfl (fun _ => by kernel_rfl))) fun a1033 hS1033 => ?_
        refine d_one 23 #[true, true, true, true, true, true, true, true, true, true, true, true, true, true, true, true, true, true, true, true, true, true, true, true, false] rfl (by kernel_rfl) (arm_eff hS1033 rfl rfl rfl (e_box (cs := [.slice A1015 y5.length cap1016, .slice A1021 y14.length cap1022, .slice A1027 y23.length cap1028, .int .u64 p0.Clock]) (N + 6) g1032 hS1033 rfl rfl rfl) (fun _ _ g' hR _ => ⟨g', hC1032.trans hR.2 (fun _ h => h.elim)⟩) ?_)
        rintro _ a1037 w1038 g1038 ⟨⟨b1034, rfl, h1035⟩, F1038⟩ hS1037
        have hC1038 := hC1032.trans F1038 (fun _ h => h.elim)
        replace h1017 := OwS.fr h1017 F1038 (fun _ _ h => h)
        replace h1023 := OwS.fr h1023 F1038 (fun _ _ h => h)
        replace h1029 := OwS.fr h1029 F1038 (fun _ _ h => h)
        replace hb0 := hb0.fr F1038 (fun h => h)
        replace hf0_Done := OwS.fr hf0_Done F1038 (fun _ _ h => h)
        replace hf0_N := OwS.fr hf0_N F1038 (fun _ _ h => h)
        replace hf0_R := OwS.fr hf0_R F1038 (fun _ _ h => h)
        replace hF := hF.trans F1038 (fun _ h => h.elim)
        refine d_pure hS1037 24 #[true, true, true, true, true, true, true, true, true, true, true, true, true, true, true, true, true, true, true, true, true, true, true, true, true] rfl rfl rfl rfl (by kernel_rfl) (fun _ _ _ h => h) (fun _ => (r_assign hS1037 rfl rfl)) fun a1039 hS1039 => d_done (by kernel_rfl) ?_
        exact ⟨g1038, b1034, A1015, cap1016, A1021, cap1022, A1027, cap1028, hS1039.re ⟨rfl, trivial⟩, h1017, h1023, h1029, h1035, hb0, hf0_Done, hf0_N, hf0_R, hF⟩
  clear hf0_R hf0_N hf0_Done hb0 hF
  clear hS
  rintro a w530 ⟨g530, b531, A533, cap534, A536, cap537, A539, cap540, hS, h535, h538, h541, h532, hb0, hf0_Done, hf0_N, hf0_R, hF⟩
  refine wp_ret ?_
  have e := Option.some.inj H
  subst e
  have F1040 : Fr (fun q => q = N + 6) w530 g530 w530 (recol g530 (N + 6) r0) := Fr.recol w530 g530 (N + 6) r0 rfl
  replace h532 := Bx.recol h532 r0
  replace h535 := OwS.fr h535 F1040 (fun c' hc (hm : c' = N + 6) => by omega)
  replace h538 := OwS.fr h538 F1040 (fun c' hc (hm : c' = N + 6) => by omega)
  replace h541 := OwS.fr h541 F1040 (fun c' hc (hm : c' = N + 6) => by omega)
  replace hb0 := hb0.fr F1040 (fun (hm : c0 = N + 6) => by omega)
  replace hf0_Done := OwS.fr hf0_Done F1040 (fun c' hc (hm : c' = N + 6) => by omega)
  replace hf0_N := OwS.fr hf0_N F1040 (fun c' hc (hm : c' = N + 6) => by omega)
  replace hf0_R := OwS.fr hf0_R F1040 (fun c' hc (hm : c' = N + 6) => by omega)
  replace hF := hF.trans F1040 (fun c' (hm : c' = N + 6) => by show (r0 ≤ c' ∧ c' < r0 + 7) ∨ N ≤ c'; omega)
  have F1041 := Fr.recol2 w530 (recol g530 (N + 6) r0) (N + 0) (r0 + 1)
  replace h535 := h535.recol2 (r0 + 1)
  replace h538 := OwS.fr h538 F1041 (fun c' hc (hm : c' = N + 0 ∨ c' = N + 0 + 1) => by omega)
  replace h541 := OwS.fr h541 F1041 (fun c' hc (hm : c' = N + 0 ∨ c' = N + 0 + 1) => by omega)
  replace h532 := h532.fr F1041 (fun (hm : r0 = N + 0 ∨ r0 = N + 0 + 1) => by omega)
  replace hb0 := hb0.fr F1041 (fun (hm : c0 = N + 0 ∨ c0 = N + 0 + 1) => by omega)
  replace hf0_Done := OwS.fr hf0_Done F1041 (fun c' hc (hm : c' = N + 0 ∨ c' = N + 0 + 1) => by omega)
  replace hf0_N := OwS.fr hf0_N F1041 (fun c' hc (hm : c' = N + 0 ∨ c' = N + 0 + 1) => by omega)
  replace hf0_R := OwS.fr hf0_R F1041 (fun c' hc (hm : c' = N + 0 ∨ c' = N + 0 + 1) => by omega)
  replace hF := hF.trans F1041 (fun c' (hm : c' = N + 0 ∨ c' = N + 0 + 1) => by show (r0 ≤ c' ∧ c' < r0 + 7) ∨ N ≤ c'; omega)
  have F1042 := Fr.recol2 w530 (recol2 (recol g530 (N + 6) r0) (N + 0) (r0 + 1)) (N + 2) (r0 + 3)
  replace h538 := h538.recol2 (r0 + 3)
  replace h535 := OwS.fr h535 F1042 (fun c' hc (hm : c' = N + 2 ∨ c' = N + 2 + 1) => by omega)
  replace h541 := OwS.fr h541 F1042 (fun c' hc (hm : c' = N + 2 ∨ c' = N + 2 + 1) => by omega)
  replace h532 := h532.fr F1042 (fun (hm : r0 = N + 2 ∨ r0 = N + 2 + 1) => by omega)
  replace hb0 := hb0.fr F1042 (fun (hm : c0 = N + 2 ∨ c0 = N + 2 + 1) => by omega)
  replace hf0_Done := OwS.fr hf0_Done F1042 (fun c' hc (hm : c' = N + 2 ∨ c' = N + 2 + 1) => by omega)
  replace hf0_N := OwS.fr hf0_N F1042 (fun c' hc (hm : c' = N + 2 ∨ c' = N + 2 + 1) => by omega)
  replace hf0_R := OwS.fr hf0_R F1042 (fun c' hc (hm : c' = N + 2 ∨ c' = N + 2 + 1) => by omega)
  replace hF := hF.trans F1042 (fun c' (hm : c' = N + 2 ∨ c' = N + 2 + 1) => by show (r0 ≤ c' ∧ c' < r0 + 7) ∨ N ≤ c'; omega)
  have F1043 := Fr.recol2 w530 (recol2 (recol2 (recol g530 (N + 6) r0) (N + 0) (r0 + 1)) (N + 2) (r0 + 3)) (N + 4) (r0 + 5)
  replace h541 := h541.recol2 (r0 + 5)
  replace h535 := OwS.fr h535 F1043 (fun c' hc (hm : c' = N + 4 ∨ c' = N + 4 + 1) => by omega)
  replace h538 := OwS.fr h538 F1043 (fun c' hc (hm : c' = N + 4 ∨ c' = N + 4 + 1) => by omega)
  replace h532 := h532.fr F1043 (fun (hm : r0 = N + 4 ∨ r0 = N + 4 + 1) => by omega)
  replace hb0 := hb0.fr F1043 (fun (hm : c0 = N + 4 ∨ c0 = N + 4 + 1) => by omega)
  replace hf0_Done := OwS.fr hf0_Done F1043 (fun c' hc (hm : c' = N + 4 ∨ c' = N + 4 + 1) => by omega)
  replace hf0_N := OwS.fr hf0_N F1043 (fun c' hc (hm : c' = N + 4 ∨ c' = N + 4 + 1) => by omega)
  replace hf0_R := OwS.fr hf0_R F1043 (fun c' hc (hm : c' = N + 4 ∨ c' = N + 4 + 1) => by omega)
  replace hF := hF.trans F1043 (fun c' (hm : c' = N + 4 ∨ c' = N + 4 + 1) => by show (r0 ≤ c' ∧ c' < r0 + 7) ∨ N ≤ c'; omega)
  repeat (with_reducible first | refine then_ret ?_ | refine inBlock_ret ?_)
  exact c_ret1 hS Try.results30 rfl ⟨_, rfl, (recol2 (recol2 (recol2 (recol g530 (N + 6) r0) (N + 0) (r0 + 1)) (N + 2) (r0 + 3)) (N + 4) (r0 + 5)), (some ⟨b531, 0, none⟩), rfl, ⟨b531, A533, cap534, A536, cap537, A539, cap540, rfl, h532, h535, h538, h541⟩, hF⟩


end Go.Proofs.Ytfiodhdldleocaa.Sim
