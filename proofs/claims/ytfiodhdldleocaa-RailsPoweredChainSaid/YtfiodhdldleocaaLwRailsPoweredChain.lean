/-
  Printed by a program of this session (wip/tools): plain functions with the same answers as the Go functions, and the proofs of it.
-/
import Derived.Test.YtfiodhdldleocaaFn
import Derived.Test.YtfiodhdldleocaaOp
namespace Go.Proofs.Ytfiodhdldleocaa.Sim
open Go
set_option linter.unusedVariables false
set_option linter.unusedSimpArgs false

/-! ### law25_RailsPoweredChain: function 9 -/
def law25_RailsPoweredChain.l1 (p2 : Int) (r12 : (List api_Rail)) (v106 : rails_Rails × Int) : Nat → Int → Option (Fl (Fl (Bool) (Unit)) (rails_Rails × Int))
  | 0, _ => none
  | k139 + 1, m1_0 => if decide (m1_0 < (r12.length : Int)) = true then (((idx r12 m1_0).bind fun x151 => if decide (x151.Supply < 0) = true then (some (.nxt ())) else ((rails_Rails_ReadyAt.f v106.1 m1_0).bind fun r162 => (rails_Rails_ReadyAt.f v106.1 x151.Supply).bind fun r173 => (rails_Rails_Powered.f v106.1 m1_0 (wu (v106.2 + (Int.tmod p2 80)))).bind fun r185 => (if r185 = true then (rails_Rails_Powered.f v106.1 x151.Supply (wu (v106.2 + (Int.tmod p2 80)))).bind fun r194 => some (!r194) else some false).bind fun t199 => if (t199 || (r162.2 && ((!r173.2) || (decide (r162.1 < r173.1))))) = true then (some (.out (.out (.out false)))) else (some (.nxt ()))) : Option (Fl (Fl (Fl (Bool) (Unit)) (rails_Rails × Int)) (Unit))).bind fun o147 => o147.go fun _ => law25_RailsPoweredChain.l1 p2 r12 v106 k139 (wi (m1_0 + 1))) else (some (.nxt (v106.1, v106.2)))
def law25_RailsPoweredChain.l0 (p1 : List law25_Call) (p2 : Int) (r12 : (List api_Rail)) : Nat → rails_Rails → Int → Int → Option (Fl (Bool) (Unit))
  | 0, _, _, _ => none
  | k66 + 1, m0_0, m0_1, m0_2 => if decide (m0_2 < (p1.length : Int)) = true then (((idx p1 m0_2).bind fun x78 => (law25_Call_at.f (law25_Call.mk x78.Release x78.Rail x78.Wait false) (r12.length : Int) m0_1).bind fun r96 => ((law25_do.f m0_0 (law25_Call.mk x78.Release x78.Rail x78.Wait false) (r12.length : Int) m0_1).bind fun r114 => if (r114.2.2 == 0) = true then (some (r114.1, r96.2)) else (some (r114.1, m0_1)) : Option (rails_Rails × Int)).bind fun v106 => law25_RailsPoweredChain.l1 p2 r12 v106 FUEL 0 : Option (Fl (Fl (Bool) (Unit)) (rails_Rails × Int))).bind fun o74 => o74.go fun v73 => law25_RailsPoweredChain.l0 p1 p2 r12 k66 v73.1 v73.2 (wi (m0_2 + 1))) else (some (.nxt ()))
def law25_RailsPoweredChain.f (p0 : List api_Rail) (p1 : List law25_Call) (p2 : Int) : Option (Bool) := if decide (40 < (p1.length : Int)) = true then ((law25_awake.f ).bind fun r6 => some r6) else ((law25_Some.f p0).bind fun r12 => (rails_New.f r12).bind fun r22 => if ((r22.2 != 0) || r22.1.isNone) = true then (some false) else (((r22.1).bind fun st55 => law25_RailsPoweredChain.l0 p1 p2 r12 FUEL st55 0 0 : Option (Fl (Bool) (Unit))).bind fun o52 => o52.go fun _ => (law25_awake.f ).bind fun r333 => some r333))
set_option maxRecDepth 100000 in
set_option maxHeartbeats 4000000 in
theorem law25_RailsPoweredChain.calls {p0 : List api_Rail} {A0 : Option Addr} {cap0 : Nat} {C0 : Nat → Prop} {p1 : List law25_Call} {A1 : Option Addr} {cap1 : Nat} {C1 : Nat → Prop} {p2 : Int} {w : World} {g : Nat → Nat} {out : Bool} (N : Nat) (hp0 : RdS kd_api_Rail w g C0 A0 cap0 p0) (hC0 : ∀ c, C0 c → c < N) (hp1 : RdS kd_law25_Call w g C1 A1 cap1 p1) (hC1 : ∀ c, C1 c → c < N) (H : law25_RailsPoweredChain.f p0 p1 p2 = some out) :
    Calls Try.prog 9 #[.slice A0 p0.length cap0, .slice A1 p1.length cap1, .int .u64 p2] w (fun e w' => ∃ v, e = .returned v ∧ ∃ (g' : Nat → Nat), v = .bool out ∧ Fr (fun q => N ≤ q) w g w' g') := by
  unfold law25_RailsPoweredChain.f at H
  refine calls_enter Try.func9 rfl Try.ntmps9 rfl (fun a hS => ?_)
  replace hS : Sl 125 a [(0, .slice A0 p0.length cap0), (1, .slice A1 p1.length cap1), (2, .int .u64 p2)] := hS
  have hF : Fr (fun q => N ≤ q) w g w g := Fr.refl _ _ _
  refine c_pure [(0, .slice A0 p0.length cap0), (1, .slice A1 p1.length cap1), (2, .int .u64 p2)] (fun R hR => st_val hS rfl rfl rfl (r_assign hS rfl rfl) fun a1 hS1 => wpList_nil (hR _ (hS1.re ⟨rfl, rfl, rfl, trivial⟩))) ?_
  clear hS
  clear a
  intro a hS
  refine wp_seq ?_
  refine c_pure [(0, .slice A0 p0.length cap0), (1, .slice A1 p1.length cap1), (2, .int .u64 p2), (26, .bool (decide (40 < (p1.length : Int))))] (fun R hR => st_val hS rfl rfl rfl (r_move hS rfl rfl) fun a2 hS2 => st_val hS2 rfl rfl rfl (r_len (e := 46) (sz := 4) (by_ := 32) hS2 rfl rfl (by kernel_rfl)) fun a3 hS3 => st_val hS3 rfl rfl rfl (r_bin hS3 rfl rfl rfl b_gtr) fun a4 hS4 => wpList_nil (hR _ (hS4.re ⟨rfl, rfl, rfl, rfl, trivial⟩))) ?_
  clear hS
  clear a
  intro a hS
  refine c_cond hS rfl (fun hb5 => ?_) (fun hb5 => ?_)
  · replace H := ite_t hb5 H
    obtain ⟨r6, hr7, H⟩ := bind_el H
    refine c_region (fun K hK => ?_)
    refine st_enter hS rfl rfl rfl (r_call hS rfl rfl (by kernel_rfl)) (law25_awake.calls (g := g) (N + 9)   hr7) ?_
    rintro _ a8 w9 ⟨g9, rfl, F9⟩ hS8
    replace hp0 := RdS.fr hp0 F9 (by decide) (fun q (hq : C0 q) (hm : N + 9 ≤ q) => by have := hC0 q hq; omega)
    replace hp1 := RdS.fr hp1 F9 (by decide) (fun q (hq : C1 q) (hm : N + 9 ≤ q) => by have := hC1 q hq; omega)
    replace hF := hF.trans F9 (fun c' (hm : N + 9 ≤ c') => by show N ≤ c'; omega)
    refine st_val hS8 rfl rfl rfl (r_assign hS8 rfl rfl) fun a10 hS10 => wpList_nil (hK _ _ ?_)
    replace hS : Sl 125 _ [(6, .bool r6)] := hS10.re ⟨rfl, trivial⟩
    clear hK K
    try clear hS8 hS10
    obtain ⟨a, ha⟩ : ∃ a', a' = a10 := ⟨_, rfl⟩
    rw [← ha] at hS ⊢; clear ha
    refine wp_ret ?_
    have e := Option.some.inj H
    subst e
    repeat (with_reducible first | refine then_ret ?_ | refine inBlock_ret ?_)
    exact c_ret1 hS Try.results9 rfl ⟨_, rfl, g9, rfl, hF⟩
  · replace H := ite_f hb5 H
    refine wp_skip ?_
    change Code.wp _ _ _ _ _
    obtain ⟨r12, hr13, H⟩ := bind_el H
    refine c_region (fun K hK => ?_)
    refine st_val hS rfl rfl rfl (r_move hS rfl rfl) fun a11 hS11 => ?_
    refine st_enter hS11 rfl rfl rfl (r_call hS11 rfl rfl (by kernel_rfl)) (law25_Some.calls (C0 := C0) (p0 := p0) (g := g) (N + 9) (N + 0) hp0 (fun q (hq : C0 q) => by have := hC0 q hq; omega) (by omega) hr13) ?_
    rintro _ a18 w19 ⟨g19, A14, cap15, rfl, h16, F19⟩ hS18
    replace hp0 := RdS.fr hp0 F19 (by decide) (fun q (hq : C0 q) (hm : (N + 0 ≤ q ∧ q < N + 0 + 2) ∨ N + 9 ≤ q) => by have := hC0 q hq; omega)
    replace hp1 := RdS.fr hp1 F19 (by decide) (fun q (hq : C1 q) (hm : (N + 0 ≤ q ∧ q < N + 0 + 2) ∨ N + 9 ≤ q) => by have := hC1 q hq; omega)
    replace hF := hF.trans F19 (fun c' (hm : (N + 0 ≤ c' ∧ c' < N + 0 + 2) ∨ N + 9 ≤ c') => by show N ≤ c'; omega)
    refine st_val hS18 rfl rfl rfl (r_assign hS18 rfl rfl) fun a20 hS20 => wpList_nil (hK _ _ ?_)
    replace hS : Sl 125 _ [(1, .slice A1 p1.length cap1), (2, .int .u64 p2), (7, .slice A14 r12.length cap15)] := hS20.re ⟨rfl, rfl, rfl, trivial⟩
    clear hK K
    try clear hS11 hS18 hS20
    obtain ⟨a, ha⟩ : ∃ a', a' = a20 := ⟨_, rfl⟩
    rw [← ha] at hS ⊢; clear ha
    obtain ⟨r22, hr23, H⟩ := bind_el H
    refine c_region (fun K hK => ?_)
    refine st_val hS rfl rfl rfl (r_move hS rfl rfl) fun a21 hS21 => ?_
    refine st_enter hS21 rfl rfl rfl (r_call hS21 rfl rfl (by kernel_rfl)) (rails_New.calls (C0 := (fun q => q = N + 0)) (p0 := r12) (g := g19) (N + 9) (N + 2) (OwD.rdf (fun _ _ _ _ _ _ h => h) h16) (fun q (hq : q = N + 0) => by omega) (by omega) hr23) ?_
    rintro _ a27 w28 ⟨g28, p24, rfl, h25, F28⟩ hS27
    replace h16 := OwS.fr h16 F28 (fun c' hc (hm : (N + 2 ≤ c' ∧ c' < N + 2 + 3) ∨ N + 9 ≤ c') => by omega)
    replace hp1 := RdS.fr hp1 F28 (by decide) (fun q (hq : C1 q) (hm : (N + 2 ≤ q ∧ q < N + 2 + 3) ∨ N + 9 ≤ q) => by have := hC1 q hq; omega)
    replace hF := hF.trans F28 (fun c' (hm : (N + 2 ≤ c' ∧ c' < N + 2 + 3) ∨ N + 9 ≤ c') => by show N ≤ c'; omega)
    refine st_val hS27 rfl rfl rfl (r_move hS27 rfl rfl) fun a29 hS29 => st_val hS29 rfl rfl rfl (r_extract hS29 rfl rfl rfl) fun a30 hS30 => st_val hS30 rfl rfl rfl (r_extract hS30 rfl rfl rfl) fun a31 hS31 => st_val hS31 rfl rfl rfl (r_assign hS31 rfl rfl) fun a32 hS32 => st_val hS32 rfl rfl rfl (r_assign hS32 rfl rfl) fun a33 hS33 => wpList_nil (hK _ _ ?_)
    replace hS : Sl 125 _ [(1, .slice A1 p1.length cap1), (2, .int .u64 p2), (7, .slice A14 r12.length cap15), (8, .pointer p24), (9, .int .i64 r22.2)] := hS33.re ⟨rfl, rfl, rfl, rfl, rfl, trivial⟩
    clear hK K
    try clear hS21 hS27 hS29 hS30 hS31 hS32 hS33
    obtain ⟨a, ha⟩ : ∃ a', a' = a33 := ⟨_, rfl⟩
    rw [← ha] at hS ⊢; clear ha
    refine wp_seq ?_
    refine c_region (fun K hK => ?_)
    refine st_val hS rfl rfl rfl (r_move hS rfl rfl) fun a34 hS34 => st_val hS34 rfl rfl rfl (r_bin hS34 rfl rfl rfl b_neq) fun a35 hS35 => st_val hS35 rfl rfl rfl (r_move hS35 rfl rfl) fun a36 hS36 => ?_
    refine g_join (N := 125) 3 [(1, .slice A1 p1.length cap1), (2, .int .u64 p2), (7, .slice A14 r12.length cap15), (8, .pointer p24), (40, .bool ((r22.2 != 0) || r22.1.isNone))] ?_ (fun hk => ?_)
    rotate_left
    · rcases Bool.eq_false_or_eq_true ((r22.2 != 0)) with hb37 | hb37
      · refine st_off hS36 (want_off hS36 rfl rfl rfl hb37) rfl rfl fun a40 hS40 => st_off hS40 (want_off hS40 rfl rfl rfl hb37) rfl rfl fun a41 hS41 => st_val hS41 rfl rfl rfl (r_pickT hS41 rfl rfl rfl hb37) fun a42 hS42 => hk _ (hS42.re ⟨rfl, rfl, rfl, rfl, (by rw [hb37]; rfl), trivial⟩)
      · refine st_valW hS36 (want_on hS36 rfl rfl rfl hb37) rfl rfl (r_move hS36 rfl rfl) fun a43 hS43 => st_valW hS43 (want_on hS43 rfl rfl rfl hb37) rfl rfl (r_optEq hS43 rfl rfl (by kernel_rfl) (rails_Rails_Opt.isNone h25)) fun a44 hS44 => st_val hS44 rfl rfl rfl (r_pickF hS44 rfl rfl rfl hb37) fun a45 hS45 => hk _ (hS45.re ⟨rfl, rfl, rfl, rfl, (by rw [hb37]; rfl), trivial⟩)
    intro a46 hS46
    refine wpList_nil (hK _ _ ?_)
    replace hS : Sl 125 _ [(1, .slice A1 p1.length cap1), (2, .int .u64 p2), (7, .slice A14 r12.length cap15), (8, .pointer p24), (40, .bool ((r22.2 != 0) || r22.1.isNone))] := hS46.re ⟨rfl, rfl, rfl, rfl, rfl, trivial⟩
    clear hK K
    try clear hS34 hS35 hS36 hS46
    obtain ⟨a, ha⟩ : ∃ a', a' = a46 := ⟨_, rfl⟩
    rw [← ha] at hS ⊢; clear ha
    refine c_cond hS rfl (fun hb47 => ?_) (fun hb47 => ?_)
    · replace H := ite_t hb47 H
      refine c_pure [(6, .bool false)] (fun R hR => st_val hS rfl rfl rfl (r_assign hS rfl rfl) fun a48 hS48 => wpList_nil (hR _ (hS48.re ⟨rfl, trivial⟩))) ?_
      clear hS
      clear a
      intro a hS
      refine wp_ret ?_
      have e := Option.some.inj H
      subst e
      repeat (with_reducible first | refine then_ret ?_ | refine inBlock_ret ?_)
      exact c_ret1 hS Try.results9 rfl ⟨_, rfl, g28, rfl, hF⟩
    · replace H := ite_f hb47 H
      refine wp_skip ?_
      change Code.wp _ _ _ _ _
      refine c_pure [(1, .slice A1 p1.length cap1), (2, .int .u64 p2), (7, .slice A14 r12.length cap15), (8, .pointer p24), (10, .int .u64 0)] (fun R hR => st_val hS rfl rfl rfl (r_assign hS rfl rfl) fun a49 hS49 => wpList_nil (hR _ (hS49.re ⟨rfl, rfl, rfl, rfl, rfl, trivial⟩))) ?_
      clear hS
      clear a
      intro a hS
      obtain ⟨o52, H, Hl53⟩ := bind_el H
      refine c_cut (fun a w50 => ∃ (g50 : Nat → Nat), o52 = .nxt () ∧ Sl 125 a [] ∧ Fr (fun q => N ≤ q) w g w50 g50) ?_ ?_
      · refine c_pure [(1, .slice A1 p1.length cap1), (2, .int .u64 p2), (7, .slice A14 r12.length cap15), (8, .pointer p24), (10, .int .u64 0), (11, .int .i64 0)] (fun R hR => st_val hS rfl rfl rfl (r_assign hS rfl rfl) fun a54 hS54 => wpList_nil (hR _ (hS54.re ⟨rfl, rfl, rfl, rfl, rfl, rfl, trivial⟩))) ?_
        clear hS
        clear a
        intro a hS
        refine wp_block ?_
        obtain ⟨st55, hst56, H⟩ := bind_el H
        rw [hst56] at h25
        obtain ⟨b57, A60, cap61, hp64, h58, h62⟩ := h25
        subst hp64
        refine wp_loop_ghost (fun kq => fun a w65 => ∃ (m0_0 : rails_Rails), ∃ (m0_1 : Int), ∃ (m0_2 : Int), ∃ (g65 : Nat → Nat), law25_RailsPoweredChain.l0 p1 p2 r12 kq m0_0 m0_1 m0_2 = some o52 ∧ Sl 125 a [(1, .slice A1 p1.length cap1), (2, .int .u64 p2), (7, .slice A14 r12.length cap15), (8, .pointer (some ⟨b57, 0, none⟩)), (10, .int .u64 m0_1), (11, .int .i64 m0_2)] ∧ OwS kd_api_Rail 35 w65 g65 (N + 0) A14 cap15 r12 ∧ Bx w65 g65 (N + 2) b57 70 [.slice A60 m0_0.list.length cap61, .int .u64 m0_0.now] ∧ OwS kd_rails_rail 75 w65 g65 (N + 2 + 1) A60 cap61 m0_0.list ∧ RdS kd_law25_Call w65 g65 C1 A1 cap1 p1 ∧ Fr (fun q => N ≤ q) w g w65 g65) FUEL ?_ ?_
        · exact ⟨st55, 0, 0, g28, H, hS.re ⟨rfl, rfl, rfl, rfl, rfl, rfl, trivial⟩, h16, h58, h62, hp1, hF⟩
        · clear H
          clear hp1 h16 h62 h58 hF
          clear hS
          rintro k66 a w65 ⟨m0_0, m0_1, m0_2, g65, hpre0, hS, h16, h58, h62, hp1, hF⟩
          have H := hpre0
          clear hpre0
          cases k66 with
          | zero => exact absurd H (by simp [law25_RailsPoweredChain.l0])
          | succ k66 =>
            rw [law25_RailsPoweredChain.l0] at H
            refine wp_seq ?_
            refine c_pure [(1, .slice A1 p1.length cap1), (2, .int .u64 p2), (7, .slice A14 r12.length cap15), (8, .pointer (some ⟨b57, 0, none⟩)), (10, .int .u64 m0_1), (11, .int .i64 m0_2), (44, .bool (decide (m0_2 < (p1.length : Int))))] (fun R hR => st_val hS rfl rfl rfl (r_move hS rfl rfl) fun a67 hS67 => st_val hS67 rfl rfl rfl (r_move hS67 rfl rfl) fun a68 hS68 => st_val hS68 rfl rfl rfl (r_len (e := 46) (sz := 4) (by_ := 32) hS68 rfl rfl (by kernel_rfl)) fun a69 hS69 => st_val hS69 rfl rfl rfl (r_bin hS69 rfl rfl rfl b_lss) fun a70 hS70 => wpList_nil (hR _ (hS70.re ⟨rfl, rfl, rfl, rfl, rfl, rfl, rfl, trivial⟩))) ?_
            clear hS
            clear a
            intro a hS
            refine c_cond hS rfl (fun hb71 => ?_) (fun hb71 => ?_)
            · replace H := ite_t hb71 H
              refine wp_skip ?_
              change Code.wp _ _ _ _ _
              obtain ⟨o74, H, Hl75⟩ := bind_el H
              refine c_cut (fun a w72 => ∃ (v73 : rails_Rails × Int), ∃ (g72 : Nat → Nat), o74 = .nxt v73 ∧ Sl 125 a [(1, .slice A1 p1.length cap1), (2, .int .u64 p2), (7, .slice A14 r12.length cap15), (8, .pointer (some ⟨b57, 0, none⟩)), (10, .int .u64 v73.2), (11, .int .i64 m0_2)] ∧ OwS kd_api_Rail 35 w72 g72 (N + 0) A14 cap15 r12 ∧ Bx w72 g72 (N + 2) b57 70 [.slice A60 v73.1.list.length cap61, .int .u64 v73.1.now] ∧ OwS kd_rails_rail 75 w72 g72 (N + 2 + 1) A60 cap61 v73.1.list ∧ RdS kd_law25_Call w72 g72 C1 A1 cap1 p1 ∧ Fr (fun q => N ≤ q) w g w72 g72) ?_ ?_
              · refine wp_block ?_
                obtain ⟨x78, hx79, H⟩ := bind_el H
                refine c_region (fun K hK => ?_)
                refine st_val hS rfl rfl rfl (r_move hS rfl rfl) fun a76 hS76 => st_val hS76 rfl rfl rfl (r_move hS76 rfl rfl) fun a77 hS77 => st_val hS77 rfl rfl rfl (r_index (e := 46) (sz := 4) (by_ := 32) hS77 rfl rfl rfl (by kernel_rfl) (RdS.some_ hp1 hx79) (idx_lo hx79) (idx_hi hx79)) fun a80 hS80 => st_val hS80 rfl rfl rfl (r_loadN (n := 4) (cs := [.bool x78.Release, .int .i64 x78.Rail, .int .u64 x78.Wait, .bool x78.Raw]) hS80 rfl rfl (by kernel_rfl) rfl (RdS.cells_off hp1 hx79 0 4)) fun a81 hS81 => ?_
                refine st_eff hS81 rfl rfl rfl (e_alloc (cs := [.bool false, .int .i64 0, .int .u64 0, .bool false]) (N + 5) g65 hS81 rfl (by kernel_rfl)) ?_
                rintro _ a85 w86 g86 ⟨⟨b82, rfl, h83⟩, F86⟩ hS85
                replace h16 := OwS.fr h16 F86 (fun _ _ h => h)
                replace h58 := h58.fr F86 (fun h => h)
                replace h62 := OwS.fr h62 F86 (fun _ _ h => h)
                replace hp1 := RdS.fr hp1 F86 (by decide) (fun _ _ h => h)
                replace hF := hF.trans F86 (fun _ h => h.elim)
                refine st_effS hS85 rfl rfl (e_storeB (n := 4) (bb := true) (cs' := [.bool x78.Release, .int .i64 x78.Rail, .int .u64 x78.Wait, .bool x78.Raw]) g86 hS85 rfl rfl rfl (by kernel_rfl) rfl rfl rfl h83 rfl rfl) ?_
                rintro a87 w88 g88 ⟨h83, F88⟩ hS87
                replace h16 := OwS.fr h16 F88 (fun c' hc (hm : c' = N + 5) => by omega)
                replace h58 := h58.fr F88 (fun (hm : N + 2 = N + 5) => by omega)
                replace h62 := OwS.fr h62 F88 (fun c' hc (hm : c' = N + 5) => by omega)
                replace hp1 := RdS.fr hp1 F88 (by decide) (fun q (hq : C1 q) (hm : q = N + 5) => by have := hC1 q hq; omega)
                replace hF := hF.trans F88 (fun c' (hm : c' = N + 5) => by show N ≤ c'; omega)
                refine wpList_nil (hK _ _ ?_)
                replace hS : Sl 125 _ [(1, .slice A1 p1.length cap1), (2, .int .u64 p2), (7, .slice A14 r12.length cap15), (8, .pointer (some ⟨b57, 0, none⟩)), (10, .int .u64 m0_1), (11, .int .i64 m0_2), (12, .pointer (some ⟨b82, 0, none⟩))] := hS87.re ⟨rfl, rfl, rfl, rfl, rfl, rfl, rfl, trivial⟩
                clear hK K
                try clear hS76 hS77 hS80 hS81 hS85 hS87
                obtain ⟨a, ha⟩ : ∃ a', a' = a87 := ⟨_, rfl⟩
                rw [← ha] at hS ⊢; clear ha
                refine c_region (fun K hK => ?_)
                refine st_val hS rfl rfl rfl (r_fieldB (off := 3) hS rfl rfl (by kernel_rfl)) fun a89 hS89 => ?_
                refine st_effS hS89 rfl rfl (e_storeB (n := 1) (bb := false) (cs' := [.bool x78.Release, .int .i64 x78.Rail, .int .u64 x78.Wait, .bool false]) g88 hS89 rfl rfl rfl (by kernel_rfl) rfl rfl rfl h83 rfl rfl) ?_
                rintro a90 w91 g91 ⟨h83, F91⟩ hS90
                replace h16 := OwS.fr h16 F91 (fun c' hc (hm : c' = N + 5) => by omega)
                replace h58 := h58.fr F91 (fun (hm : N + 2 = N + 5) => by omega)
                replace h62 := OwS.fr h62 F91 (fun c' hc (hm : c' = N + 5) => by omega)
                replace hp1 := RdS.fr hp1 F91 (by decide) (fun q (hq : C1 q) (hm : q = N + 5) => by have := hC1 q hq; omega)
                replace hF := hF.trans F91 (fun c' (hm : c' = N + 5) => by show N ≤ c'; omega)
                refine wpList_nil (hK _ _ ?_)
                replace hS : Sl 125 _ [(1, .slice A1 p1.length cap1), (2, .int .u64 p2), (7, .slice A14 r12.length cap15), (8, .pointer (some ⟨b57, 0, none⟩)), (10, .int .u64 m0_1), (11, .int .i64 m0_2), (12, .pointer (some ⟨b82, 0, none⟩))] := hS90.re ⟨rfl, rfl, rfl, rfl, rfl, rfl, rfl, trivial⟩
                clear hK K
                try clear hS89 hS90
                obtain ⟨a, ha⟩ : ∃ a', a' = a90 := ⟨_, rfl⟩
                rw [← ha] at hS ⊢; clear ha
                obtain ⟨r96, hr97, H⟩ := bind_el H
                refine c_region (fun K hK => ?_)
                refine st_val hS rfl rfl rfl (r_loadN (n := 4) (cs := [.bool x78.Release, .int .i64 x78.Rail, .int .u64 x78.Wait, .bool false]) hS rfl rfl (by kernel_rfl) rfl (Bx.cells_off h83 0 4)) fun a92 hS92 => st_val hS92 rfl rfl rfl (r_move hS92 rfl rfl) fun a93 hS93 => st_val hS93 rfl rfl rfl (r_len (e := 35) (sz := 3) (by_ := 24) hS93 rfl rfl (by kernel_rfl)) fun a94 hS94 => st_val hS94 rfl rfl rfl (r_move hS94 rfl rfl) fun a95 hS95 => ?_
                refine st_enter hS95 rfl rfl rfl (r_call hS95 rfl rfl (by kernel_rfl)) (law25_Call_at.calls (p0 := (law25_Call.mk x78.Release x78.Rail x78.Wait false)) (p1 := (r12.length : Int)) (p2 := m0_1) (g := g91) (N + 9)   hr97) ?_
                rintro _ a98 w99 ⟨g99, rfl, F99⟩ hS98
                replace h16 := OwS.fr h16 F99 (fun c' hc (hm : N + 9 ≤ c') => by omega)
                replace h58 := h58.fr F99 (fun (hm : N + 9 ≤ N + 2) => by omega)
                replace h62 := OwS.fr h62 F99 (fun c' hc (hm : N + 9 ≤ c') => by omega)
                replace h83 := h83.fr F99 (fun (hm : N + 9 ≤ N + 5) => by omega)
                replace hp1 := RdS.fr hp1 F99 (by decide) (fun q (hq : C1 q) (hm : N + 9 ≤ q) => by have := hC1 q hq; omega)
                replace hF := hF.trans F99 (fun c' (hm : N + 9 ≤ c') => by show N ≤ c'; omega)
                refine st_val hS98 rfl rfl rfl (r_move hS98 rfl rfl) fun a100 hS100 => st_val hS100 rfl rfl rfl (r_extract hS100 rfl rfl rfl) fun a101 hS101 => st_val hS101 rfl rfl rfl (r_extract hS101 rfl rfl rfl) fun a102 hS102 => st_val hS102 rfl rfl rfl (r_assign hS102 rfl rfl) fun a103 hS103 => st_val hS103 rfl rfl rfl (r_assign hS103 rfl rfl) fun a104 hS104 => wpList_nil (hK _ _ ?_)
                replace hS : Sl 125 _ [(1, .slice A1 p1.length cap1), (2, .int .u64 p2), (7, .slice A14 r12.length cap15), (8, .pointer (some ⟨b57, 0, none⟩)), (10, .int .u64 m0_1), (11, .int .i64 m0_2), (12, .pointer (some ⟨b82, 0, none⟩)), (14, .int .u64 r96.2)] := hS104.re ⟨rfl, rfl, rfl, rfl, rfl, rfl, rfl, rfl, trivial⟩
                clear hK K
                try clear hS92 hS93 hS94 hS95 hS98 hS100 hS101 hS102 hS103 hS104
                obtain ⟨a, ha⟩ : ∃ a', a' = a104 := ⟨_, rfl⟩
                rw [← ha] at hS ⊢; clear ha
                obtain ⟨v106, H, Hl108⟩ := bind_el H
                refine c_cut (fun a w105 => ∃ (g105 : Nat → Nat), Sl 125 a [(1, .slice A1 p1.length cap1), (2, .int .u64 p2), (7, .slice A14 r12.length cap15), (8, .pointer (some ⟨b57, 0, none⟩)), (10, .int .u64 v106.2), (11, .int .i64 m0_2)] ∧ OwS kd_api_Rail 35 w105 g105 (N + 0) A14 cap15 r12 ∧ Bx w105 g105 (N + 2) b57 70 [.slice A60 v106.1.list.length cap61, .int .u64 v106.1.now] ∧ OwS kd_rails_rail 75 w105 g105 (N + 2 + 1) A60 cap61 v106.1.list ∧ RdS kd_law25_Call w105 g105 C1 A1 cap1 p1 ∧ Fr (fun q => N ≤ q) w g w105 g105) ?_ ?_
                · obtain ⟨r114, hr115, H⟩ := bind_el H
                  refine c_region (fun K hK => ?_)
                  refine st_val hS rfl rfl rfl (r_move hS rfl rfl) fun a109 hS109 => st_val hS109 rfl rfl rfl (r_loadN (n := 4) (cs := [.bool x78.Release, .int .i64 x78.Rail, .int .u64 x78.Wait, .bool false]) hS109 rfl rfl (by kernel_rfl) rfl (Bx.cells_off h83 0 4)) fun a110 hS110 => st_val hS110 rfl rfl rfl (r_move hS110 rfl rfl) fun a111 hS111 => st_val hS111 rfl rfl rfl (r_len (e := 35) (sz := 3) (by_ := 24) hS111 rfl rfl (by kernel_rfl)) fun a112 hS112 => st_val hS112 rfl rfl rfl (r_move hS112 rfl rfl) fun a113 hS113 => ?_
                  refine st_enter hS113 rfl rfl rfl (r_call hS113 rfl rfl (by kernel_rfl)) (law25_do.calls (c0 := N + 2) (b_p0 := b57) (A_list_p0 := A60) (cap_list_p0 := cap61) (p0 := m0_0) (p1 := (law25_Call.mk x78.Release x78.Rail x78.Wait false)) (p2 := (r12.length : Int)) (p3 := m0_1) (g := g99) (N + 9) (N + 7) ⟨h58, h62⟩ (by omega) (by omega) (by omega) hr115) ?_
                  rintro _ a120 w121 ⟨g121, A116, cap117, rfl, ⟨h58, h62⟩, h118, F121⟩ hS120
                  replace h16 := OwS.fr h16 F121 (fun c' hc (hm : (N + 2 ≤ c' ∧ c' < N + 2 + 3) ∨ (N + 7 ≤ c' ∧ c' < N + 7 + 2) ∨ N + 9 ≤ c') => by omega)
                  replace h83 := h83.fr F121 (fun (hm : (N + 2 ≤ N + 5 ∧ N + 5 < N + 2 + 3) ∨ (N + 7 ≤ N + 5 ∧ N + 5 < N + 7 + 2) ∨ N + 9 ≤ N + 5) => by omega)
                  replace hp1 := RdS.fr hp1 F121 (by decide) (fun q (hq : C1 q) (hm : (N + 2 ≤ q ∧ q < N + 2 + 3) ∨ (N + 7 ≤ q ∧ q < N + 7 + 2) ∨ N + 9 ≤ q) => by have := hC1 q hq; omega)
                  replace hF := hF.trans F121 (fun c' (hm : (N + 2 ≤ c' ∧ c' < N + 2 + 3) ∨ (N + 7 ≤ c' ∧ c' < N + 7 + 2) ∨ N + 9 ≤ c') => by show N ≤ c'; omega)
                  refine st_val hS120 rfl rfl rfl (r_move hS120 rfl rfl) fun a122 hS122 => st_val hS122 rfl rfl rfl (r_extract hS122 rfl rfl rfl) fun a123 hS123 => st_val hS123 rfl rfl rfl (r_extract hS123 rfl rfl rfl) fun a124 hS124 => st_val hS124 rfl rfl rfl (r_assign hS124 rfl rfl) fun a125 hS125 => st_val hS125 rfl rfl rfl (r_assign hS125 rfl rfl) fun a126 hS126 => wpList_nil (hK _ _ ?_)
                  replace hS : Sl 125 _ [(1, .slice A1 p1.length cap1), (2, .int .u64 p2), (7, .slice A14 r12.length cap15), (8, .pointer (some ⟨b57, 0, none⟩)), (10, .int .u64 m0_1), (11, .int .i64 m0_2), (14, .int .u64 r96.2), (16, .int .i64 r114.2.2)] := hS126.re ⟨rfl, rfl, rfl, rfl, rfl, rfl, rfl, rfl, trivial⟩
                  clear hK K
                  try clear hS109 hS110 hS111 hS112 hS113 hS120 hS122 hS123 hS124 hS125 hS126
                  obtain ⟨a, ha⟩ : ∃ a', a' = a126 := ⟨_, rfl⟩
                  rw [← ha] at hS ⊢; clear ha
                  refine c_pure [(1, .slice A1 p1.length cap1), (2, .int .u64 p2), (7, .slice A14 r12.length cap15), (8, .pointer (some ⟨b57, 0, none⟩)), (10, .int .u64 m0_1), (11, .int .i64 m0_2), (14, .int .u64 r96.2), (70, .bool (r114.2.2 == 0))] (fun R hR => st_val hS rfl rfl rfl (r_move hS rfl rfl) fun a127 hS127 => st_val hS127 rfl rfl rfl (r_bin hS127 rfl rfl rfl b_eql) fun a128 hS128 => wpList_nil (hR _ (hS128.re ⟨rfl, rfl, rfl, rfl, rfl, rfl, rfl, rfl, trivial⟩))) ?_
                  clear hS
                  clear a
                  intro a hS
                  refine c_cond hS rfl (fun hb129 => ?_) (fun hb129 => ?_)
                  · replace H := ite_t hb129 H
                    refine c_pure1 [(1, .slice A1 p1.length cap1), (2, .int .u64 p2), (7, .slice A14 r12.length cap15), (8, .pointer (some ⟨b57, 0, none⟩)), (10, .int .u64 r96.2), (11, .int .i64 m0_2)] (fun R hR => st_val hS rfl rfl rfl (r_move hS rfl rfl) fun a130 hS130 => st_val hS130 rfl rfl rfl (r_assign hS130 rfl rfl) fun a131 hS131 => wpList_nil (hR _ (hS131.re ⟨rfl, rfl, rfl, rfl, rfl, rfl, trivial⟩))) ?_
                    clear hS
                    clear a
                    intro a hS
                    have e := Option.some.inj H
                    subst e
                    exact ⟨g121, hS.re ⟨rfl, rfl, rfl, rfl, rfl, rfl, trivial⟩, h16, h58, h62, hp1, hF⟩
                  · replace H := ite_f hb129 H
                    refine wp_skip ?_
                    have e := Option.some.inj H
                    subst e
                    exact ⟨g121, hS.re ⟨rfl, rfl, rfl, rfl, rfl, rfl, trivial⟩, h16, h58, h62, hp1, hF⟩
                · clear H
                  clear hp1 h16 h62 h58 h83 hF
                  clear hS
                  rintro a w105 ⟨g105, hS, h16, h58, h62, hp1, hF⟩
                  have H := Hl108
                  clear Hl108
                  refine c_pure [(1, .slice A1 p1.length cap1), (2, .int .u64 p2), (7, .slice A14 r12.length cap15), (8, .pointer (some ⟨b57, 0, none⟩)), (10, .int .u64 v106.2), (11, .int .i64 m0_2), (17, .int .u64 (wu (v106.2 + (Int.tmod p2 80))))] (fun R hR => st_val hS rfl rfl rfl (r_move hS rfl rfl) fun a132 hS132 => st_val hS132 rfl rfl rfl (r_move hS132 rfl rfl) fun a133 hS133 => st_val hS133 rfl rfl rfl (r_bin hS133 rfl rfl rfl (b_rem (by decide))) fun a134 hS134 => st_val hS134 rfl rfl rfl (r_bin hS134 rfl rfl rfl b_add) fun a135 hS135 => st_val hS135 rfl rfl rfl (r_assign hS135 rfl rfl) fun a136 hS136 => wpList_nil (hR _ (hS136.re ⟨rfl, rfl, rfl, rfl, rfl, rfl, rfl, trivial⟩))) ?_
                  clear hS
                  clear a
                  intro a hS
                  refine c_pure [(1, .slice A1 p1.length cap1), (2, .int .u64 p2), (7, .slice A14 r12.length cap15), (8, .pointer (some ⟨b57, 0, none⟩)), (10, .int .u64 v106.2), (11, .int .i64 m0_2), (17, .int .u64 (wu (v106.2 + (Int.tmod p2 80)))), (18, .int .i64 0)] (fun R hR => st_val hS rfl rfl rfl (r_assign hS rfl rfl) fun a137 hS137 => wpList_nil (hR _ (hS137.re ⟨rfl, rfl, rfl, rfl, rfl, rfl, rfl, rfl, trivial⟩))) ?_
                  clear hS
                  clear a
                  intro a hS
                  refine wp_block ?_
                  refine wp_loop_ghost (fun kq => fun a w138 => ∃ (m1_0 : Int), ∃ (g138 : Nat → Nat), law25_RailsPoweredChain.l1 p2 r12 v106 kq m1_0 = some o74 ∧ Sl 125 a [(1, .slice A1 p1.length cap1), (2, .int .u64 p2), (7, .slice A14 r12.length cap15), (8, .pointer (some ⟨b57, 0, none⟩)), (10, .int .u64 v106.2), (11, .int .i64 m0_2), (17, .int .u64 (wu (v106.2 + (Int.tmod p2 80)))), (18, .int .i64 m1_0)] ∧ OwS kd_api_Rail 35 w138 g138 (N + 0) A14 cap15 r12 ∧ Bx w138 g138 (N + 2) b57 70 [.slice A60 v106.1.list.length cap61, .int .u64 v106.1.now] ∧ OwS kd_rails_rail 75 w138 g138 (N + 2 + 1) A60 cap61 v106.1.list ∧ RdS kd_law25_Call w138 g138 C1 A1 cap1 p1 ∧ Fr (fun q => N ≤ q) w g w138 g138) FUEL ?_ ?_
                  · exact ⟨0, g105, H, hS.re ⟨rfl, rfl, rfl, rfl, rfl, rfl, rfl, rfl, trivial⟩, h16, h58, h62, hp1, hF⟩
                  · clear H
                    clear hp1 h16 h62 h58 hF
                    clear hS
                    rintro k139 a w138 ⟨m1_0, g138, hpre0, hS, h16, h58, h62, hp1, hF⟩
                    have H := hpre0
                    clear hpre0
                    cases k139 with
                    | zero => exact absurd H (by simp [law25_RailsPoweredChain.l1])
                    | succ k139 =>
                      rw [law25_RailsPoweredChain.l1] at H
                      refine wp_seq ?_
                      refine c_pure [(1, .slice A1 p1.length cap1), (2, .int .u64 p2), (7, .slice A14 r12.length cap15), (8, .pointer (some ⟨b57, 0, none⟩)), (10, .int .u64 v106.2), (11, .int .i64 m0_2), (17, .int .u64 (wu (v106.2 + (Int.tmod p2 80)))), (18, .int .i64 m1_0), (79, .bool (decide (m1_0 < (r12.length : Int))))] (fun R hR => st_val hS rfl rfl rfl (r_move hS rfl rfl) fun a140 hS140 => st_val hS140 rfl rfl rfl (r_move hS140 rfl rfl) fun a141 hS141 => st_val hS141 rfl rfl rfl (r_len (e := 35) (sz := 3) (by_ := 24) hS141 rfl rfl (by kernel_rfl)) fun a142 hS142 => st_val hS142 rfl rfl rfl (r_bin hS142 rfl rfl rfl b_lss) fun a143 hS143 => wpList_nil (hR _ (hS143.re ⟨rfl, rfl, rfl, rfl, rfl, rfl, rfl, rfl, rfl, trivial⟩))) ?_
                      clear hS
                      clear a
                      intro a hS
                      refine c_cond hS rfl (fun hb144 => ?_) (fun hb144 => ?_)
                      · replace H := ite_t hb144 H
                        refine wp_skip ?_
                        change Code.wp _ _ _ _ _
                        obtain ⟨o147, H, Hl148⟩ := bind_el H
                        refine c_cut (fun a w145 => ∃ (g145 : Nat → Nat), o147 = .nxt () ∧ Sl 125 a [(1, .slice A1 p1.length cap1), (2, .int .u64 p2), (7, .slice A14 r12.length cap15), (8, .pointer (some ⟨b57, 0, none⟩)), (10, .int .u64 v106.2), (11, .int .i64 m0_2), (17, .int .u64 (wu (v106.2 + (Int.tmod p2 80)))), (18, .int .i64 m1_0)] ∧ OwS kd_api_Rail 35 w145 g145 (N + 0) A14 cap15 r12 ∧ Bx w145 g145 (N + 2) b57 70 [.slice A60 v106.1.list.length cap61, .int .u64 v106.1.now] ∧ OwS kd_rails_rail 75 w145 g145 (N + 2 + 1) A60 cap61 v106.1.list ∧ RdS kd_law25_Call w145 g145 C1 A1 cap1 p1 ∧ Fr (fun q => N ≤ q) w g w145 g145) ?_ ?_
                        · refine wp_block ?_
                          obtain ⟨x151, hx152, H⟩ := bind_el H
                          refine c_pure [(1, .slice A1 p1.length cap1), (2, .int .u64 p2), (7, .slice A14 r12.length cap15), (8, .pointer (some ⟨b57, 0, none⟩)), (10, .int .u64 v106.2), (11, .int .i64 m0_2), (17, .int .u64 (wu (v106.2 + (Int.tmod p2 80)))), (18, .int .i64 m1_0), (19, .int .i64 x151.Supply)] (fun R hR => st_val hS rfl rfl rfl (r_move hS rfl rfl) fun a149 hS149 => st_val hS149 rfl rfl rfl (r_move hS149 rfl rfl) fun a150 hS150 => st_val hS150 rfl rfl rfl (r_index (e := 35) (sz := 3) (by_ := 24) hS150 rfl rfl rfl (by kernel_rfl) (RdS.some_ (OwS.rd h16) hx152) (idx_lo hx152) (idx_hi hx152)) fun a153 hS153 => st_val hS153 rfl rfl rfl (r_fieldE (off := 0) hS153 rfl rfl (by kernel_rfl)) fun a154 hS154 => st_val hS154 rfl rfl rfl (r_load1 (n := 1) hS154 rfl rfl (by kernel_rfl) (RdS.cell (i := m1_0) (sz := 3) (j := 0) (OwS.rd h16) hx152 rfl)) fun a155 hS155 => st_val hS155 rfl rfl rfl (r_assign hS155 rfl rfl) fun a156 hS156 => wpList_nil (hR _ (hS156.re ⟨rfl, rfl, rfl, rfl, rfl, rfl, rfl, rfl, rfl, trivial⟩))) ?_
                          clear hS
                          clear a
                          intro a hS
                          refine wp_seq ?_
                          refine c_pure [(1, .slice A1 p1.length cap1), (2, .int .u64 p2), (7, .slice A14 r12.length cap15), (8, .pointer (some ⟨b57, 0, none⟩)), (10, .int .u64 v106.2), (11, .int .i64 m0_2), (17, .int .u64 (wu (v106.2 + (Int.tmod p2 80)))), (18, .int .i64 m1_0), (19, .int .i64 x151.Supply), (88, .bool (decide (x151.Supply < 0)))] (fun R hR => st_val hS rfl rfl rfl (r_move hS rfl rfl) fun a157 hS157 => st_val hS157 rfl rfl rfl (r_bin hS157 rfl rfl rfl b_lss) fun a158 hS158 => wpList_nil (hR _ (hS158.re ⟨rfl, rfl, rfl, rfl, rfl, rfl, rfl, rfl, rfl, rfl, trivial⟩))) ?_
                          clear hS
                          clear a
                          intro a hS
                          refine c_cond hS rfl (fun hb159 => ?_) (fun hb159 => ?_)
                          · replace H := ite_t hb159 H
                            refine wp_exit ?_
                            have e := Option.some.inj H
                            exact ⟨g138, e.symm, hS.re ⟨rfl, rfl, rfl, rfl, rfl, rfl, rfl, rfl, trivial⟩, h16, h58, h62, hp1, hF⟩
                          · replace H := ite_f hb159 H
                            refine wp_skip ?_
                            change Code.wp _ _ _ _ _
                            obtain ⟨r162, hr163, H⟩ := bind_el H
                            refine c_region (fun K hK => ?_)
                            refine st_val hS rfl rfl rfl (r_move hS rfl rfl) fun a160 hS160 => st_val hS160 rfl rfl rfl (r_move hS160 rfl rfl) fun a161 hS161 => ?_
                            refine st_enter hS161 rfl rfl rfl (r_call hS161 rfl rfl (by kernel_rfl)) (rails_Rails_ReadyAt.calls (c0 := N + 2) (b_p0 := b57) (A_list_p0 := A60) (cap_list_p0 := cap61) (p0 := v106.1) (p1 := m1_0) (g := g138) (N + 9)  ⟨h58, h62⟩ (by omega) hr163) ?_
                            rintro _ a164 w165 ⟨g165, rfl, F165⟩ hS164
                            replace h16 := OwS.fr h16 F165 (fun c' hc (hm : N + 9 ≤ c') => by omega)
                            replace h58 := h58.fr F165 (fun (hm : N + 9 ≤ N + 2) => by omega)
                            replace h62 := OwS.fr h62 F165 (fun c' hc (hm : N + 9 ≤ c') => by omega)
                            replace hp1 := RdS.fr hp1 F165 (by decide) (fun q (hq : C1 q) (hm : N + 9 ≤ q) => by have := hC1 q hq; omega)
                            replace hF := hF.trans F165 (fun c' (hm : N + 9 ≤ c') => by show N ≤ c'; omega)
                            refine st_val hS164 rfl rfl rfl (r_move hS164 rfl rfl) fun a166 hS166 => st_val hS166 rfl rfl rfl (r_extract hS166 rfl rfl rfl) fun a167 hS167 => st_val hS167 rfl rfl rfl (r_extract hS167 rfl rfl rfl) fun a168 hS168 => st_val hS168 rfl rfl rfl (r_assign hS168 rfl rfl) fun a169 hS169 => st_val hS169 rfl rfl rfl (r_assign hS169 rfl rfl) fun a170 hS170 => wpList_nil (hK _ _ ?_)
                            replace hS : Sl 125 _ [(1, .slice A1 p1.length cap1), (2, .int .u64 p2), (7, .slice A14 r12.length cap15), (8, .pointer (some ⟨b57, 0, none⟩)), (10, .int .u64 v106.2), (11, .int .i64 m0_2), (17, .int .u64 (wu (v106.2 + (Int.tmod p2 80)))), (18, .int .i64 m1_0), (19, .int .i64 x151.Supply), (20, .int .u64 r162.1), (21, .bool r162.2)] := hS170.re ⟨rfl, rfl, rfl, rfl, rfl, rfl, rfl, rfl, rfl, rfl, rfl, trivial⟩
                            clear hK K
                            try clear hS160 hS161 hS164 hS166 hS167 hS168 hS169 hS170
                            obtain ⟨a, ha⟩ : ∃ a', a' = a170 := ⟨_, rfl⟩
                            rw [← ha] at hS ⊢; clear ha
                            obtain ⟨r173, hr174, H⟩ := bind_el H
                            refine c_region (fun K hK => ?_)
                            refine st_val hS rfl rfl rfl (r_move hS rfl rfl) fun a171 hS171 => st_val hS171 rfl rfl rfl (r_move hS171 rfl rfl) fun a172 hS172 => ?_
                            refine st_enter hS172 rfl rfl rfl (r_call hS172 rfl rfl (by kernel_rfl)) (rails_Rails_ReadyAt.calls (c0 := N + 2) (b_p0 := b57) (A_list_p0 := A60) (cap_list_p0 := cap61) (p0 := v106.1) (p1 := x151.Supply) (g := g165) (N + 9)  ⟨h58, h62⟩ (by omega) hr174) ?_
                            rintro _ a175 w176 ⟨g176, rfl, F176⟩ hS175
                            replace h16 := OwS.fr h16 F176 (fun c' hc (hm : N + 9 ≤ c') => by omega)
                            replace h58 := h58.fr F176 (fun (hm : N + 9 ≤ N + 2) => by omega)
                            replace h62 := OwS.fr h62 F176 (fun c' hc (hm : N + 9 ≤ c') => by omega)
                            replace hp1 := RdS.fr hp1 F176 (by decide) (fun q (hq : C1 q) (hm : N + 9 ≤ q) => by have := hC1 q hq; omega)
                            replace hF := hF.trans F176 (fun c' (hm : N + 9 ≤ c') => by show N ≤ c'; omega)
                            refine st_val hS175 rfl rfl rfl (r_move hS175 rfl rfl) fun a177 hS177 => st_val hS177 rfl rfl rfl (r_extract hS177 rfl rfl rfl) fun a178 hS178 => st_val hS178 rfl rfl rfl (r_extract hS178 rfl rfl rfl) fun a179 hS179 => st_val hS179 rfl rfl rfl (r_assign hS179 rfl rfl) fun a180 hS180 => st_val hS180 rfl rfl rfl (r_assign hS180 rfl rfl) fun a181 hS181 => wpList_nil (hK _ _ ?_)
                            replace hS : Sl 125 _ [(1, .slice A1 p1.length cap1), (2, .int .u64 p2), (7, .slice A14 r12.length cap15), (8, .pointer (some ⟨b57, 0, none⟩)), (10, .int .u64 v106.2), (11, .int .i64 m0_2), (17, .int .u64 (wu (v106.2 + (Int.tmod p2 80)))), (18, .int .i64 m1_0), (19, .int .i64 x151.Supply), (20, .int .u64 r162.1), (21, .bool r162.2), (22, .int .u64 r173.1), (23, .bool r173.2)] := hS181.re ⟨rfl, rfl, rfl, rfl, rfl, rfl, rfl, rfl, rfl, rfl, rfl, rfl, rfl, trivial⟩
                            clear hK K
                            try clear hS171 hS172 hS175 hS177 hS178 hS179 hS180 hS181
                            obtain ⟨a, ha⟩ : ∃ a', a' = a181 := ⟨_, rfl⟩
                            rw [← ha] at hS ⊢; clear ha
                            obtain ⟨r185, hr186, H⟩ := bind_el H
                            obtain ⟨t199, ht200, H⟩ := bind_el H
                            refine c_region (fun K hK => ?_)
                            refine st_val hS rfl rfl rfl (r_move hS rfl rfl) fun a182 hS182 => st_val hS182 rfl rfl rfl (r_move hS182 rfl rfl) fun a183 hS183 => st_val hS183 rfl rfl rfl (r_move hS183 rfl rfl) fun a184 hS184 => ?_
                            refine st_enter hS184 rfl rfl rfl (r_call hS184 rfl rfl (by kernel_rfl)) (rails_Rails_Powered.calls (c0 := N + 2) (b_p0 := b57) (A_list_p0 := A60) (cap_list_p0 := cap61) (p0 := v106.1) (p1 := m1_0) (p2 := (wu (v106.2 + (Int.tmod p2 80)))) (g := g176) (N + 9)  ⟨h58, h62⟩ (by omega) hr186) ?_
                            rintro _ a187 w188 ⟨g188, rfl, F188⟩ hS187
                            replace h16 := OwS.fr h16 F188 (fun c' hc (hm : N + 9 ≤ c') => by omega)
                            replace h58 := h58.fr F188 (fun (hm : N + 9 ≤ N + 2) => by omega)
                            replace h62 := OwS.fr h62 F188 (fun c' hc (hm : N + 9 ≤ c') => by omega)
                            replace hp1 := RdS.fr hp1 F188 (by decide) (fun q (hq : C1 q) (hm : N + 9 ≤ q) => by have := hC1 q hq; omega)
                            replace hF := hF.trans F188 (fun c' (hm : N + 9 ≤ c') => by show N ≤ c'; omega)
                            refine st_val hS187 rfl rfl rfl (r_move hS187 rfl rfl) fun a189 hS189 => ?_
                            refine g_joinR 6 (fun a w201 => ∃ (g201 : Nat → Nat), Sl 125 a [(1, .slice A1 p1.length cap1), (2, .int .u64 p2), (7, .slice A14 r12.length cap15), (8, .pointer (some ⟨b57, 0, none⟩)), (10, .int .u64 v106.2), (11, .int .i64 m0_2), (17, .int .u64 (wu (v106.2 + (Int.tmod p2 80)))), (18, .int .i64 m1_0), (20, .int .u64 r162.1), (21, .bool r162.2), (22, .int .u64 r173.1), (23, .bool r173.2), (111, .bool t199)] ∧ OwS kd_api_Rail 35 w201 g201 (N + 0) A14 cap15 r12 ∧ Bx w201 g201 (N + 2) b57 70 [.slice A60 v106.1.list.length cap61, .int .u64 v106.1.now] ∧ OwS kd_rails_rail 75 w201 g201 (N + 2 + 1) A60 cap61 v106.1.list ∧ RdS kd_law25_Call w201 g201 C1 A1 cap1 p1 ∧ Fr (fun q => N ≤ q) w g w201 g201) ?_ (fun hk => ?_)
                            rotate_left
                            · rcases Bool.eq_false_or_eq_true (r185) with hb190 | hb190
                              · have H := ite_t hb190 ht200
                                obtain ⟨r205, hr206, H⟩ := bind_el H
                                have e210 := Option.some.inj H
                                refine st_valW hS189 (want_on hS189 rfl rfl rfl hb190) rfl rfl (r_move hS189 rfl rfl) fun a202 hS202 => st_valW hS202 (want_on hS202 rfl rfl rfl hb190) rfl rfl (r_move hS202 rfl rfl) fun a203 hS203 => st_valW hS203 (want_on hS203 rfl rfl rfl hb190) rfl rfl (r_move hS203 rfl rfl) fun a204 hS204 => ?_
                                refine st_enterW hS204 (want_on hS204 rfl rfl rfl hb190) rfl rfl (r_call hS204 rfl rfl (by kernel_rfl)) (rails_Rails_Powered.calls (c0 := N + 2) (b_p0 := b57) (A_list_p0 := A60) (cap_list_p0 := cap61) (p0 := v106.1) (p1 := x151.Supply) (p2 := (wu (v106.2 + (Int.tmod p2 80)))) (g := g188) (N + 9)  ⟨h58, h62⟩ (by omega) hr206) ?_
                                rintro _ a207 w208 ⟨g208, rfl, F208⟩ hS207
                                replace h16 := OwS.fr h16 F208 (fun c' hc (hm : N + 9 ≤ c') => by omega)
                                replace h58 := h58.fr F208 (fun (hm : N + 9 ≤ N + 2) => by omega)
                                replace h62 := OwS.fr h62 F208 (fun c' hc (hm : N + 9 ≤ c') => by omega)
                                replace hp1 := RdS.fr hp1 F208 (by decide) (fun q (hq : C1 q) (hm : N + 9 ≤ q) => by have := hC1 q hq; omega)
                                replace hF := hF.trans F208 (fun c' (hm : N + 9 ≤ c') => by show N ≤ c'; omega)
                                refine st_valW hS207 (want_on hS207 rfl rfl rfl hb190) rfl rfl (r_not hS207 rfl rfl) fun a209 hS209 => ?_
                                refine st_val hS209 rfl rfl rfl (r_pickT hS209 rfl rfl rfl hb190) fun a211 hS211 => hk _ _ ?_
                                exact ⟨g208, hS211.re ⟨rfl, rfl, rfl, rfl, rfl, rfl, rfl, rfl, rfl, rfl, rfl, rfl, (by rw [← e210]; rfl), trivial⟩, h16, h58, h62, hp1, hF⟩
                              · have H := ite_f hb190 ht200
                                have e212 := Option.some.inj H
                                refine st_off hS189 (want_off hS189 rfl rfl rfl hb190) rfl rfl fun a213 hS213 => st_off hS213 (want_off hS213 rfl rfl rfl hb190) rfl rfl fun a214 hS214 => st_off hS214 (want_off hS214 rfl rfl rfl hb190) rfl rfl fun a215 hS215 => st_off hS215 (want_off hS215 rfl rfl rfl hb190) rfl rfl fun a216 hS216 => st_off hS216 (want_off hS216 rfl rfl rfl hb190) rfl rfl fun a217 hS217 => st_val hS217 rfl rfl rfl (r_pickF hS217 rfl rfl rfl hb190) fun a218 hS218 => hk _ _ ?_
                                exact ⟨g188, hS218.re ⟨rfl, rfl, rfl, rfl, rfl, rfl, rfl, rfl, rfl, rfl, rfl, rfl, (by rw [← e212]; rfl), trivial⟩, h16, h58, h62, hp1, hF⟩
                            rintro a219 w201 ⟨g201, hS219, h16, h58, h62, hp1, hF⟩
                            refine st_val hS219 rfl rfl rfl (r_move hS219 rfl rfl) fun a220 hS220 => ?_
                            refine g_join (N := 125) 11 [(1, .slice A1 p1.length cap1), (2, .int .u64 p2), (7, .slice A14 r12.length cap15), (8, .pointer (some ⟨b57, 0, none⟩)), (10, .int .u64 v106.2), (11, .int .i64 m0_2), (17, .int .u64 (wu (v106.2 + (Int.tmod p2 80)))), (18, .int .i64 m1_0), (123, .bool (t199 || (r162.2 && ((!r173.2) || (decide (r162.1 < r173.1))))))] ?_ (fun hk => ?_)
                            rotate_left
                            · rcases Bool.eq_false_or_eq_true (t199) with hb221 | hb221
                              · refine st_off hS220 (want_off hS220 rfl rfl rfl hb221) rfl rfl fun a267 hS267 => st_off hS267 (want_off hS267 rfl rfl rfl hb221) rfl rfl fun a268 hS268 => st_off hS268 (want_un hS268 rfl rfl rfl) rfl rfl fun a269 hS269 => st_off hS269 (want_un hS269 rfl rfl rfl) rfl rfl fun a270 hS270 => st_off hS270 (want_un hS270 rfl rfl rfl) rfl rfl fun a271 hS271 => st_off hS271 (want_un hS271 rfl rfl rfl) rfl rfl fun a272 hS272 => st_off hS272 (want_un hS272 rfl rfl rfl) rfl rfl fun a273 hS273 => st_off hS273 (want_un hS273 rfl rfl rfl) rfl rfl fun a274 hS274 => st_off hS274 (want_un hS274 rfl rfl rfl) rfl rfl fun a275 hS275 => st_off hS275 (want_off hS275 rfl rfl rfl hb221) rfl rfl fun a276 hS276 => st_val hS276 rfl rfl rfl (r_pickT hS276 rfl rfl rfl hb221) fun a277 hS277 => hk _ (hS277.re ⟨rfl, rfl, rfl, rfl, rfl, rfl, rfl, rfl, (by rw [hb221]; rfl), trivial⟩)
                              · refine st_valW hS220 (want_on hS220 rfl rfl rfl hb221) rfl rfl (r_move hS220 rfl rfl) fun a278 hS278 => st_valW hS278 (want_on hS278 rfl rfl rfl hb221) rfl rfl (r_move hS278 rfl rfl) fun a279 hS279 => ?_
                                refine g_join (N := 125) 8 [(1, .slice A1 p1.length cap1), (2, .int .u64 p2), (7, .slice A14 r12.length cap15), (8, .pointer (some ⟨b57, 0, none⟩)), (10, .int .u64 v106.2), (11, .int .i64 m0_2), (17, .int .u64 (wu (v106.2 + (Int.tmod p2 80)))), (18, .int .i64 m1_0), (112, .bool t199), (113, .bool r162.2), (114, .bool r162.2), (122, .bool (r162.2 && ((!r173.2) || (decide (r162.1 < r173.1)))))] ?_ (fun hk => ?_)
                                rotate_left
                                · rcases Bool.eq_false_or_eq_true (r162.2) with hb280 | hb280
                                  · refine st_valW hS279 (want_on hS279 rfl rfl rfl hb280) rfl rfl (r_move hS279 rfl rfl) fun a297 hS297 => st_valW hS297 (want_on hS297 rfl rfl rfl hb280) rfl rfl (r_not hS297 rfl rfl) fun a298 hS298 => st_valW hS298 (want_on hS298 rfl rfl rfl hb280) rfl rfl (r_move hS298 rfl rfl) fun a299 hS299 => ?_
                                    refine g_join (N := 125) 4 [(1, .slice A1 p1.length cap1), (2, .int .u64 p2), (7, .slice A14 r12.length cap15), (8, .pointer (some ⟨b57, 0, none⟩)), (10, .int .u64 v106.2), (11, .int .i64 m0_2), (17, .int .u64 (wu (v106.2 + (Int.tmod p2 80)))), (18, .int .i64 m1_0), (112, .bool t199), (113, .bool r162.2), (114, .bool r162.2), (115, .bool r173.2), (116, .bool (!r173.2)), (117, .bool (!r173.2)), (121, .bool ((!r173.2) || (decide (r162.1 < r173.1))))] ?_ (fun hk => ?_)
                                    rotate_left
                                    · rcases Bool.eq_false_or_eq_true ((!r173.2)) with hb300 | hb300
                                      · refine st_off hS299 (want_off hS299 rfl rfl rfl hb300) rfl rfl fun a304 hS304 => st_off hS304 (want_off hS304 rfl rfl rfl hb300) rfl rfl fun a305 hS305 => st_off hS305 (want_off hS305 rfl rfl rfl hb300) rfl rfl fun a306 hS306 => st_valW hS306 (want_on hS306 rfl rfl rfl hb280) rfl rfl (r_pickT hS306 rfl rfl rfl hb300) fun a307 hS307 => hk _ (hS307.re ⟨rfl, rfl, rfl, rfl, rfl, rfl, rfl, rfl, rfl, rfl, rfl, rfl, rfl, rfl, (by rw [hb300]; rfl), trivial⟩)
                                      · refine st_valW hS299 (want_on hS299 rfl rfl rfl hb300) rfl rfl (r_move hS299 rfl rfl) fun a308 hS308 => st_valW hS308 (want_on hS308 rfl rfl rfl hb300) rfl rfl (r_move hS308 rfl rfl) fun a309 hS309 => st_valW hS309 (want_on hS309 rfl rfl rfl hb300) rfl rfl (r_bin hS309 rfl rfl rfl b_gtr) fun a310 hS310 => st_valW hS310 (want_on hS310 rfl rfl rfl hb280) rfl rfl (r_pickF hS310 rfl rfl rfl hb300) fun a311 hS311 => hk _ (hS311.re ⟨rfl, rfl, rfl, rfl, rfl, rfl, rfl, rfl, rfl, rfl, rfl, rfl, rfl, rfl, (by rw [hb300]; rfl), trivial⟩)
                                    intro a312 hS312
                                    refine st_valW hS312 (want_on hS312 rfl rfl rfl hb221) rfl rfl (r_pickT hS312 rfl rfl rfl hb280) fun a313 hS313 => hk _ (hS313.re ⟨rfl, rfl, rfl, rfl, rfl, rfl, rfl, rfl, rfl, rfl, rfl, (by rw [hb280]; rfl), trivial⟩)
                                  · refine st_off hS279 (want_off hS279 rfl rfl rfl hb280) rfl rfl fun a314 hS314 => st_off hS314 (want_off hS314 rfl rfl rfl hb280) rfl rfl fun a315 hS315 => st_off hS315 (want_off hS315 rfl rfl rfl hb280) rfl rfl fun a316 hS316 => st_off hS316 (want_un hS316 rfl rfl rfl) rfl rfl fun a317 hS317 => st_off hS317 (want_un hS317 rfl rfl rfl) rfl rfl fun a318 hS318 => st_off hS318 (want_un hS318 rfl rfl rfl) rfl rfl fun a319 hS319 => st_off hS319 (want_off hS319 rfl rfl rfl hb280) rfl rfl fun a320 hS320 => st_valW hS320 (want_on hS320 rfl rfl rfl hb221) rfl rfl (r_pickF hS320 rfl rfl rfl hb280) fun a321 hS321 => hk _ (hS321.re ⟨rfl, rfl, rfl, rfl, rfl, rfl, rfl, rfl, rfl, rfl, rfl, (by rw [hb280]; rfl), trivial⟩)
                                intro a322 hS322
                                refine st_val hS322 rfl rfl rfl (r_pickF hS322 rfl rfl rfl hb221) fun a323 hS323 => hk _ (hS323.re ⟨rfl, rfl, rfl, rfl, rfl, rfl, rfl, rfl, (by rw [hb221]; rfl), trivial⟩)
                            intro a324 hS324
                            refine wpList_nil (hK _ _ ?_)
                            replace hS : Sl 125 _ [(1, .slice A1 p1.length cap1), (2, .int .u64 p2), (7, .slice A14 r12.length cap15), (8, .pointer (some ⟨b57, 0, none⟩)), (10, .int .u64 v106.2), (11, .int .i64 m0_2), (17, .int .u64 (wu (v106.2 + (Int.tmod p2 80)))), (18, .int .i64 m1_0), (123, .bool (t199 || (r162.2 && ((!r173.2) || (decide (r162.1 < r173.1))))))] := hS324.re ⟨rfl, rfl, rfl, rfl, rfl, rfl, rfl, rfl, rfl, trivial⟩
                            clear hK K
                            try clear hS182 hS183 hS184 hS187 hS189 hS219 hS220 hS324
                            obtain ⟨a, ha⟩ : ∃ a', a' = a324 := ⟨_, rfl⟩
                            rw [← ha] at hS ⊢; clear ha
                            refine c_cond hS rfl (fun hb325 => ?_) (fun hb325 => ?_)
                            · replace H := ite_t hb325 H
                              refine c_pure [(6, .bool false)] (fun R hR => st_val hS rfl rfl rfl (r_assign hS rfl rfl) fun a326 hS326 => wpList_nil (hR _ (hS326.re ⟨rfl, trivial⟩))) ?_
                              clear hS
                              clear a
                              intro a hS
                              refine wp_ret ?_
                              have e := Option.some.inj H
                              subst e
                              replace H := Fl.go_out Hl148
                              have e := Option.some.inj H
                              subst e
                              replace H := Fl.go_out Hl75
                              have e := Option.some.inj H
                              subst e
                              replace H := Fl.go_out Hl53
                              have e := Option.some.inj H
                              subst e
                              repeat (with_reducible first | refine then_ret ?_ | refine inBlock_ret ?_)
                              exact c_ret1 hS Try.results9 rfl ⟨_, rfl, g201, rfl, hF⟩
                            · replace H := ite_f hb325 H
                              refine wp_skip ?_
                              have e := Option.some.inj H
                              exact ⟨g201, e.symm, hS.re ⟨rfl, rfl, rfl, rfl, rfl, rfl, rfl, rfl, trivial⟩, h16, h58, h62, hp1, hF⟩
                        · clear H
                          clear hp1 h16 h62 h58 hF
                          clear hS
                          rintro a w145 ⟨g145, hpre0, hS, h16, h58, h62, hp1, hF⟩
                          subst hpre0
                          have H := Fl.go_nxt Hl148
                          clear Hl148
                          refine c_pure1 [(1, .slice A1 p1.length cap1), (2, .int .u64 p2), (7, .slice A14 r12.length cap15), (8, .pointer (some ⟨b57, 0, none⟩)), (10, .int .u64 v106.2), (11, .int .i64 m0_2), (17, .int .u64 (wu (v106.2 + (Int.tmod p2 80)))), (18, .int .i64 (wi (m1_0 + 1)))] (fun R hR => st_val hS rfl rfl rfl (r_move hS rfl rfl) fun a327 hS327 => st_val hS327 rfl rfl rfl (r_bin hS327 rfl rfl rfl b_add) fun a328 hS328 => st_val hS328 rfl rfl rfl (r_assign hS328 rfl rfl) fun a329 hS329 => wpList_nil (hR _ (hS329.re ⟨rfl, rfl, rfl, rfl, rfl, rfl, rfl, rfl, trivial⟩))) ?_
                          clear hS
                          clear a
                          intro a hS
                          refine ⟨k139, Nat.lt_succ_self _, ?_⟩
                          exact ⟨wi (m1_0 + 1), g145, H, hS.re ⟨rfl, rfl, rfl, rfl, rfl, rfl, rfl, rfl, trivial⟩, h16, h58, h62, hp1, hF⟩
                      · replace H := ite_f hb144 H
                        refine wp_exit ?_
                        have e := Option.some.inj H
                        exact ⟨(v106.1, v106.2), g138, e.symm, hS.re ⟨rfl, rfl, rfl, rfl, rfl, rfl, trivial⟩, h16, h58, h62, hp1, hF⟩
              · clear H
                clear hp1 h16 h62 h58 hF
                clear hS
                rintro a w72 ⟨v73, g72, hpre0, hS, h16, h58, h62, hp1, hF⟩
                subst hpre0
                have H := Fl.go_nxt Hl75
                clear Hl75
                refine c_pure1 [(1, .slice A1 p1.length cap1), (2, .int .u64 p2), (7, .slice A14 r12.length cap15), (8, .pointer (some ⟨b57, 0, none⟩)), (10, .int .u64 v73.2), (11, .int .i64 (wi (m0_2 + 1)))] (fun R hR => st_val hS rfl rfl rfl (r_move hS rfl rfl) fun a330 hS330 => st_val hS330 rfl rfl rfl (r_bin hS330 rfl rfl rfl b_add) fun a331 hS331 => st_val hS331 rfl rfl rfl (r_assign hS331 rfl rfl) fun a332 hS332 => wpList_nil (hR _ (hS332.re ⟨rfl, rfl, rfl, rfl, rfl, rfl, trivial⟩))) ?_
                clear hS
                clear a
                intro a hS
                refine ⟨k66, Nat.lt_succ_self _, ?_⟩
                exact ⟨v73.1, v73.2, wi (m0_2 + 1), g72, H, hS.re ⟨rfl, rfl, rfl, rfl, rfl, rfl, trivial⟩, h16, h58, h62, hp1, hF⟩
            · replace H := ite_f hb71 H
              refine wp_exit ?_
              have e := Option.some.inj H
              exact ⟨g65, e.symm, hS.re trivial, hF⟩
      · clear H
        clear hp1 h16 h25 hF
        clear hS
        rintro a w50 ⟨g50, hpre0, hS, hF⟩
        subst hpre0
        have H := Fl.go_nxt Hl53
        clear Hl53
        obtain ⟨r333, hr334, H⟩ := bind_el H
        refine c_region (fun K hK => ?_)
        refine st_enter hS rfl rfl rfl (r_call hS rfl rfl (by kernel_rfl)) (law25_awake.calls (g := g50) (N + 9)   hr334) ?_
        rintro _ a335 w336 ⟨g336, rfl, F336⟩ hS335
        replace hF := hF.trans F336 (fun c' (hm : N + 9 ≤ c') => by show N ≤ c'; omega)
        refine st_val hS335 rfl rfl rfl (r_assign hS335 rfl rfl) fun a337 hS337 => wpList_nil (hK _ _ ?_)
        replace hS : Sl 125 _ [(6, .bool r333)] := hS337.re ⟨rfl, trivial⟩
        clear hK K
        try clear hS335 hS337
        obtain ⟨a, ha⟩ : ∃ a', a' = a337 := ⟨_, rfl⟩
        rw [← ha] at hS ⊢; clear ha
        refine wp_ret ?_
        have e := Option.some.inj H
        subst e
        repeat (with_reducible first | refine then_ret ?_ | refine inBlock_ret ?_)
        exact c_ret1 hS Try.results9 rfl ⟨_, rfl, g336, rfl, hF⟩

/-- What is left of law25_RailsPoweredChain: about plain values alone. -/
def law25_RailsPoweredChain.Pure : Prop := ∀ (p0 : List api_Rail) (p1 : List law25_Call) (p2 : Int), (p0.length ≤ maxLen ∧ ∀ p0' ∈ p0, Wf_api_Rail p0') → (p1.length ≤ maxLen ∧ ∀ p1' ∈ p1, Wf_law25_Call p1') → (Lit.int .u64 p2).wf = true → law25_RailsPoweredChain.f p0 p1 p2 = some true

end Go.Proofs.Ytfiodhdldleocaa.Sim
