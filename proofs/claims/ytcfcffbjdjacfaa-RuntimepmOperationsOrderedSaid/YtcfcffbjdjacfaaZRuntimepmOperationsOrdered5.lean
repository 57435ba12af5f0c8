/-
  Texts of this session, part 5 of 7: the words of the walk, plain functions with the same answers as the Go functions and the proofs of it, plain lemmas. No condition.
  They are, one behind the other: LwRuntimepmOperationsOrdered.
-/
import Derived.Test.YtcfcffbjdjacfaaZRuntimepmOperationsOrdered4

namespace Go.Proofs.Ytcfcffbjdjacfaa.Sim
open Go
set_option linter.unusedVariables false
set_option linter.unusedSimpArgs false

/-! ### law28_RuntimepmOperationsOrdered: function 6 -/
def law28_RuntimepmOperationsOrdered.l2 (r15 : (List api_IdleDevice)) (m1_0 : List Bool) (x174 : api_PowerOp) : Nat → Int → Option (Fl (Fl (Fl (Fl (Fl (Bool) (Unit)) (runtimepm_Manager × (List Bool) × Int × Int)) ((List Bool) × Int)) ((List Bool) × Int)) (Unit))
  | 0, _ => none
  | k288 + 1, m2_0 => if decide (m2_0 < (r15.length : Int)) = true then ((if x174.Resume = true then (law28_needs.f r15 x174.Device m2_0).bind fun r302 => some r302 else some false).bind fun t306 => (if t306 = true then (idx m1_0 m2_0).bind fun x331 => some (!x331) else some false).bind fun t336 => (if t336 = true then some true else (if (!x174.Resume) = true then (law28_needs.f r15 m2_0 x174.Device).bind fun r366 => some r366 else some false).bind fun t370 => (if t370 = true then (idx m1_0 m2_0).bind fun x395 => some x395 else some false).bind fun t399 => some t399).bind fun t416 => if t416 = true then (some (.out (.out (.out (.out (.out false)))))) else (law28_RuntimepmOperationsOrdered.l2 r15 m1_0 x174 k288 (wi (m2_0 + 1)))) else (some (.nxt ()))
def law28_RuntimepmOperationsOrdered.l1 (r15 : (List api_IdleDevice)) (r119 : Int × Int) (r133 : runtimepm_Manager × (List api_PowerOp) × Int) : Nat → (List Bool) → Int → Int → Option (Fl (Fl (Fl (Bool) (Unit)) (runtimepm_Manager × (List Bool) × Int × Int)) ((List Bool) × Int))
  | 0, _, _, _ => none
  | k162 + 1, m1_0, m1_1, m1_2 => if decide (m1_2 < (r133.2.1.length : Int)) = true then (((idx r133.2.1 m1_2).bind fun x174 => (if ((((decide (x174.Device < 0)) || (decide ((r15.length : Int) ≤ x174.Device))) || (decide (x174.At < m1_1))) || (decide (r119.2 < x174.At))) = true then some true else (idx m1_0 x174.Device).bind fun x250 => some (x174.Resume == x250)).bind fun t255 => if t255 = true then (some (.out (.out (.out (.out false))))) else ((law28_RuntimepmOperationsOrdered.l2 r15 m1_0 x174 FUEL 0 : Option (Fl (Fl (Fl (Fl (Fl (Bool) (Unit)) (runtimepm_Manager × (List Bool) × Int × Int)) ((List Bool) × Int)) ((List Bool) × Int)) (Unit))).bind fun o284 => o284.go fun _ => (idx m1_0 x174.Device).bind fun x504 => some (.nxt ((upd m1_0 x174.Device x174.Resume), x174.At))) : Option (Fl (Fl (Fl (Fl (Bool) (Unit)) (runtimepm_Manager × (List Bool) × Int × Int)) ((List Bool) × Int)) ((List Bool) × Int))).bind fun o170 => o170.go fun v169 => law28_RuntimepmOperationsOrdered.l1 r15 r119 r133 k162 v169.1 v169.2 (wi (m1_2 + 1))) else (some (.nxt (m1_0, m1_1)))
def law28_RuntimepmOperationsOrdered.l3 (r15 : (List api_IdleDevice)) (r119 : Int × Int) (r133 : runtimepm_Manager × (List api_PowerOp) × Int) (v157 : (List Bool) × Int) : Nat → Int → Option (Fl (Fl (Bool) (Unit)) (runtimepm_Manager × (List Bool) × Int × Int))
  | 0, _ => none
  | k523 + 1, m3_0 => if decide (m3_0 < (r15.length : Int)) = true then ((runtimepm_Manager_Active.f r133.1 m3_0).bind fun r529 => (idx v157.1 m3_0).bind fun x531 => if (!(r529 == x531)) = true then (some (.out (.out false))) else (law28_RuntimepmOperationsOrdered.l3 r15 r119 r133 v157 k523 (wi (m3_0 + 1)))) else (some (.nxt (r133.1, v157.1, r119.2, v157.2)))
def law28_RuntimepmOperationsOrdered.l0 (p1 : List law28_Call) (r15 : (List api_IdleDevice)) : Nat → runtimepm_Manager → (List Bool) → Int → Int → Int → Option (Fl (Bool) (Unit))
  | 0, _, _, _, _, _ => none
  | k89 + 1, m0_0, m0_1, m0_2, m0_3, m0_4 => if decide (m0_4 < (p1.length : Int)) = true then (((idx p1 m0_4).bind fun x101 => (law28_Call_at.f (law28_Call.mk x101.Kind x101.Device x101.Wait false) (r15.length : Int) m0_2).bind fun r119 => (law28_do.f m0_0 (law28_Call.mk x101.Kind x101.Device x101.Wait false) (r15.length : Int) m0_2).bind fun r133 => if (r133.2.2 != 0) = true then (if decide (0 < (r133.2.1.length : Int)) = true then (some (.out (.out false))) else (some (.nxt (r133.1, m0_1, m0_2, m0_3)))) else ((law28_RuntimepmOperationsOrdered.l1 r15 r119 r133 FUEL m0_1 m0_3 0 : Option (Fl (Fl (Fl (Bool) (Unit)) (runtimepm_Manager × (List Bool) × Int × Int)) ((List Bool) × Int))).bind fun o158 => o158.go fun v157 => law28_RuntimepmOperationsOrdered.l3 r15 r119 r133 v157 FUEL 0) : Option (Fl (Fl (Bool) (Unit)) (runtimepm_Manager × (List Bool) × Int × Int))).bind fun o97 => o97.go fun v96 => law28_RuntimepmOperationsOrdered.l0 p1 r15 k89 v96.1 v96.2.1 v96.2.2.1 v96.2.2.2 (wi (m0_4 + 1))) else (some (.nxt ()))
def law28_RuntimepmOperationsOrdered.f (p0 : List api_IdleDevice) (p1 : List law28_Call) : Option (Bool) := (law28_large.f p0 p1).bind fun r4 => if r4 = true then ((law28_awake.f ).bind fun r9 => some r9) else ((law28_Some.f p0).bind fun r15 => (runtimepm_New.f r15).bind fun r25 => if ((r25.2 != 0) || r25.1.isNone) = true then (some false) else ((mk (r15.length : Int) false).bind fun y54 => ((r25.1).bind fun st70 => law28_RuntimepmOperationsOrdered.l0 p1 r15 FUEL st70 y54 0 0 0 : Option (Fl (Bool) (Unit))).bind fun o67 => o67.go fun _ => (law28_awake.f ).bind fun r551 => some r551))
set_option maxRecDepth 100000 in
set_option maxHeartbeats 4000000 in
theorem law28_RuntimepmOperationsOrdered.calls {p0 : List api_IdleDevice} {A0 : Option Addr} {cap0 : Nat} {C0 : Nat → Prop} {p1 : List law28_Call} {A1 : Option Addr} {cap1 : Nat} {C1 : Nat → Prop} {w : World} {g : Nat → Nat} {out : Bool} (N : Nat) (hp0 : RdS kd_api_IdleDevice w g C0 A0 cap0 p0) (hC0 : ∀ c, C0 c → c < N) (hp1 : RdS kd_law28_Call w g C1 A1 cap1 p1) (hC1 : ∀ c, C1 c → c < N) (H : law28_RuntimepmOperationsOrdered.f p0 p1 = some out) :
    Calls Try.prog 6 #[.slice A0 p0.length cap0, .slice A1 p1.length cap1] w (fun e w' => ∃ v, e = .returned v ∧ ∃ (g' : Nat → Nat), v = .bool out ∧ Fr (fun q => N ≤ q) w g w' g') := by
  unfold law28_RuntimepmOperationsOrdered.f at H
  refine calls_enter Try.func6 rfl Try.ntmps6 rfl (fun a hS => ?_)
  replace hS : Sl 180 a [(0, .slice A0 p0.length cap0), (1, .slice A1 p1.length cap1)] := hS
  have hF : Fr (fun q => N ≤ q) w g w g := Fr.refl _ _ _
  refine c_pure [(0, .slice A0 p0.length cap0), (1, .slice A1 p1.length cap1)] (fun R hR => st_val hS rfl rfl rfl (r_assign hS rfl rfl) fun a1 hS1 => wpList_nil (hR _ (hS1.re ⟨rfl, rfl, trivial⟩))) ?_
  clear hS
  clear a
  intro a hS
  refine wp_seq ?_
  obtain ⟨r4, hr5, H⟩ := bind_el H
  refine c_region (fun K hK => ?_)
  refine st_val hS rfl rfl rfl (r_move hS rfl rfl) fun a2 hS2 => st_val hS2 rfl rfl rfl (r_move hS2 rfl rfl) fun a3 hS3 => ?_
  refine st_enter hS3 rfl rfl rfl (r_call hS3 rfl rfl (by kernel_rfl)) (law28_large.calls (C0 := C0) (C1 := C1) (p0 := p0) (p1 := p1) (g := g) (N + 17)  hp0 (fun q (hq : C0 q) => by have := hC0 q hq; omega) hp1 (fun q (hq : C1 q) => by have := hC1 q hq; omega) hr5) ?_
  rintro _ a6 w7 ⟨g7, rfl, F7⟩ hS6
  replace hp0 := RdS.fr hp0 F7 (by decide) (fun q (hq : C0 q) (hm : N + 17 ≤ q) => by have := hC0 q hq; omega)
  replace hp1 := RdS.fr hp1 F7 (by decide) (fun q (hq : C1 q) (hm : N + 17 ≤ q) => by have := hC1 q hq; omega)
  replace hF := hF.trans F7 (fun c' (hm : N + 17 ≤ c') => by show N ≤ c'; omega)
  refine wpList_nil (hK _ _ ?_)
  replace hS : Sl 180 _ [(0, .slice A0 p0.length cap0), (1, .slice A1 p1.length cap1), (23, .bool r4)] := hS6.re ⟨rfl, rfl, rfl, trivial⟩
  clear hK K
  try clear hS2 hS3 hS6
  obtain ⟨a, ha⟩ : ∃ a', a' = a6 := ⟨_, rfl⟩
  rw [← ha] at hS ⊢; clear ha
  refine c_cond hS rfl (fun hb8 => ?_) (fun hb8 => ?_)
  · replace H := ite_t hb8 H
    obtain ⟨r9, hr10, H⟩ := bind_el H
    refine c_region (fun K hK => ?_)
    refine st_enter hS rfl rfl rfl (r_call hS rfl rfl (by kernel_rfl)) (law28_awake.calls (g := g7) (N + 17)   hr10) ?_
    rintro _ a11 w12 ⟨g12, rfl, F12⟩ hS11
    replace hp0 := RdS.fr hp0 F12 (by decide) (fun q (hq : C0 q) (hm : N + 17 ≤ q) => by have := hC0 q hq; omega)
    replace hp1 := RdS.fr hp1 F12 (by decide) (fun q (hq : C1 q) (hm : N + 17 ≤ q) => by have := hC1 q hq; omega)
    replace hF := hF.trans F12 (fun c' (hm : N + 17 ≤ c') => by show N ≤ c'; omega)
    refine st_val hS11 rfl rfl rfl (r_assign hS11 rfl rfl) fun a13 hS13 => wpList_nil (hK _ _ ?_)
    replace hS : Sl 180 _ [(4, .bool r9)] := hS13.re ⟨rfl, trivial⟩
    clear hK K
    try clear hS11 hS13
    obtain ⟨a, ha⟩ : ∃ a', a' = a13 := ⟨_, rfl⟩
    rw [← ha] at hS ⊢; clear ha
    refine wp_ret ?_
    have e := Option.some.inj H
    subst e
    repeat (with_reducible first | refine then_ret ?_ | refine inBlock_ret ?_)
    exact c_ret1 hS Try.results6 rfl ⟨_, rfl, g12, rfl, hF⟩
  · replace H := ite_f hb8 H
    refine wp_skip ?_
    change Code.wp _ _ _ _ _
    obtain ⟨r15, hr16, H⟩ := bind_el H
    refine c_region (fun K hK => ?_)
    refine st_val hS rfl rfl rfl (r_move hS rfl rfl) fun a14 hS14 => ?_
    refine st_enter hS14 rfl rfl rfl (r_call hS14 rfl rfl (by kernel_rfl)) (law28_Some.calls (C0 := C0) (p0 := p0) (g := g7) (N + 17) (N + 0) hp0 (fun q (hq : C0 q) => by have := hC0 q hq; omega) (by omega) hr16) ?_
    rintro _ a21 w22 ⟨g22, A17, cap18, rfl, h19, F22⟩ hS21
    replace hp0 := RdS.fr hp0 F22 (by decide) (fun q (hq : C0 q) (hm : (N + 0 ≤ q ∧ q < N + 0 + 2) ∨ N + 17 ≤ q) => by have := hC0 q hq; omega)
    replace hp1 := RdS.fr hp1 F22 (by decide) (fun q (hq : C1 q) (hm : (N + 0 ≤ q ∧ q < N + 0 + 2) ∨ N + 17 ≤ q) => by have := hC1 q hq; omega)
    replace hF := hF.trans F22 (fun c' (hm : (N + 0 ≤ c' ∧ c' < N + 0 + 2) ∨ N + 17 ≤ c') => by show N ≤ c'; omega)
    refine st_val hS21 rfl rfl rfl (r_assign hS21 rfl rfl) fun a23 hS23 => wpList_nil (hK _ _ ?_)
    replace hS : Sl 180 _ [(1, .slice A1 p1.length cap1), (5, .slice A17 r15.length cap18)] := hS23.re ⟨rfl, rfl, trivial⟩
    clear hK K
    try clear hS14 hS21 hS23
    obtain ⟨a, ha⟩ : ∃ a', a' = a23 := ⟨_, rfl⟩
    rw [← ha] at hS ⊢; clear ha
    obtain ⟨r25, hr26, H⟩ := bind_el H
    refine c_region (fun K hK => ?_)
    refine st_val hS rfl rfl rfl (r_move hS rfl rfl) fun a24 hS24 => ?_
    refine st_enter hS24 rfl rfl rfl (r_call hS24 rfl rfl (by kernel_rfl)) (runtimepm_New.calls (C0 := (fun q => q = N + 0 ∨ q = N + 0 + 1)) (p0 := r15) (g := g22) (N + 17) (N + 2) (OwS.rd h19) (fun q (hq : q = N + 0 ∨ q = N + 0 + 1) => by rcases hq with hq | hq; all_goals first | (omega; done) | (omega; done)) (by omega) hr26) ?_
    rintro _ a30 w31 ⟨g31, p27, rfl, h28, F31⟩ hS30
    replace h19 := OwS.fr h19 F31 (fun c' hc (hm : (N + 2 ≤ c' ∧ c' < N + 2 + 7) ∨ N + 17 ≤ c') => by omega)
    replace hp1 := RdS.fr hp1 F31 (by decide) (fun q (hq : C1 q) (hm : (N + 2 ≤ q ∧ q < N + 2 + 7) ∨ N + 17 ≤ q) => by have := hC1 q hq; omega)
    replace hF := hF.trans F31 (fun c' (hm : (N + 2 ≤ c' ∧ c' < N + 2 + 7) ∨ N + 17 ≤ c') => by show N ≤ c'; omega)
    refine st_val hS30 rfl rfl rfl (r_move hS30 rfl rfl) fun a32 hS32 => st_val hS32 rfl rfl rfl (r_extract hS32 rfl rfl rfl) fun a33 hS33 => st_val hS33 rfl rfl rfl (r_extract hS33 rfl rfl rfl) fun a34 hS34 => st_val hS34 rfl rfl rfl (r_assign hS34 rfl rfl) fun a35 hS35 => st_val hS35 rfl rfl rfl (r_assign hS35 rfl rfl) fun a36 hS36 => wpList_nil (hK _ _ ?_)
    replace hS : Sl 180 _ [(1, .slice A1 p1.length cap1), (5, .slice A17 r15.length cap18), (6, .pointer p27), (7, .int .i64 r25.2)] := hS36.re ⟨rfl, rfl, rfl, rfl, trivial⟩
    clear hK K
    try clear hS24 hS30 hS32 hS33 hS34 hS35 hS36
    obtain ⟨a, ha⟩ : ∃ a', a' = a36 := ⟨_, rfl⟩
    rw [← ha] at hS ⊢; clear ha
    refine wp_seq ?_
    refine c_region (fun K hK => ?_)
    refine st_val hS rfl rfl rfl (r_move hS rfl rfl) fun a37 hS37 => st_val hS37 rfl rfl rfl (r_bin hS37 rfl rfl rfl b_neq) fun a38 hS38 => st_val hS38 rfl rfl rfl (r_move hS38 rfl rfl) fun a39 hS39 => ?_
    refine g_join (N := 180) 3 [(1, .slice A1 p1.length cap1), (5, .slice A17 r15.length cap18), (6, .pointer p27), (37, .bool ((r25.2 != 0) || r25.1.isNone))] ?_ (fun hk => ?_)
    rotate_left
    · rcases Bool.eq_false_or_eq_true ((r25.2 != 0)) with hb40 | hb40
      · refine st_off hS39 (want_off hS39 rfl rfl rfl hb40) rfl rfl fun a43 hS43 => st_off hS43 (want_off hS43 rfl rfl rfl hb40) rfl rfl fun a44 hS44 => st_val hS44 rfl rfl rfl (r_pickT hS44 rfl rfl rfl hb40) fun a45 hS45 => hk _ (hS45.re ⟨rfl, rfl, rfl, (by rw [hb40]; rfl), trivial⟩)
      · refine st_valW hS39 (want_on hS39 rfl rfl rfl hb40) rfl rfl (r_move hS39 rfl rfl) fun a46 hS46 => st_valW hS46 (want_on hS46 rfl rfl rfl hb40) rfl rfl (r_optEq hS46 rfl rfl (by kernel_rfl) (runtimepm_Manager_Opt.isNone h28)) fun a47 hS47 => st_val hS47 rfl rfl rfl (r_pickF hS47 rfl rfl rfl hb40) fun a48 hS48 => hk _ (hS48.re ⟨rfl, rfl, rfl, (by rw [hb40]; rfl), trivial⟩)
    intro a49 hS49
    refine wpList_nil (hK _ _ ?_)
    replace hS : Sl 180 _ [(1, .slice A1 p1.length cap1), (5, .slice A17 r15.length cap18), (6, .pointer p27), (37, .bool ((r25.2 != 0) || r25.1.isNone))] := hS49.re ⟨rfl, rfl, rfl, rfl, trivial⟩
    clear hK K
    try clear hS37 hS38 hS39 hS49
    obtain ⟨a, ha⟩ : ∃ a', a' = a49 := ⟨_, rfl⟩
    rw [← ha] at hS ⊢; clear ha
    refine c_cond hS rfl (fun hb50 => ?_) (fun hb50 => ?_)
    · replace H := ite_t hb50 H
      refine c_pure [(4, .bool false)] (fun R hR => st_val hS rfl rfl rfl (r_assign hS rfl rfl) fun a51 hS51 => wpList_nil (hR _ (hS51.re ⟨rfl, trivial⟩))) ?_
      clear hS
      clear a
      intro a hS
      refine wp_ret ?_
      have e := Option.some.inj H
      subst e
      repeat (with_reducible first | refine then_ret ?_ | refine inBlock_ret ?_)
      exact c_ret1 hS Try.results6 rfl ⟨_, rfl, g31, rfl, hF⟩
    · replace H := ite_f hb50 H
      refine wp_skip ?_
      change Code.wp _ _ _ _ _
      obtain ⟨y54, hy55, H⟩ := bind_el H
      refine c_region (fun K hK => ?_)
      refine st_val hS rfl rfl rfl (r_move hS rfl rfl) fun a52 hS52 => st_val hS52 rfl rfl rfl (r_len (e := 30) (sz := 3) (by_ := 40) hS52 rfl rfl (by kernel_rfl)) fun a53 hS53 => ?_
      refine st_eff hS53 rfl rfl rfl (e_make (e := 4) (sz := 1) (by_ := 1) (z := [.bool false]) (kd := kbool) (N + 9) g31 hS53 rfl rfl (by kernel_rfl) (by kernel_rfl) rfl rfl rfl (fun _ _ _ => by exact rfl) hy55) ?_
      rintro _ a60 w61 g61 ⟨⟨A56, cap57, rfl, h58⟩, F61⟩ hS60
      replace h19 := OwS.fr h19 F61 (fun _ _ h => h)
      replace h28 := runtimepm_Manager_Opt.fr h28 F61 (fun _ _ _ h => h)
      replace hp1 := RdS.fr hp1 F61 (by decide) (fun _ _ h => h)
      replace hF := hF.trans F61 (fun _ h => h.elim)
      refine st_val hS60 rfl rfl rfl (r_assign hS60 rfl rfl) fun a62 hS62 => wpList_nil (hK _ _ ?_)
      replace hS : Sl 180 _ [(1, .slice A1 p1.length cap1), (5, .slice A17 r15.length cap18), (6, .pointer p27), (8, .slice A56 y54.length cap57)] := hS62.re ⟨rfl, rfl, rfl, rfl, trivial⟩
      clear hK K
      try clear hS52 hS53 hS60 hS62
      obtain ⟨a, ha⟩ : ∃ a', a' = a62 := ⟨_, rfl⟩
      rw [← ha] at hS ⊢; clear ha
      refine c_pure [(1, .slice A1 p1.length cap1), (5, .slice A17 r15.length cap18), (6, .pointer p27), (8, .slice A56 y54.length cap57), (9, .int .u64 0), (10, .int .u64 0)] (fun R hR => st_val hS rfl rfl rfl (r_assign hS rfl rfl) fun a63 hS63 => st_val hS63 rfl rfl rfl (r_assign hS63 rfl rfl) fun a64 hS64 => wpList_nil (hR _ (hS64.re ⟨rfl, rfl, rfl, rfl, rfl, rfl, trivial⟩))) ?_
      clear hS
      clear a
      intro a hS
      obtain ⟨o67, H, Hl68⟩ := bind_el H
      refine c_cut (fun a w65 => ∃ (g65 : Nat → Nat), o67 = .nxt () ∧ Sl 180 a [] ∧ Fr (fun q => N ≤ q) w g w65 g65) ?_ ?_
      · refine c_pure [(1, .slice A1 p1.length cap1), (5, .slice A17 r15.length cap18), (6, .pointer p27), (8, .slice A56 y54.length cap57), (9, .int .u64 0), (10, .int .u64 0), (11, .int .i64 0)] (fun R hR => st_val hS rfl rfl rfl (r_assign hS rfl rfl) fun a69 hS69 => wpList_nil (hR _ (hS69.re ⟨rfl, rfl, rfl, rfl, rfl, rfl, rfl, trivial⟩))) ?_
        clear hS
        clear a
        intro a hS
        refine wp_block ?_
        obtain ⟨st70, hst71, H⟩ := bind_el H
        rw [hst71] at h28
        obtain ⟨b72, A75, cap76, A79, cap80, A83, cap84, hp87, h73, h77, h81, h85⟩ := h28
        subst hp87
        refine wp_loop_ghost (fun kq => fun a w88 => ∃ (m0_0 : runtimepm_Manager), ∃ (m0_1 : List Bool), ∃ (m0_2 : Int), ∃ (m0_3 : Int), ∃ (m0_4 : Int), ∃ (g88 : Nat → Nat), law28_RuntimepmOperationsOrdered.l0 p1 r15 kq m0_0 m0_1 m0_2 m0_3 m0_4 = some o67 ∧ Sl 180 a [(1, .slice A1 p1.length cap1), (5, .slice A17 r15.length cap18), (6, .pointer (some ⟨b72, 0, none⟩)), (8, .slice A56 m0_1.length cap57), (9, .int .u64 m0_2), (10, .int .u64 m0_3), (11, .int .i64 m0_4)] ∧ OwS kd_api_IdleDevice 30 w88 g88 (N + 0) A17 cap18 r15 ∧ OwS kbool 4 w88 g88 (N + 9) A56 cap57 m0_1 ∧ Bx w88 g88 (N + 2) b72 85 [.slice A75 m0_0.devices.length cap76, .slice A79 m0_0.links.length cap80, .slice A83 m0_0.order.length cap84, .int .u64 m0_0.now] ∧ OwS kd_runtimepm_device 88 w88 g88 (N + 2 + 1) A75 cap76 m0_0.devices ∧ OwS kd_api_Link 67 w88 g88 (N + 2 + 3) A79 cap80 m0_0.links ∧ OwS (kint .i64) 3 w88 g88 (N + 2 + 5) A83 cap84 m0_0.order ∧ RdS kd_law28_Call w88 g88 C1 A1 cap1 p1 ∧ Fr (fun q => N ≤ q) w g w88 g88) FUEL ?_ ?_
        · exact ⟨st70, y54, 0, 0, 0, g61, H, hS.re ⟨rfl, rfl, rfl, rfl, rfl, rfl, rfl, trivial⟩, h19, h58, h73, h77, h81, h85, hp1, hF⟩
        · clear H
          clear hp1 h19 h58 h77 h81 h85 h73 hF
          clear hS
          rintro k89 a w88 ⟨m0_0, m0_1, m0_2, m0_3, m0_4, g88, hpre0, hS, h19, h58, h73, h77, h81, h85, hp1, hF⟩
          have H := hpre0
          clear hpre0
          cases k89 with
          | zero => exact absurd H (by simp [law28_RuntimepmOperationsOrdered.l0])
          | succ k89 =>
            rw [law28_RuntimepmOperationsOrdered.l0] at H
            refine wp_seq ?_
            refine c_pure [(1, .slice A1 p1.length cap1), (5, .slice A17 r15.length cap18), (6, .pointer (some ⟨b72, 0, none⟩)), (8, .slice A56 m0_1.length cap57), (9, .int .u64 m0_2), (10, .int .u64 m0_3), (11, .int .i64 m0_4), (44, .bool (decide (m0_4 < (p1.length : Int))))] (fun R hR => st_val hS rfl rfl rfl (r_move hS rfl rfl) fun a90 hS90 => st_val hS90 rfl rfl rfl (r_move hS90 rfl rfl) fun a91 hS91 => st_val hS91 rfl rfl rfl (r_len (e := 54) (sz := 4) (by_ := 32) hS91 rfl rfl (by kernel_rfl)) fun a92 hS92 => st_val hS92 rfl rfl rfl (r_bin hS92 rfl rfl rfl b_lss) fun a93 hS93 => wpList_nil (hR _ (hS93.re ⟨rfl, rfl, rfl, rfl, rfl, rfl, rfl, rfl, trivial⟩))) ?_
            clear hS
            clear a
            intro a hS
            refine c_cond hS rfl (fun hb94 => ?_) (fun hb94 => ?_)
            · replace H := ite_t hb94 H
              refine wp_skip ?_
              change Code.wp _ _ _ _ _
              obtain ⟨o97, H, Hl98⟩ := bind_el H
              refine c_cut (fun a w95 => ∃ (v96 : runtimepm_Manager × (List Bool) × Int × Int), ∃ (g95 : Nat → Nat), o97 = .nxt v96 ∧ Sl 180 a [(1, .slice A1 p1.length cap1), (5, .slice A17 r15.length cap18), (6, .pointer (some ⟨b72, 0, none⟩)), (8, .slice A56 v96.2.1.length cap57), (9, .int .u64 v96.2.2.1), (10, .int .u64 v96.2.2.2), (11, .int .i64 m0_4)] ∧ OwS kd_api_IdleDevice 30 w95 g95 (N + 0) A17 cap18 r15 ∧ OwS kbool 4 w95 g95 (N + 9) A56 cap57 v96.2.1 ∧ Bx w95 g95 (N + 2) b72 85 [.slice A75 v96.1.devices.length cap76, .slice A79 v96.1.links.length cap80, .slice A83 v96.1.order.length cap84, .int .u64 v96.1.now] ∧ OwS kd_runtimepm_device 88 w95 g95 (N + 2 + 1) A75 cap76 v96.1.devices ∧ OwS kd_api_Link 67 w95 g95 (N + 2 + 3) A79 cap80 v96.1.links ∧ OwS (kint .i64) 3 w95 g95 (N + 2 + 5) A83 cap84 v96.1.order ∧ RdS kd_law28_Call w95 g95 C1 A1 cap1 p1 ∧ Fr (fun q => N ≤ q) w g w95 g95) ?_ ?_
              · refine wp_block ?_
                obtain ⟨x101, hx102, H⟩ := bind_el H
                refine c_region (fun K hK => ?_)
                refine st_val hS rfl rfl rfl (r_move hS rfl rfl) fun a99 hS99 => st_val hS99 rfl rfl rfl (r_move hS99 rfl rfl) fun a100 hS100 => st_val hS100 rfl rfl rfl (r_index (e := 54) (sz := 4) (by_ := 32) hS100 rfl rfl rfl (by kernel_rfl) (RdS.some_ hp1 hx102) (idx_lo hx102) (idx_hi hx102)) fun a103 hS103 => st_val hS103 rfl rfl rfl (r_loadN (n := 4) (cs := [.int .i64 x101.Kind, .int .i64 x101.Device, .int .u64 x101.Wait, .bool x101.Raw]) hS103 rfl rfl (by kernel_rfl) rfl (RdS.cells_off hp1 hx102 0 4)) fun a104 hS104 => ?_
                refine st_eff hS104 rfl rfl rfl (e_alloc (cs := [.int .i64 0, .int .i64 0, .int .u64 0, .bool false]) (N + 11) g88 hS104 rfl (by kernel_rfl)) ?_
                rintro _ a108 w109 g109 ⟨⟨b105, rfl, h106⟩, F109⟩ hS108
                replace h19 := OwS.fr h19 F109 (fun _ _ h => h)
                replace h58 := OwS.fr h58 F109 (fun _ _ h => h)
                replace h73 := h73.fr F109 (fun h => h)
                replace h77 := OwS.fr h77 F109 (fun _ _ h => h)
                replace h81 := OwS.fr h81 F109 (fun _ _ h => h)
                replace h85 := OwS.fr h85 F109 (fun _ _ h => h)
                replace hp1 := RdS.fr hp1 F109 (by decide) (fun _ _ h => h)
                replace hF := hF.trans F109 (fun _ h => h.elim)
                refine st_effS hS108 rfl rfl (e_storeB (n := 4) (bb := true) (cs' := [.int .i64 x101.Kind, .int .i64 x101.Device, .int .u64 x101.Wait, .bool x101.Raw]) g109 hS108 rfl rfl rfl (by kernel_rfl) rfl rfl rfl h106 rfl rfl) ?_
                rintro a110 w111 g111 ⟨h106, F111⟩ hS110
                replace h19 := OwS.fr h19 F111 (fun c' hc (hm : c' = N + 11) => by omega)
                replace h58 := OwS.fr h58 F111 (fun c' hc (hm : c' = N + 11) => by omega)
                replace h73 := h73.fr F111 (fun (hm : N + 2 = N + 11) => by omega)
                replace h77 := OwS.fr h77 F111 (fun c' hc (hm : c' = N + 11) => by omega)
                replace h81 := OwS.fr h81 F111 (fun c' hc (hm : c' = N + 11) => by omega)
                replace h85 := OwS.fr h85 F111 (fun c' hc (hm : c' = N + 11) => by omega)
                replace hp1 := RdS.fr hp1 F111 (by decide) (fun q (hq : C1 q) (hm : q = N + 11) => by have := hC1 q hq; omega)
                replace hF := hF.trans F111 (fun c' (hm : c' = N + 11) => by show N ≤ c'; omega)
                refine wpList_nil (hK _ _ ?_)
                replace hS : Sl 180 _ [(1, .slice A1 p1.length cap1), (5, .slice A17 r15.length cap18), (6, .pointer (some ⟨b72, 0, none⟩)), (8, .slice A56 m0_1.length cap57), (9, .int .u64 m0_2), (10, .int .u64 m0_3), (11, .int .i64 m0_4), (12, .pointer (some ⟨b105, 0, none⟩))] := hS110.re ⟨rfl, rfl, rfl, rfl, rfl, rfl, rfl, rfl, trivial⟩
                clear hK K
                try clear hS99 hS100 hS103 hS104 hS108 hS110
                obtain ⟨a, ha⟩ : ∃ a', a' = a110 := ⟨_, rfl⟩
                rw [← ha] at hS ⊢; clear ha
                refine c_region (fun K hK => ?_)
                refine st_val hS rfl rfl rfl (r_fieldB (off := 3) hS rfl rfl (by kernel_rfl)) fun a112 hS112 => ?_
                refine st_effS hS112 rfl rfl (e_storeB (n := 1) (bb := false) (cs' := [.int .i64 x101.Kind, .int .i64 x101.Device, .int .u64 x101.Wait, .bool false]) g111 hS112 rfl rfl rfl (by kernel_rfl) rfl rfl rfl h106 rfl rfl) ?_
                rintro a113 w114 g114 ⟨h106, F114⟩ hS113
                replace h19 := OwS.fr h19 F114 (fun c' hc (hm : c' = N + 11) => by omega)
                replace h58 := OwS.fr h58 F114 (fun c' hc (hm : c' = N + 11) => by omega)
                replace h73 := h73.fr F114 (fun (hm : N + 2 = N + 11) => by omega)
                replace h77 := OwS.fr h77 F114 (fun c' hc (hm : c' = N + 11) => by omega)
                replace h81 := OwS.fr h81 F114 (fun c' hc (hm : c' = N + 11) => by omega)
                replace h85 := OwS.fr h85 F114 (fun c' hc (hm : c' = N + 11) => by omega)
                replace hp1 := RdS.fr hp1 F114 (by decide) (fun q (hq : C1 q) (hm : q = N + 11) => by have := hC1 q hq; omega)
                replace hF := hF.trans F114 (fun c' (hm : c' = N + 11) => by show N ≤ c'; omega)
                refine wpList_nil (hK _ _ ?_)
                replace hS : Sl 180 _ [(1, .slice A1 p1.length cap1), (5, .slice A17 r15.length cap18), (6, .pointer (some ⟨b72, 0, none⟩)), (8, .slice A56 m0_1.length cap57), (9, .int .u64 m0_2), (10, .int .u64 m0_3), (11, .int .i64 m0_4), (12, .pointer (some ⟨b105, 0, none⟩))] := hS113.re ⟨rfl, rfl, rfl, rfl, rfl, rfl, rfl, rfl, trivial⟩
                clear hK K
                try clear hS112 hS113
                obtain ⟨a, ha⟩ : ∃ a', a' = a113 := ⟨_, rfl⟩
                rw [← ha] at hS ⊢; clear ha
                obtain ⟨r119, hr120, H⟩ := bind_el H
                refine c_region (fun K hK => ?_)
                refine st_val hS rfl rfl rfl (r_loadN (n := 4) (cs := [.int .i64 x101.Kind, .int .i64 x101.Device, .int .u64 x101.Wait, .bool false]) hS rfl rfl (by kernel_rfl) rfl (Bx.cells_off h106 0 4)) fun a115 hS115 => st_val hS115 rfl rfl rfl (r_move hS115 rfl rfl) fun a116 hS116 => st_val hS116 rfl rfl rfl (r_len (e := 30) (sz := 3) (by_ := 40) hS116 rfl rfl (by kernel_rfl)) fun a117 hS117 => st_val hS117 rfl rfl rfl (r_move hS117 rfl rfl) fun a118 hS118 => ?_
                refine st_enter hS118 rfl rfl rfl (r_call hS118 rfl rfl (by kernel_rfl)) (law28_Call_at.calls (p0 := (law28_Call.mk x101.Kind x101.Device x101.Wait false)) (p1 := (r15.length : Int)) (p2 := m0_2) (g := g114) (N + 17)   hr120) ?_
                rintro _ a121 w122 ⟨g122, rfl, F122⟩ hS121
                replace h106 := h106.fr F122 (fun (hm : N + 17 ≤ N + 11) => by omega)
                replace h19 := OwS.fr h19 F122 (fun c' hc (hm : N + 17 ≤ c') => by omega)
                replace h58 := OwS.fr h58 F122 (fun c' hc (hm : N + 17 ≤ c') => by omega)
                replace h73 := h73.fr F122 (fun (hm : N + 17 ≤ N + 2) => by omega)
                replace h77 := OwS.fr h77 F122 (fun c' hc (hm : N + 17 ≤ c') => by omega)
                replace h81 := OwS.fr h81 F122 (fun c' hc (hm : N + 17 ≤ c') => by omega)
                replace h85 := OwS.fr h85 F122 (fun c' hc (hm : N + 17 ≤ c') => by omega)
                replace hp1 := RdS.fr hp1 F122 (by decide) (fun q (hq : C1 q) (hm : N + 17 ≤ q) => by have := hC1 q hq; omega)
                replace hF := hF.trans F122 (fun c' (hm : N + 17 ≤ c') => by show N ≤ c'; omega)
                refine st_val hS121 rfl rfl rfl (r_move hS121 rfl rfl) fun a123 hS123 => st_val hS123 rfl rfl rfl (r_extract hS123 rfl rfl rfl) fun a124 hS124 => st_val hS124 rfl rfl rfl (r_extract hS124 rfl rfl rfl) fun a125 hS125 => st_val hS125 rfl rfl rfl (r_assign hS125 rfl rfl) fun a126 hS126 => st_val hS126 rfl rfl rfl (r_assign hS126 rfl rfl) fun a127 hS127 => wpList_nil (hK _ _ ?_)
                replace hS : Sl 180 _ [(1, .slice A1 p1.length cap1), (5, .slice A17 r15.length cap18), (6, .pointer (some ⟨b72, 0, none⟩)), (8, .slice A56 m0_1.length cap57), (9, .int .u64 m0_2), (10, .int .u64 m0_3), (11, .int .i64 m0_4), (12, .pointer (some ⟨b105, 0, none⟩)), (14, .int .u64 r119.2)] := hS127.re ⟨rfl, rfl, rfl, rfl, rfl, rfl, rfl, rfl, rfl, trivial⟩
                clear hK K
                try clear hS115 hS116 hS117 hS118 hS121 hS123 hS124 hS125 hS126 hS127
                obtain ⟨a, ha⟩ : ∃ a', a' = a127 := ⟨_, rfl⟩
                rw [← ha] at hS ⊢; clear ha
                obtain ⟨r133, hr134, H⟩ := bind_el H
                refine c_region (fun K hK => ?_)
                refine st_val hS rfl rfl rfl (r_move hS rfl rfl) fun a128 hS128 => st_val hS128 rfl rfl rfl (r_loadN (n := 4) (cs := [.int .i64 x101.Kind, .int .i64 x101.Device, .int .u64 x101.Wait, .bool false]) hS128 rfl rfl (by kernel_rfl) rfl (Bx.cells_off h106 0 4)) fun a129 hS129 => st_val hS129 rfl rfl rfl (r_move hS129 rfl rfl) fun a130 hS130 => st_val hS130 rfl rfl rfl (r_len (e := 30) (sz := 3) (by_ := 40) hS130 rfl rfl (by kernel_rfl)) fun a131 hS131 => st_val hS131 rfl rfl rfl (r_move hS131 rfl rfl) fun a132 hS132 => ?_
                refine st_enter hS132 rfl rfl rfl (r_call hS132 rfl rfl (by kernel_rfl)) (law28_do.calls (c0 := N + 2) (b_p0 := b72) (A_devices_p0 := A75) (cap_devices_p0 := cap76) (A_links_p0 := A79) (cap_links_p0 := cap80) (A_order_p0 := A83) (cap_order_p0 := cap84) (p0 := m0_0) (p1 := (law28_Call.mk x101.Kind x101.Device x101.Wait false)) (p2 := (r15.length : Int)) (p3 := m0_2) (g := g122) (N + 17) (N + 13) ⟨h73, h77, h81, h85⟩ (by omega) (by omega) (by omega) hr134) ?_
                rintro _ a139 w140 ⟨g140, A135, cap136, rfl, ⟨h73, h77, h81, h85⟩, h137, F140⟩ hS139
                replace h106 := h106.fr F140 (fun (hm : (N + 2 ≤ N + 11 ∧ N + 11 < N + 2 + 7) ∨ (N + 13 ≤ N + 11 ∧ N + 11 < N + 13 + 2) ∨ N + 17 ≤ N + 11) => by omega)
                replace h19 := OwS.fr h19 F140 (fun c' hc (hm : (N + 2 ≤ c' ∧ c' < N + 2 + 7) ∨ (N + 13 ≤ c' ∧ c' < N + 13 + 2) ∨ N + 17 ≤ c') => by omega)
                replace h58 := OwS.fr h58 F140 (fun c' hc (hm : (N + 2 ≤ c' ∧ c' < N + 2 + 7) ∨ (N + 13 ≤ c' ∧ c' < N + 13 + 2) ∨ N + 17 ≤ c') => by omega)
                replace hp1 := RdS.fr hp1 F140 (by decide) (fun q (hq : C1 q) (hm : (N + 2 ≤ q ∧ q < N + 2 + 7) ∨ (N + 13 ≤ q ∧ q < N + 13 + 2) ∨ N + 17 ≤ q) => by have := hC1 q hq; omega)
                replace hF := hF.trans F140 (fun c' (hm : (N + 2 ≤ c' ∧ c' < N + 2 + 7) ∨ (N + 13 ≤ c' ∧ c' < N + 13 + 2) ∨ N + 17 ≤ c') => by show N ≤ c'; omega)
                refine st_val hS139 rfl rfl rfl (r_move hS139 rfl rfl) fun a141 hS141 => st_val hS141 rfl rfl rfl (r_extract hS141 rfl rfl rfl) fun a142 hS142 => st_val hS142 rfl rfl rfl (r_extract hS142 rfl rfl rfl) fun a143 hS143 => st_val hS143 rfl rfl rfl (r_assign hS143 rfl rfl) fun a144 hS144 => st_val hS144 rfl rfl rfl (r_assign hS144 rfl rfl) fun a145 hS145 => wpList_nil (hK _ _ ?_)
                replace hS : Sl 180 _ [(1, .slice A1 p1.length cap1), (5, .slice A17 r15.length cap18), (6, .pointer (some ⟨b72, 0, none⟩)), (8, .slice A56 m0_1.length cap57), (9, .int .u64 m0_2), (10, .int .u64 m0_3), (11, .int .i64 m0_4), (14, .int .u64 r119.2), (15, .slice A135 r133.2.1.length cap136), (16, .int .i64 r133.2.2)] := hS145.re ⟨rfl, rfl, rfl, rfl, rfl, rfl, rfl, rfl, rfl, rfl, trivial⟩
                clear hK K
                try clear hS128 hS129 hS130 hS131 hS132 hS139 hS141 hS142 hS143 hS144 hS145
                obtain ⟨a, ha⟩ : ∃ a', a' = a145 := ⟨_, rfl⟩
                rw [← ha] at hS ⊢; clear ha
                refine wp_seq ?_
                refine c_pure [(1, .slice A1 p1.length cap1), (5, .slice A17 r15.length cap18), (6, .pointer (some ⟨b72, 0, none⟩)), (8, .slice A56 m0_1.length cap57), (9, .int .u64 m0_2), (10, .int .u64 m0_3), (11, .int .i64 m0_4), (14, .int .u64 r119.2), (15, .slice A135 r133.2.1.length cap136), (70, .bool (r133.2.2 != 0))] (fun R hR => st_val hS rfl rfl rfl (r_move hS rfl rfl) fun a146 hS146 => st_val hS146 rfl rfl rfl (r_bin hS146 rfl rfl rfl b_neq) fun a147 hS147 => wpList_nil (hR _ (hS147.re ⟨rfl, rfl, rfl, rfl, rfl, rfl, rfl, rfl, rfl, rfl, trivial⟩))) ?_
                clear hS
                clear a
                intro a hS
                refine c_cond hS rfl (fun hb148 => ?_) (fun hb148 => ?_)
                · replace H := ite_t hb148 H
                  refine wp_seq ?_
                  refine c_pure [(1, .slice A1 p1.length cap1), (5, .slice A17 r15.length cap18), (6, .pointer (some ⟨b72, 0, none⟩)), (8, .slice A56 m0_1.length cap57), (9, .int .u64 m0_2), (10, .int .u64 m0_3), (11, .int .i64 m0_4), (73, .bool (decide (0 < (r133.2.1.length : Int))))] (fun R hR => st_val hS rfl rfl rfl (r_move hS rfl rfl) fun a149 hS149 => st_val hS149 rfl rfl rfl (r_len (e := 47) (sz := 3) (by_ := 24) hS149 rfl rfl (by kernel_rfl)) fun a150 hS150 => st_val hS150 rfl rfl rfl (r_bin hS150 rfl rfl rfl b_gtr) fun a151 hS151 => wpList_nil (hR _ (hS151.re ⟨rfl, rfl, rfl, rfl, rfl, rfl, rfl, rfl, trivial⟩))) ?_
                  clear hS
                  clear a
                  intro a hS
                  refine c_cond hS rfl (fun hb152 => ?_) (fun hb152 => ?_)
                  · replace H := ite_t hb152 H
                    refine c_pure [(4, .bool false)] (fun R hR => st_val hS rfl rfl rfl (r_assign hS rfl rfl) fun a153 hS153 => wpList_nil (hR _ (hS153.re ⟨rfl, trivial⟩))) ?_
                    clear hS
                    clear a
                    intro a hS
                    refine wp_ret ?_
                    have e := Option.some.inj H
                    subst e
                    replace H := Fl.go_out Hl98
                    have e := Option.some.inj H
                    subst e
                    replace H := Fl.go_out Hl68
                    have e := Option.some.inj H
                    subst e
                    repeat (with_reducible first | refine then_ret ?_ | refine inBlock_ret ?_)
                    exact c_ret1 hS Try.results6 rfl ⟨_, rfl, g140, rfl, hF⟩
                  · replace H := ite_f hb152 H
                    refine wp_skip ?_
                    change Code.wp _ _ _ _ _
                    refine wp_exit ?_
                    have e := Option.some.inj H
                    exact ⟨(r133.1, m0_1, m0_2, m0_3), g140, e.symm, hS.re ⟨rfl, rfl, rfl, rfl, rfl, rfl, rfl, trivial⟩, h19, h58, h73, h77, h81, h85, hp1, hF⟩
                · replace H := ite_f hb148 H
                  refine wp_skip ?_
                  change Code.wp _ _ _ _ _
                  refine c_pure [(1, .slice A1 p1.length cap1), (5, .slice A17 r15.length cap18), (6, .pointer (some ⟨b72, 0, none⟩)), (8, .slice A56 m0_1.length cap57), (9, .int .u64 r119.2), (10, .int .u64 m0_3), (11, .int .i64 m0_4), (15, .slice A135 r133.2.1.length cap136)] (fun R hR => st_val hS rfl rfl rfl (r_move hS rfl rfl) fun a154 hS154 => st_val hS154 rfl rfl rfl (r_assign hS154 rfl rfl) fun a155 hS155 => wpList_nil (hR _ (hS155.re ⟨rfl, rfl, rfl, rfl, rfl, rfl, rfl, rfl, trivial⟩))) ?_
                  clear hS
                  clear a
                  intro a hS
                  obtain ⟨o158, H, Hl159⟩ := bind_el H
                  refine c_cut (fun a w156 => ∃ (v157 : (List Bool) × Int), ∃ (g156 : Nat → Nat), o158 = .nxt v157 ∧ Sl 180 a [(1, .slice A1 p1.length cap1), (5, .slice A17 r15.length cap18), (6, .pointer (some ⟨b72, 0, none⟩)), (8, .slice A56 v157.1.length cap57), (9, .int .u64 r119.2), (10, .int .u64 v157.2), (11, .int .i64 m0_4)] ∧ OwS kd_api_IdleDevice 30 w156 g156 (N + 0) A17 cap18 r15 ∧ OwS kbool 4 w156 g156 (N + 9) A56 cap57 v157.1 ∧ Bx w156 g156 (N + 2) b72 85 [.slice A75 r133.1.devices.length cap76, .slice A79 r133.1.links.length cap80, .slice A83 r133.1.order.length cap84, .int .u64 r133.1.now] ∧ OwS kd_runtimepm_device 88 w156 g156 (N + 2 + 1) A75 cap76 r133.1.devices ∧ OwS kd_api_Link 67 w156 g156 (N + 2 + 3) A79 cap80 r133.1.links ∧ OwS (kint .i64) 3 w156 g156 (N + 2 + 5) A83 cap84 r133.1.order ∧ RdS kd_law28_Call w156 g156 C1 A1 cap1 p1 ∧ Fr (fun q => N ≤ q) w g w156 g156) ?_ ?_
                  · refine c_pure [(1, .slice A1 p1.length cap1), (5, .slice A17 r15.length cap18), (6, .pointer (some ⟨b72, 0, none⟩)), (8, .slice A56 m0_1.length cap57), (9, .int .u64 r119.2), (10, .int .u64 m0_3), (11, .int .i64 m0_4), (15, .slice A135 r133.2.1.length cap136), (17, .int .i64 0)] (fun R hR => st_val hS rfl rfl rfl (r_assign hS rfl rfl) fun a160 hS160 => wpList_nil (hR _ (hS160.re ⟨rfl, rfl, rfl, rfl, rfl, rfl, rfl, rfl, rfl, trivial⟩))) ?_
                    clear hS
                    clear a
                    intro a hS
                    refine wp_block ?_
                    refine wp_loop_ghost (fun kq => fun a w161 => ∃ (m1_0 : List Bool), ∃ (m1_1 : Int), ∃ (m1_2 : Int), ∃ (g161 : Nat → Nat), law28_RuntimepmOperationsOrdered.l1 r15 r119 r133 kq m1_0 m1_1 m1_2 = some o158 ∧ Sl 180 a [(1, .slice A1 p1.length cap1), (5, .slice A17 r15.length cap18), (6, .pointer (some ⟨b72, 0, none⟩)), (8, .slice A56 m1_0.length cap57), (9, .int .u64 r119.2), (10, .int .u64 m1_1), (11, .int .i64 m0_4), (15, .slice A135 r133.2.1.length cap136), (17, .int .i64 m1_2)] ∧ OwS kd_api_PowerOp 47 w161 g161 (N + 13) A135 cap136 r133.2.1 ∧ OwS kd_api_IdleDevice 30 w161 g161 (N + 0) A17 cap18 r15 ∧ OwS kbool 4 w161 g161 (N + 9) A56 cap57 m1_0 ∧ Bx w161 g161 (N + 2) b72 85 [.slice A75 r133.1.devices.length cap76, .slice A79 r133.1.links.length cap80, .slice A83 r133.1.order.length cap84, .int .u64 r133.1.now] ∧ OwS kd_runtimepm_device 88 w161 g161 (N + 2 + 1) A75 cap76 r133.1.devices ∧ OwS kd_api_Link 67 w161 g161 (N + 2 + 3) A79 cap80 r133.1.links ∧ OwS (kint .i64) 3 w161 g161 (N + 2 + 5) A83 cap84 r133.1.order ∧ RdS kd_law28_Call w161 g161 C1 A1 cap1 p1 ∧ Fr (fun q => N ≤ q) w g w161 g161) FUEL ?_ ?_
                    · exact ⟨m0_1, m0_3, 0, g140, H, hS.re ⟨rfl, rfl, rfl, rfl, rfl, rfl, rfl, rfl, rfl, trivial⟩, h137, h19, h58, h73, h77, h81, h85, hp1, hF⟩
                    · clear H
                      clear hp1 h19 h58 h77 h81 h85 h73 h137 hF
                      clear hS
                      rintro k162 a w161 ⟨m1_0, m1_1, m1_2, g161, hpre0, hS, h137, h19, h58, h73, h77, h81, h85, hp1, hF⟩
                      have H := hpre0
                      clear hpre0
                      cases k162 with
                      | zero => exact absurd H (by simp [law28_RuntimepmOperationsOrdered.l1])
                      | succ k162 =>
                        rw [law28_RuntimepmOperationsOrdered.l1] at H
                        refine wp_seq ?_
                        refine c_pure [(1, .slice A1 p1.length cap1), (5, .slice A17 r15.length cap18), (6, .pointer (some ⟨b72, 0, none⟩)), (8, .slice A56 m1_0.length cap57), (9, .int .u64 r119.2), (10, .int .u64 m1_1), (11, .int .i64 m0_4), (15, .slice A135 r133.2.1.length cap136), (17, .int .i64 m1_2), (78, .bool (decide (m1_2 < (r133.2.1.length : Int))))] (fun R hR => st_val hS rfl rfl rfl (r_move hS rfl rfl) fun a163 hS163 => st_val hS163 rfl rfl rfl (r_move hS163 rfl rfl) fun a164 hS164 => st_val hS164 rfl rfl rfl (r_len (e := 47) (sz := 3) (by_ := 24) hS164 rfl rfl (by kernel_rfl)) fun a165 hS165 => st_val hS165 rfl rfl rfl (r_bin hS165 rfl rfl rfl b_lss) fun a166 hS166 => wpList_nil (hR _ (hS166.re ⟨rfl, rfl, rfl, rfl, rfl, rfl, rfl, rfl, rfl, rfl, trivial⟩))) ?_
                        clear hS
                        clear a
                        intro a hS
                        refine c_cond hS rfl (fun hb167 => ?_) (fun hb167 => ?_)
                        · replace H := ite_t hb167 H
                          refine wp_skip ?_
                          change Code.wp _ _ _ _ _
                          obtain ⟨o170, H, Hl171⟩ := bind_el H
                          refine c_cut (fun a w168 => ∃ (v169 : (List Bool) × Int), ∃ (g168 : Nat → Nat), o170 = .nxt v169 ∧ Sl 180 a [(1, .slice A1 p1.length cap1), (5, .slice A17 r15.length cap18), (6, .pointer (some ⟨b72, 0, none⟩)), (8, .slice A56 v169.1.length cap57), (9, .int .u64 r119.2), (10, .int .u64 v169.2), (11, .int .i64 m0_4), (15, .slice A135 r133.2.1.length cap136), (17, .int .i64 m1_2)] ∧ OwS kd_api_PowerOp 47 w168 g168 (N + 13) A135 cap136 r133.2.1 ∧ OwS kd_api_IdleDevice 30 w168 g168 (N + 0) A17 cap18 r15 ∧ OwS kbool 4 w168 g168 (N + 9) A56 cap57 v169.1 ∧ Bx w168 g168 (N + 2) b72 85 [.slice A75 r133.1.devices.length cap76, .slice A79 r133.1.links.length cap80, .slice A83 r133.1.order.length cap84, .int .u64 r133.1.now] ∧ OwS kd_runtimepm_device 88 w168 g168 (N + 2 + 1) A75 cap76 r133.1.devices ∧ OwS kd_api_Link 67 w168 g168 (N + 2 + 3) A79 cap80 r133.1.links ∧ OwS (kint .i64) 3 w168 g168 (N + 2 + 5) A83 cap84 r133.1.order ∧ RdS kd_law28_Call w168 g168 C1 A1 cap1 p1 ∧ Fr (fun q => N ≤ q) w g w168 g168) ?_ ?_
                          · refine wp_block ?_
                            obtain ⟨x174, hx175, H⟩ := bind_el H
                            refine c_region (fun K hK => ?_)
                            refine st_val hS rfl rfl rfl (r_move hS rfl rfl) fun a172 hS172 => st_val hS172 rfl rfl rfl (r_move hS172 rfl rfl) fun a173 hS173 => st_val hS173 rfl rfl rfl (r_index (e := 47) (sz := 3) (by_ := 24) hS173 rfl rfl rfl (by kernel_rfl) (RdS.some_ (OwS.rd h137) hx175) (idx_lo hx175) (idx_hi hx175)) fun a176 hS176 => st_val hS176 rfl rfl rfl (r_loadN (n := 3) (cs := [.int .i64 x174.Device, .bool x174.Resume, .int .u64 x174.At]) hS176 rfl rfl (by kernel_rfl) rfl (RdS.cells_off (OwS.rd h137) hx175 0 3)) fun a177 hS177 => ?_
                            refine st_eff hS177 rfl rfl rfl (e_alloc (cs := [.int .i64 0, .bool false, .int .u64 0]) (N + 15) g161 hS177 rfl (by kernel_rfl)) ?_
                            rintro _ a181 w182 g182 ⟨⟨b178, rfl, h179⟩, F182⟩ hS181
                            replace h137 := OwS.fr h137 F182 (fun _ _ h => h)
                            replace h19 := OwS.fr h19 F182 (fun _ _ h => h)
                            replace h58 := OwS.fr h58 F182 (fun _ _ h => h)
                            replace h73 := h73.fr F182 (fun h => h)
                            replace h77 := OwS.fr h77 F182 (fun _ _ h => h)
                            replace h81 := OwS.fr h81 F182 (fun _ _ h => h)
                            replace h85 := OwS.fr h85 F182 (fun _ _ h => h)
                            replace hp1 := RdS.fr hp1 F182 (by decide) (fun _ _ h => h)
                            replace hF := hF.trans F182 (fun _ h => h.elim)
                            refine st_effS hS181 rfl rfl (e_storeB (n := 3) (bb := true) (cs' := [.int .i64 x174.Device, .bool x174.Resume, .int .u64 x174.At]) g182 hS181 rfl rfl rfl (by kernel_rfl) rfl rfl rfl h179 rfl rfl) ?_
                            rintro a183 w184 g184 ⟨h179, F184⟩ hS183
                            replace h137 := OwS.fr h137 F184 (fun c' hc (hm : c' = N + 15) => by omega)
                            replace h19 := OwS.fr h19 F184 (fun c' hc (hm : c' = N + 15) => by omega)
                            replace h58 := OwS.fr h58 F184 (fun c' hc (hm : c' = N + 15) => by omega)
                            replace h73 := h73.fr F184 (fun (hm : N + 2 = N + 15) => by omega)
                            replace h77 := OwS.fr h77 F184 (fun c' hc (hm : c' = N + 15) => by omega)
                            replace h81 := OwS.fr h81 F184 (fun c' hc (hm : c' = N + 15) => by omega)
                            replace h85 := OwS.fr h85 F184 (fun c' hc (hm : c' = N + 15) => by omega)
                            replace hp1 := RdS.fr hp1 F184 (by decide) (fun q (hq : C1 q) (hm : q = N + 15) => by have := hC1 q hq; omega)
                            replace hF := hF.trans F184 (fun c' (hm : c' = N + 15) => by show N ≤ c'; omega)
                            refine wpList_nil (hK _ _ ?_)
                            replace hS : Sl 180 _ [(1, .slice A1 p1.length cap1), (5, .slice A17 r15.length cap18), (6, .pointer (some ⟨b72, 0, none⟩)), (8, .slice A56 m1_0.length cap57), (9, .int .u64 r119.2), (10, .int .u64 m1_1), (11, .int .i64 m0_4), (15, .slice A135 r133.2.1.length cap136), (17, .int .i64 m1_2), (18, .pointer (some ⟨b178, 0, none⟩))] := hS183.re ⟨rfl, rfl, rfl, rfl, rfl, rfl, rfl, rfl, rfl, rfl, trivial⟩
                            clear hK K
                            try clear hS172 hS173 hS176 hS177 hS181 hS183
                            obtain ⟨a, ha⟩ : ∃ a', a' = a183 := ⟨_, rfl⟩
                            rw [← ha] at hS ⊢; clear ha
                            refine wp_seq ?_
                            obtain ⟨t255, ht256, H⟩ := bind_el H
                            refine c_draw (fun K hK => d_start (fun q => False) g184 [] 32 #[false, false, false, false, false, false, false, false, false, false, false, false, false, false, false, false, false, false, false, false, false, false, false, false, false, false, false, false, false, false, false, false] (by kernel_rfl) rfl rfl (fun w185 hw185 => ?_))
                            have F185 : Fr (fun _ => False) w184 g184 w185 g184 := by rw [hw185]; exact Fr.drew _ _ _
                            replace h137 := OwS.fr h137 F185 (fun _ _ h => h)
                            replace h179 := h179.fr F185 (fun h => h)
                            replace h19 := OwS.fr h19 F185 (fun _ _ h => h)
                            replace h58 := OwS.fr h58 F185 (fun _ _ h => h)
                            replace h73 := h73.fr F185 (fun h => h)
                            replace h77 := OwS.fr h77 F185 (fun _ _ h => h)
                            replace h81 := OwS.fr h81 F185 (fun _ _ h => h)
                            replace h85 := OwS.fr h85 F185 (fun _ _ h => h)
                            replace hp1 := RdS.fr hp1 F185 (by decide) (fun _ _ h => h)
                            replace hF := hF.trans F185 (fun _ h => h.elim)
                            have hC : Fr (fun q => False) w185 g184 w185 g184 := Fr.refl _ _ _
                            refine d_pure hS 0 #[true, false, false, false, false, false, false, false, false, false, false, false, false, false, false, false, false, false, false, false, false, false, false, false, false, false, false, false, false, false, false, false] rfl rfl rfl rfl (by kernel_rfl) (fun _ _ _ h => h) (fun _ => (r_fieldB (off := 0) hS rfl rfl (by kernel_rfl))) fun a186 hS186 => d_take hS186 1 #[true, true, false, false, false, false, false, false, false, false, false, false, false, false, false, false, false, false, false, false, false, false, false, false, false, false, false, false, false, false, false, false] rfl rfl rfl rfl (by kernel_rfl) (fun _ _ _ h => h) ⟨_, hC⟩ (fun w' g' Fz => (r_load1 (n := 1) hS186 rfl rfl (by kernel_rfl) (Bx.cell (h179.fr Fz (fun h => h)) rfl))) fun a187 hS187 => d_pure hS187 2 #[true, true, true, false, false, false, false, false, false, false, false, false, false, false, false, false, false, false, false, false, false, false, false, false, false, false, false, false, false, false, false, false] rfl rfl rfl rfl (by kernel_rfl) (fun _ _ _ h => h) (fun _ => (r_bin hS187 rfl rfl rfl b_lss)) fun a188 hS188 => d_pure hS188 3 #[true, true, true, true, false, false, false, false, false, false, false, false, false, false, false, false, false, false, false, false, false, false, false, false, false, false, false, false, false, false, false, false] rfl rfl rfl rfl (by kernel_rfl) (fun _ _ _ h => h) (fun _ => (r_move hS188 rfl rfl)) fun a189 hS189 => ?_
                            refine d_join (N := 180) 22 #[true, true, true, true, true, true, true, true, true, true, false, false, false, false, false, false, false, false, false, false, false, false, false, false, false, false, false, false, false, false, false, false] [(1, .slice A1 p1.length cap1), (5, .slice A17 r15.length cap18), (6, .pointer (some ⟨b72, 0, none⟩)), (8, .slice A56 m1_0.length cap57), (9, .int .u64 r119.2), (10, .int .u64 m1_1), (11, .int .i64 m0_4), (15, .slice A135 r133.2.1.length cap136), (17, .int .i64 m1_2), (18, .pointer (some ⟨b178, 0, none⟩)), (94, .bool ((decide (x174.Device < 0)) || (decide ((r15.length : Int) ≤ x174.Device))))] ?_ (fun hk => ?_)
                            rotate_left
                            · rcases Bool.eq_false_or_eq_true (decide (x174.Device < 0)) with hb190 | hb190
                              · refine d_off hS189 4 #[true, true, true, true, true, false, false, false, false, false, false, false, false, false, false, false, false, false, false, false, false, false, false, false, false, false, false, false, false, false, false, false] rfl (want_off hS189 rfl rfl rfl hb190) rfl rfl (by kernel_rfl) (fun _ _ _ h => h) fun a196 hS196 => d_off hS196 5 #[true, true, true, true, true, true, false, false, false, false, false, false, false, false, false, false, false, false, false, false, false, false, false, false, false, false, false, false, false, false, false, false] rfl (want_off hS196 rfl rfl rfl hb190) rfl rfl (by kernel_rfl) (fun _ _ _ h => h) fun a197 hS197 => d_off hS197 6 #[true, true, true, true, true, true, true, false, false, false, false, false, false, false, false, false, false, false, false, false, false, false, false, false, false, false, false, false, false, false, false, false] rfl (want_off hS197 rfl rfl rfl hb190) rfl rfl (by kernel_rfl) (fun _ _ _ h => h) fun a198 hS198 => d_off hS198 7 #[true, true, true, true, true, true, true, true, false, false, false, false, false, false, false, false, false, false, false, false, false, false, false, false, false, false, false, false, false, false, false, false] rfl (want_off hS198 rfl rfl rfl hb190) rfl rfl (by kernel_rfl) (fun _ _ _ h => h) fun a199 hS199 => d_off hS199 8 #[true, true, true, true, true, true, true, true, true, false, false, false, false, false, false, false, false, false, false, false, false, false, false, false, false, false, false, false, false, false, false, false] rfl (want_off hS199 rfl rfl rfl hb190) rfl rfl (by kernel_rfl) (fun _ _ _ h => h) fun a200 hS200 => d_pure hS200 9 #[true, true, true, true, true, true, true, true, true, true, false, false, false, false, false, false, false, false, false, false, false, false, false, false, false, false, false, false, false, false, false, false] rfl rfl rfl rfl (by kernel_rfl) (fun _ _ _ h => h) (fun _ => (r_pickT hS200 rfl rfl rfl hb190)) fun a201 hS201 => hk _ (hS201.re ⟨rfl, rfl, rfl, rfl, rfl, rfl, rfl, rfl, rfl, rfl, (by rw [hb190]; rfl), trivial⟩)
                              · refine d_pureW hS189 4 #[true, true, true, true, true, false, false, false, false, false, false, false, false, false, false, false, false, false, false, false, false, false, false, false, false, false, false, false, false, false, false, false] rfl (want_on hS189 rfl rfl rfl hb190) rfl rfl (by kernel_rfl) (fun _ _ _ h => h) (fun _ => (r_fieldB (off := 0) hS189 rfl rfl (by kernel_rfl))) fun a202 hS202 => d_takeW hS202 5 #[true, true, true, true, true, true, false, false, false, false, false, false, false, false, false, false, false, false, false, false, false, false, false, false, false, false, false, false, false, false, false, false] rfl (want_on hS202 rfl rfl rfl hb190) rfl rfl (by kernel_rfl) (fun _ _ _ h => h) ⟨_, hC⟩ (fun w' g' Fz => (r_load1 (n := 1) hS202 rfl rfl (by kernel_rfl) (Bx.cell (h179.fr Fz (fun h => h)) rfl))) fun a203 hS203 => d_pureW hS203 6 #[true, true, true, true, true, true, true, false, false, false, false, false, false, false, false, false, false, false, false, false, false, false, false, false, false, false, false, false, false, false, false, false] rfl (want_on hS203 rfl rfl rfl hb190) rfl rfl (by kernel_rfl) (fun _ _ _ h => h) (fun _ => (r_move hS203 rfl rfl)) fun a204 hS204 => d_pureW hS204 7 #[true, true, true, true, true, true, true, true, false, false, false, false, false, false, false, false, false, false, false, false, false, false, false, false, false, false, false, false, false, false, false, false] rfl (want_on hS204 rfl rfl rfl hb190) rfl rfl (by kernel_rfl) (fun _ _ _ h => h) (fun _ => (r_len (e := 30) (sz := 3) (by_ := 40) hS204 rfl rfl (by kernel_rfl))) fun a205 hS205 => d_pureW hS205 8 #[true, true, true, true, true, true, true, true, true, false, false, false, false, false, false, false, false, false, false, false, false, false, false, false, false, false, false, false, false, false, false, false] rfl (want_on hS205 rfl rfl rfl hb190) rfl rfl (by kernel_rfl) (fun _ _ _ h => h) (fun _ => (r_bin hS205 rfl rfl rfl b_geq)) fun a206 hS206 => d_pure hS206 9 #[true, true, true, true, true, true, true, true, true, true, false, false, false, false, false, false, false, false, false, false, false, false, false, false, false, false, false, false, false, false, false, false] rfl rfl rfl rfl (by kernel_rfl) (fun _ _ _ h => h) (fun _ => (r_pickF hS206 rfl rfl rfl hb190)) fun a207 hS207 => hk _ (hS207.re ⟨rfl, rfl, rfl, rfl, rfl, rfl, rfl, rfl, rfl, rfl, (by rw [hb190]; rfl), trivial⟩)
                            intro a208 hS208
                            refine d_pure hS208 10 #[true, true, true, true, true, true, true, true, true, true, true, false, false, false, false, false, false, false, false, false, false, false, false, false, false, false, false, false, false, false, false, false] rfl rfl rfl rfl (by kernel_rfl) (fun _ _ _ h => h) (fun _ => (r_move hS208 rfl rfl)) fun a209 hS209 => ?_
                            refine d_join (N := 180) 16 #[true, true, true, true, true, true, true, true, true, true, true, true, true, true, true, true, false, false, false, false, false, false, false, false, false, false, false, false, false, false, false, false] [(1, .slice A1 p1.length cap1), (5, .slice A17 r15.length cap18), (6, .pointer (some ⟨b72, 0, none⟩)), (8, .slice A56 m1_0.length cap57), (9, .int .u64 r119.2), (11, .int .i64 m0_4), (15, .slice A135 r133.2.1.length cap136), (17, .int .i64 m1_2), (18, .pointer (some ⟨b178, 0, none⟩)), (100, .bool (((decide (x174.Device < 0)) || (decide ((r15.length : Int) ≤ x174.Device))) || (decide (x174.At < m1_1))))] ?_ (fun hk => ?_)
                            rotate_left
                            · rcases Bool.eq_false_or_eq_true (((decide (x174.Device < 0)) || (decide ((r15.length : Int) ≤ x174.Device)))) with hb210 | hb210
                              · refine d_off hS209 11 #[true, true, true, true, true, true, true, true, true, true, true, true, false, false, false, false, false, false, false, false, false, false, false, false, false, false, false, false, false, false, false, false] rfl (want_off hS209 rfl rfl rfl hb210) rfl rfl (by kernel_rfl) (fun _ _ _ h => h) fun a215 hS215 => d_off hS215 12 #[true, true, true, true, true, true, true, true, true, true, true, true, true, false, false, false, false, false, false, false, false, false, false, false, false, false, false, false, false, false, false, false] rfl (want_off hS215 rfl rfl rfl hb210) rfl rfl (by kernel_rfl) (fun _ _ _ h => h) fun a216 hS216 => d_off hS216 13 #[true, true, true, true, true, true, true, true, true, true, true, true, true, true, false, false, false, false, false, false, false, false, false, false, false, false, false, false, false, false, false, false] rfl (want_off hS216 rfl rfl rfl hb210) rfl rfl (by kernel_rfl) (fun _ _ _ h => h) fun a217 hS217 => d_off hS217 14 #[true, true, true, true, true, true, true, true, true, true, true, true, true, true, true, false, false, false, false, false, false, false, false, false, false, false, false, false, false, false, false, false] rfl (want_off hS217 rfl rfl rfl hb210) rfl rfl (by kernel_rfl) (fun _ _ _ h => h) fun a218 hS218 => d_pure hS218 15 #[true, true, true, true, true, true, true, true, true, true, true, true, true, true, true, true, false, false, false, false, false, false, false, false, false, false, false, false, false, false, false, false] rfl rfl rfl rfl (by kernel_rfl) (fun _ _ _ h => h) (fun _ => (r_pickT hS218 rfl rfl rfl hb210)) fun a219 hS219 => hk _ (hS219.re ⟨rfl, rfl, rfl, rfl, rfl, rfl, rfl, rfl, rfl, (by rw [hb210]; rfl), trivial⟩)
                              · refine d_pureW hS209 11 #[true, true, true, true, true, true, true, true, true, true, true, true, false, false, false, false, false, false, false, false, false, false, false, false, false, false, false, false, false, false, false, false] rfl (want_on hS209 rfl rfl rfl hb210) rfl rfl (by kernel_rfl) (fun _ _ _ h => h) (fun _ => (r_fieldB (off := 2) hS209 rfl rfl (by kernel_rfl))) fun a220 hS220 => d_takeW hS220 12 #[true, true, true, true, true, true, true, true, true, true, true, true, true, false, false, false, false, false, false, false, false, false, false, false, false, false, false, false, false, false, false, false] rfl (want_on hS220 rfl rfl rfl hb210) rfl rfl (by kernel_rfl) (fun _ _ _ h => h) ⟨_, hC⟩ (fun w' g' Fz => (r_load1 (n := 1) hS220 rfl rfl (by kernel_rfl) (Bx.cell (h179.fr Fz (fun h => h)) rfl))) fun a221 hS221 => d_pureW hS221 13 #[true, true, true, true, true, true, true, true, true, true, true, true, true, true, false, false, false, false, false, false, false, false, false, false, false, false, false, false, false, false, false, false] rfl (want_on hS221 rfl rfl rfl hb210) rfl rfl (by kernel_rfl) (fun _ _ _ h => h) (fun _ => (r_move hS221 rfl rfl)) fun a222 hS222 => d_pureW hS222 14 #[true, true, true, true, true, true, true, true, true, true, true, true, true, true, true, false, false, false, false, false, false, false, false, false, false, false, false, false, false, false, false, false] rfl (want_on hS222 rfl rfl rfl hb210) rfl rfl (by kernel_rfl) (fun _ _ _ h => h) (fun _ => (r_bin hS222 rfl rfl rfl b_lss)) fun a223 hS223 => d_pure hS223 15 #[true, true, true, true, true, true, true, true, true, true, true, true, true, true, true, true, false, false, false, false, false, false, false, false, false, false, false, false, false, false, false, false] rfl rfl rfl rfl (by kernel_rfl) (fun _ _ _ h => h) (fun _ => (r_pickF hS223 rfl rfl rfl hb210)) fun a224 hS224 => hk _ (hS224.re ⟨rfl, rfl, rfl, rfl, rfl, rfl, rfl, rfl, rfl, (by rw [hb210]; rfl), trivial⟩)
                            intro a225 hS225
                            refine d_pure hS225 16 #[true, true, true, true, true, true, true, true, true, true, true, true, true, true, true, true, true, false, false, false, false, false, false, false, false, false, false, false, false, false, false, false] rfl rfl rfl rfl (by kernel_rfl) (fun _ _ _ h => h) (fun _ => (r_move hS225 rfl rfl)) fun a226 hS226 => ?_
                            refine d_join (N := 180) 10 #[true, true, true, true, true, true, true, true, true, true, true, true, true, true, true, true, true, true, true, true, true, true, false, false, false, false, false, false, false, false, false, false] [(1, .slice A1 p1.length cap1), (5, .slice A17 r15.length cap18), (6, .pointer (some ⟨b72, 0, none⟩)), (8, .slice A56 m1_0.length cap57), (9, .int .u64 r119.2), (11, .int .i64 m0_4), (15, .slice A135 r133.2.1.length cap136), (17, .int .i64 m1_2), (18, .pointer (some ⟨b178, 0, none⟩)), (106, .bool ((((decide (x174.Device < 0)) || (decide ((r15.length : Int) ≤ x174.Device))) || (decide (x174.At < m1_1))) || (decide (r119.2 < x174.At))))] ?_ (fun hk => ?_)
                            rotate_left
                            · rcases Bool.eq_false_or_eq_true ((((decide (x174.Device < 0)) || (decide ((r15.length : Int) ≤ x174.Device))) || (decide (x174.At < m1_1)))) with hb227 | hb227
                              · refine d_off hS226 17 #[true, true, true, true, true, true, true, true, true, true, true, true, true, true, true, true, true, true, false, false, false, false, false, false, false, false, false, false, false, false, false, false] rfl (want_off hS226 rfl rfl rfl hb227) rfl rfl (by kernel_rfl) (fun _ _ _ h => h) fun a232 hS232 => d_off hS232 18 #[true, true, true, true, true, true, true, true, true, true, true, true, true, true, true, true, true, true, true, false, false, false, false, false, false, false, false, false, false, false, false, false] rfl (want_off hS232 rfl rfl rfl hb227) rfl rfl (by kernel_rfl) (fun _ _ _ h => h) fun a233 hS233 => d_off hS233 19 #[true, true, true, true, true, true, true, true, true, true, true, true, true, true, true, true, true, true, true, true, false, false, false, false, false, false, false, false, false, false, false, false] rfl (want_off hS233 rfl rfl rfl hb227) rfl rfl (by kernel_rfl) (fun _ _ _ h => h) fun a234 hS234 => d_off hS234 20 #[true, true, true, true, true, true, true, true, true, true, true, true, true, true, true, true, true, true, true, true, true, false, false, false, false, false, false, false, false, false, false, false] rfl (want_off hS234 rfl rfl rfl hb227) rfl rfl (by kernel_rfl) (fun _ _ _ h => h) fun a235 hS235 => d_pure hS235 21 #[true, true, true, true, true, true, true, true, true, true, true, true, true, true, true, true, true, true, true, true, true, true, false, false, false, false, false, false, false, false, false, false] rfl rfl rfl rfl (by kernel_rfl) (fun _ _ _ h => h) (fun _ => (r_pickT hS235 rfl rfl rfl hb227)) fun a236 hS236 => hk _ (hS236.re ⟨rfl, rfl, rfl, rfl, rfl, rfl, rfl, rfl, rfl, (by rw [hb227]; rfl), trivial⟩)
                              · refine d_pureW hS226 17 #[true, true, true, true, true, true, true, true, true, true, true, true, true, true, true, true, true, true, false, false, false, false, false, false, false, false, false, false, false, false, false, false] rfl (want_on hS226 rfl rfl rfl hb227) rfl rfl (by kernel_rfl) (fun _ _ _ h => h) (fun _ => (r_fieldB (off := 2) hS226 rfl rfl (by kernel_rfl))) fun a237 hS237 => d_takeW hS237 18 #[true, true, true, true, true, true, true, true, true, true, true, true, true, true, true, true, true, true, true, false, false, false, false, false, false, false, false, false, false, false, false, false] rfl (want_on hS237 rfl rfl rfl hb227) rfl rfl (by kernel_rfl) (fun _ _ _ h => h) ⟨_, hC⟩ (fun w' g' Fz => (r_load1 (n := 1) hS237 rfl rfl (by kernel_rfl) (Bx.cell (h179.fr Fz (fun h => h)) rfl))) fun a238 hS238 => d_pureW hS238 19 #[true, true, true, true, true, true, true, true, true, true, true, true, true, true, true, true, true, true, true, true, false, false, false, false, false, false, false, false, false, false, false, false] rfl (want_on hS238 rfl rfl rfl hb227) rfl rfl (by kernel_rfl) (fun _ _ _ h => h) (fun _ => (r_move hS238 rfl rfl)) fun a239 hS239 => d_pureW hS239 20 #[true, true, true, true, true, true, true, true, true, true, true, true, true, true, true, true, true, true, true, true, true, false, false, false, false, false, false, false, false, false, false, false] rfl (want_on hS239 rfl rfl rfl hb227) rfl rfl (by kernel_rfl) (fun _ _ _ h => h) (fun _ => (r_bin hS239 rfl rfl rfl b_gtr)) fun a240 hS240 => d_pure hS240 21 #[true, true, true, true, true, true, true, true, true, true, true, true, true, true, true, true, true, true, true, true, true, true, false, false, false, false, false, false, false, false, false, false] rfl rfl rfl rfl (by kernel_rfl) (fun _ _ _ h => h) (fun _ => (r_pickF hS240 rfl rfl rfl hb227)) fun a241 hS241 => hk _ (hS241.re ⟨rfl, rfl, rfl, rfl, rfl, rfl, rfl, rfl, rfl, (by rw [hb227]; rfl), trivial⟩)
                            intro a242 hS242
                            refine d_pure hS242 22 #[true, true, true, true, true, true, true, true, true, true, true, true, true, true, true, true, true, true, true, true, true, true, true, false, false, false, false, false, false, false, false, false] rfl rfl rfl rfl (by kernel_rfl) (fun _ _ _ h => h) (fun _ => (r_move hS242 rfl rfl)) fun a243 hS243 => ?_
                            refine d_join (N := 180) 0 #[true, true, true, true, true, true, true, true, true, true, true, true, true, true, true, true, true, true, true, true, true, true, true, true, true, true, true, true, true, true, true, true] [(1, .slice A1 p1.length cap1), (5, .slice A17 r15.length cap18), (6, .pointer (some ⟨b72, 0, none⟩)), (8, .slice A56 m1_0.length cap57), (9, .int .u64 r119.2), (11, .int .i64 m0_4), (15, .slice A135 r133.2.1.length cap136), (17, .int .i64 m1_2), (18, .pointer (some ⟨b178, 0, none⟩)), (116, .bool t255)] ?_ (fun hk => ?_)
                            rotate_left
                            · rcases Bool.eq_false_or_eq_true (((((decide (x174.Device < 0)) || (decide ((r15.length : Int) ≤ x174.Device))) || (decide (x174.At < m1_1))) || (decide (r119.2 < x174.At)))) with hb244 | hb244
                              · have H := ite_t hb244 ht256
                                have e257 := Option.some.inj H
                                refine d_off hS243 23 #[true, true, true, true, true, true, true, true, true, true, true, true, true, true, true, true, true, true, true, true, true, true, true, true, false, false, false, false, false, false, false, false] rfl (want_off hS243 rfl rfl rfl hb244) rfl rfl (by kernel_rfl) (fun _ _ _ h => h) fun a258 hS258 => d_off hS258 24 #[true, true, true, true, true, true, true, true, true, true, true, true, true, true, true, true, true, true, true, true, true, true, true, true, true, false, false, false, false, false, false, false] rfl (want_off hS258 rfl rfl rfl hb244) rfl rfl (by kernel_rfl) (fun _ _ _ h => h) fun a259 hS259 => d_off hS259 25 #[true, true, true, true, true, true, true, true, true, true, true, true, true, true, true, true, true, true, true, true, true, true, true, true, true, true, false, false, false, false, false, false] rfl (want_off hS259 rfl rfl rfl hb244) rfl rfl (by kernel_rfl) (fun _ _ _ h => h) fun a260 hS260 => d_off hS260 26 #[true, true, true, true, true, true, true, true, true, true, true, true, true, true, true, true, true, true, true, true, true, true, true, true, true, true, true, false, false, false, false, false] rfl (want_off hS260 rfl rfl rfl hb244) rfl rfl (by kernel_rfl) (fun _ _ _ h => h) fun a261 hS261 => d_off hS261 27 #[true, true, true, true, true, true, true, true, true, true, true, true, true, true, true, true, true, true, true, true, true, true, true, true, true, true, true, true, false, false, false, false] rfl (want_off hS261 rfl rfl rfl hb244) rfl rfl (by kernel_rfl) (fun _ _ _ h => h) fun a262 hS262 => d_off hS262 28 #[true, true, true, true, true, true, true, true, true, true, true, true, true, true, true, true, true, true, true, true, true, true, true, true, true, true, true, true, true, false, false, false] rfl (want_off hS262 rfl rfl rfl hb244) rfl rfl (by kernel_rfl) (fun _ _ _ h => h) fun a263 hS263 => d_off hS263 29 #[true, true, true, true, true, true, true, true, true, true, true, true, true, true, true, true, true, true, true, true, true, true, true, true, true, true, true, true, true, true, false, false] rfl (want_off hS263 rfl rfl rfl hb244) rfl rfl (by kernel_rfl) (fun _ _ _ h => h) fun a264 hS264 => d_off hS264 30 #[true, true, true, true, true, true, true, true, true, true, true, true, true, true, true, true, true, true, true, true, true, true, true, true, true, true, true, true, true, true, true, false] rfl (want_off hS264 rfl rfl rfl hb244) rfl rfl (by kernel_rfl) (fun _ _ _ h => h) fun a265 hS265 => d_pure hS265 31 #[true, true, true, true, true, true, true, true, true, true, true, true, true, true, true, true, true, true, true, true, true, true, true, true, true, true, true, true, true, true, true, true] rfl rfl rfl rfl (by kernel_rfl) (fun _ _ _ h => h) (fun _ => (r_pickT hS265 rfl rfl rfl hb244)) fun a266 hS266 => hk _ (hS266.re ⟨rfl, rfl, rfl, rfl, rfl, rfl, rfl, rfl, rfl, (by rw [← e257]; rfl), trivial⟩)
                              · have H := ite_f hb244 ht256
                                obtain ⟨x272, hx273, H⟩ := bind_el H
                                have e277 := Option.some.inj H
                                refine d_pureW hS243 23 #[true, true, true, true, true, true, true, true, true, true, true, true, true, true, true, true, true, true, true, true, true, true, true, true, false, false, false, false, false, false, false, false] rfl (want_on hS243 rfl rfl rfl hb244) rfl rfl (by kernel_rfl) (fun _ _ _ h => h) (fun _ => (r_fieldB (off := 1) hS243 rfl rfl (by kernel_rfl))) fun a267 hS267 => d_takeW hS267 24 #[true, true, true, true, true, true, true, true, true, true, true, true, true, true, true, true, true, true, true, true, true, true, true, true, true, false, false, false, false, false, false, false] rfl (want_on hS267 rfl rfl rfl hb244) rfl rfl (by kernel_rfl) (fun _ _ _ h => h) ⟨_, hC⟩ (fun w' g' Fz => (r_load1 (n := 1) hS267 rfl rfl (by kernel_rfl) (Bx.cell (h179.fr Fz (fun h => h)) rfl))) fun a268 hS268 => d_pureW hS268 25 #[true, true, true, true, true, true, true, true, true, true, true, true, true, true, true, true, true, true, true, true, true, true, true, true, true, true, false, false, false, false, false, false] rfl (want_on hS268 rfl rfl rfl hb244) rfl rfl (by kernel_rfl) (fun _ _ _ h => h) (fun _ => (r_move hS268 rfl rfl)) fun a269 hS269 => d_pureW hS269 26 #[true, true, true, true, true, true, true, true, true, true, true, true, true, true, true, true, true, true, true, true, true, true, true, true, true, true, true, false, false, false, false, false] rfl (want_on hS269 rfl rfl rfl hb244) rfl rfl (by kernel_rfl) (fun _ _ _ h => h) (fun _ => (r_fieldB (off := 0) hS269 rfl rfl (by kernel_rfl))) fun a270 hS270 => d_takeW hS270 27 #[true, true, true, true, true, true, true, true, true, true, true, true, true, true, true, true, true, true, true, true, true, true, true, true, true, true, true, true, false, false, false, false] rfl (want_on hS270 rfl rfl rfl hb244) rfl rfl (by kernel_rfl) (fun _ _ _ h => h) ⟨_, hC⟩ (fun w' g' Fz => (r_load1 (n := 1) hS270 rfl rfl (by kernel_rfl) (Bx.cell (h179.fr Fz (fun h => h)) rfl))) fun a271 hS271 => d_pureW hS271 28 #[true, true, true, true, true, true, true, true, true, true, true, true, true, true, true, true, true, true, true, true, true, true, true, true, true, true, true, true, true, false, false, false] rfl (want_on hS271 rfl rfl rfl hb244) rfl rfl (by kernel_rfl) (fun _ _ _ h => h) (fun _ => (r_index (e := 4) (sz := 1) (by_ := 1) hS271 rfl rfl rfl (by kernel_rfl) (RdS.some_ (OwS.rd h58) hx273) (idx_lo hx273) (idx_hi hx273))) fun a274 hS274 => d_takeW hS274 29 #[true, true, true, true, true, true, true, true, true, true, true, true, true, true, true, true, true, true, true, true, true, true, true, true, true, true, true, true, true, true, false, false] rfl (want_on hS274 rfl rfl rfl hb244) rfl rfl (by kernel_rfl) (fun _ _ _ h => h) ⟨_, hC⟩ (fun w' g' Fz => (r_load1 (n := 1) hS274 rfl rfl (by kernel_rfl) (RdS.cell (i := x174.Device) (sz := 1) (j := 0) (OwS.rd (OwS.fr h58 Fz (fun _ _ h => h))) hx273 rfl))) fun a275 hS275 => d_pureW hS275 30 #[true, true, true, true, true, true, true, true, true, true, true, true, true, true, true, true, true, true, true, true, true, true, true, true, true, true, true, true, true, true, true, false] rfl (want_on hS275 rfl rfl rfl hb244) rfl rfl (by kernel_rfl) (fun _ _ _ h => h) (fun _ => (r_binB hS275 rfl rfl rfl (b_eqlB (by kernel_rfl)))) fun a276 hS276 => d_pure hS276 31 #[true, true, true, true, true, true, true, true, true, true, true, true, true, true, true, true, true, true, true, true, true, true, true, true, true, true, true, true, true, true, true, true] rfl rfl rfl rfl (by kernel_rfl) (fun _ _ _ h => h) (fun _ => (r_pickF hS276 rfl rfl rfl hb244)) fun a278 hS278 => hk _ (hS278.re ⟨rfl, rfl, rfl, rfl, rfl, rfl, rfl, rfl, rfl, (by rw [← e277]; rfl), trivial⟩)
                            intro a279 hS279
                            refine d_done (by kernel_rfl) (hK _ _ ?_)
                            replace hS : Sl 180 _ [(1, .slice A1 p1.length cap1), (5, .slice A17 r15.length cap18), (6, .pointer (some ⟨b72, 0, none⟩)), (8, .slice A56 m1_0.length cap57), (9, .int .u64 r119.2), (11, .int .i64 m0_4), (15, .slice A135 r133.2.1.length cap136), (17, .int .i64 m1_2), (18, .pointer (some ⟨b178, 0, none⟩)), (116, .bool t255)] := hS279.re ⟨rfl, rfl, rfl, rfl, rfl, rfl, rfl, rfl, rfl, rfl, trivial⟩
                            clear hK K hC
                            try clear hS186 hS187 hS188 hS189 hS208 hS209 hS225 hS226 hS242 hS243 hS279
                            obtain ⟨a, ha⟩ : ∃ a', a' = a279 := ⟨_, rfl⟩
                            rw [← ha] at hS ⊢; clear ha
                            refine c_cond hS rfl (fun hb280 => ?_) (fun hb280 => ?_)
                            · replace H := ite_t hb280 H
                              refine c_pure [(4, .bool false)] (fun R hR => st_val hS rfl rfl rfl (r_assign hS rfl rfl) fun a281 hS281 => wpList_nil (hR _ (hS281.re ⟨rfl, trivial⟩))) ?_
                              clear hS
                              clear a
                              intro a hS
                              refine wp_ret ?_
                              have e := Option.some.inj H
                              subst e
                              replace H := Fl.go_out Hl171
                              have e := Option.some.inj H
                              subst e
                              replace H := Fl.go_out Hl159
                              have e := Option.some.inj H
                              subst e
                              replace H := Fl.go_out Hl98
                              have e := Option.some.inj H
                              subst e
                              replace H := Fl.go_out Hl68
                              have e := Option.some.inj H
                              subst e
                              repeat (with_reducible first | refine then_ret ?_ | refine inBlock_ret ?_)
                              exact c_ret1 hS Try.results6 rfl ⟨_, rfl, g184, rfl, hF⟩
                            · replace H := ite_f hb280 H
                              refine wp_skip ?_
                              change Code.wp _ _ _ _ _
                              obtain ⟨o284, H, Hl285⟩ := bind_el H
                              refine c_cut (fun a w282 => ∃ (g282 : Nat → Nat), o284 = .nxt () ∧ Sl 180 a [(1, .slice A1 p1.length cap1), (5, .slice A17 r15.length cap18), (6, .pointer (some ⟨b72, 0, none⟩)), (8, .slice A56 m1_0.length cap57), (9, .int .u64 r119.2), (11, .int .i64 m0_4), (15, .slice A135 r133.2.1.length cap136), (17, .int .i64 m1_2), (18, .pointer (some ⟨b178, 0, none⟩))] ∧ OwS kd_api_PowerOp 47 w282 g282 (N + 13) A135 cap136 r133.2.1 ∧ Bx w282 g282 (N + 15) b178 47 [.int .i64 x174.Device, .bool x174.Resume, .int .u64 x174.At] ∧ OwS kd_api_IdleDevice 30 w282 g282 (N + 0) A17 cap18 r15 ∧ OwS kbool 4 w282 g282 (N + 9) A56 cap57 m1_0 ∧ Bx w282 g282 (N + 2) b72 85 [.slice A75 r133.1.devices.length cap76, .slice A79 r133.1.links.length cap80, .slice A83 r133.1.order.length cap84, .int .u64 r133.1.now] ∧ OwS kd_runtimepm_device 88 w282 g282 (N + 2 + 1) A75 cap76 r133.1.devices ∧ OwS kd_api_Link 67 w282 g282 (N + 2 + 3) A79 cap80 r133.1.links ∧ OwS (kint .i64) 3 w282 g282 (N + 2 + 5) A83 cap84 r133.1.order ∧ RdS kd_law28_Call w282 g282 C1 A1 cap1 p1 ∧ Fr (fun q => N ≤ q) w g w282 g282) ?_ ?_
                              · refine c_pure [(1, .slice A1 p1.length cap1), (5, .slice A17 r15.length cap18), (6, .pointer (some ⟨b72, 0, none⟩)), (8, .slice A56 m1_0.length cap57), (9, .int .u64 r119.2), (11, .int .i64 m0_4), (15, .slice A135 r133.2.1.length cap136), (17, .int .i64 m1_2), (18, .pointer (some ⟨b178, 0, none⟩)), (19, .int .i64 0)] (fun R hR => st_val hS rfl rfl rfl (r_assign hS rfl rfl) fun a286 hS286 => wpList_nil (hR _ (hS286.re ⟨rfl, rfl, rfl, rfl, rfl, rfl, rfl, rfl, rfl, rfl, trivial⟩))) ?_
                                clear hS
                                clear a
                                intro a hS
                                refine wp_block ?_
                                refine wp_loop_ghost (fun kq => fun a w287 => ∃ (m2_0 : Int), ∃ (g287 : Nat → Nat), law28_RuntimepmOperationsOrdered.l2 r15 m1_0 x174 kq m2_0 = some o284 ∧ Sl 180 a [(1, .slice A1 p1.length cap1), (5, .slice A17 r15.length cap18), (6, .pointer (some ⟨b72, 0, none⟩)), (8, .slice A56 m1_0.length cap57), (9, .int .u64 r119.2), (11, .int .i64 m0_4), (15, .slice A135 r133.2.1.length cap136), (17, .int .i64 m1_2), (18, .pointer (some ⟨b178, 0, none⟩)), (19, .int .i64 m2_0)] ∧ OwS kd_api_PowerOp 47 w287 g287 (N + 13) A135 cap136 r133.2.1 ∧ Bx w287 g287 (N + 15) b178 47 [.int .i64 x174.Device, .bool x174.Resume, .int .u64 x174.At] ∧ OwS kd_api_IdleDevice 30 w287 g287 (N + 0) A17 cap18 r15 ∧ OwS kbool 4 w287 g287 (N + 9) A56 cap57 m1_0 ∧ Bx w287 g287 (N + 2) b72 85 [.slice A75 r133.1.devices.length cap76, .slice A79 r133.1.links.length cap80, .slice A83 r133.1.order.length cap84, .int .u64 r133.1.now] ∧ OwS kd_runtimepm_device 88 w287 g287 (N + 2 + 1) A75 cap76 r133.1.devices ∧ OwS kd_api_Link 67 w287 g287 (N + 2 + 3) A79 cap80 r133.1.links ∧ OwS (kint .i64) 3 w287 g287 (N + 2 + 5) A83 cap84 r133.1.order ∧ RdS kd_law28_Call w287 g287 C1 A1 cap1 p1 ∧ Fr (fun q => N ≤ q) w g w287 g287) FUEL ?_ ?_
                                · exact ⟨0, g184, H, hS.re ⟨rfl, rfl, rfl, rfl, rfl, rfl, rfl, rfl, rfl, rfl, trivial⟩, h137, h179, h19, h58, h73, h77, h81, h85, hp1, hF⟩
                                · clear H
                                  clear hp1 h19 h58 h77 h81 h85 h73 h137 h179 hF
                                  clear hS
                                  rintro k288 a w287 ⟨m2_0, g287, hpre0, hS, h137, h179, h19, h58, h73, h77, h81, h85, hp1, hF⟩
                                  have H := hpre0
                                  clear hpre0
                                  cases k288 with
                                  | zero => exact absurd H (by simp [law28_RuntimepmOperationsOrdered.l2])
                                  | succ k288 =>
                                    rw [law28_RuntimepmOperationsOrdered.l2] at H
                                    refine wp_seq ?_
                                    refine c_pure [(1, .slice A1 p1.length cap1), (5, .slice A17 r15.length cap18), (6, .pointer (some ⟨b72, 0, none⟩)), (8, .slice A56 m1_0.length cap57), (9, .int .u64 r119.2), (11, .int .i64 m0_4), (15, .slice A135 r133.2.1.length cap136), (17, .int .i64 m1_2), (18, .pointer (some ⟨b178, 0, none⟩)), (19, .int .i64 m2_0), (120, .bool (decide (m2_0 < (r15.length : Int))))] (fun R hR => st_val hS rfl rfl rfl (r_move hS rfl rfl) fun a289 hS289 => st_val hS289 rfl rfl rfl (r_move hS289 rfl rfl) fun a290 hS290 => st_val hS290 rfl rfl rfl (r_len (e := 30) (sz := 3) (by_ := 40) hS290 rfl rfl (by kernel_rfl)) fun a291 hS291 => st_val hS291 rfl rfl rfl (r_bin hS291 rfl rfl rfl b_lss) fun a292 hS292 => wpList_nil (hR _ (hS292.re ⟨rfl, rfl, rfl, rfl, rfl, rfl, rfl, rfl, rfl, rfl, rfl, trivial⟩))) ?_
                                    clear hS
                                    clear a
                                    intro a hS
                                    refine c_cond hS rfl (fun hb293 => ?_) (fun hb293 => ?_)
                                    · replace H := ite_t hb293 H
                                      refine wp_skip ?_
                                      change Code.wp _ _ _ _ _
                                      refine wp_seq ?_
                                      refine wp_block ?_
                                      obtain ⟨t306, ht307, H⟩ := bind_el H
                                      obtain ⟨t336, ht337, H⟩ := bind_el H
                                      obtain ⟨t416, ht417, H⟩ := bind_el H
                                      refine c_region (fun K hK => ?_)
                                      refine st_val hS rfl rfl rfl (r_fieldB (off := 1) hS rfl rfl (by kernel_rfl)) fun a294 hS294 => st_val hS294 rfl rfl rfl (r_load1 (n := 1) hS294 rfl rfl (by kernel_rfl) (Bx.cell h179 rfl)) fun a295 hS295 => st_val hS295 rfl rfl rfl (r_move hS295 rfl rfl) fun a296 hS296 => ?_
                                      refine g_joinR 6 (fun a w308 => ∃ (g308 : Nat → Nat), Sl 180 a [(1, .slice A1 p1.length cap1), (5, .slice A17 r15.length cap18), (6, .pointer (some ⟨b72, 0, none⟩)), (8, .slice A56 m1_0.length cap57), (9, .int .u64 r119.2), (11, .int .i64 m0_4), (15, .slice A135 r133.2.1.length cap136), (17, .int .i64 m1_2), (18, .pointer (some ⟨b178, 0, none⟩)), (19, .int .i64 m2_0), (131, .bool t306)] ∧ OwS kd_api_PowerOp 47 w308 g308 (N + 13) A135 cap136 r133.2.1 ∧ Bx w308 g308 (N + 15) b178 47 [.int .i64 x174.Device, .bool x174.Resume, .int .u64 x174.At] ∧ OwS kd_api_IdleDevice 30 w308 g308 (N + 0) A17 cap18 r15 ∧ OwS kbool 4 w308 g308 (N + 9) A56 cap57 m1_0 ∧ Bx w308 g308 (N + 2) b72 85 [.slice A75 r133.1.devices.length cap76, .slice A79 r133.1.links.length cap80, .slice A83 r133.1.order.length cap84, .int .u64 r133.1.now] ∧ OwS kd_runtimepm_device 88 w308 g308 (N + 2 + 1) A75 cap76 r133.1.devices ∧ OwS kd_api_Link 67 w308 g308 (N + 2 + 3) A79 cap80 r133.1.links ∧ OwS (kint .i64) 3 w308 g308 (N + 2 + 5) A83 cap84 r133.1.order ∧ RdS kd_law28_Call w308 g308 C1 A1 cap1 p1 ∧ Fr (fun q => N ≤ q) w g w308 g308) ?_ (fun hk => ?_)
                                      rotate_left
                                      · rcases Bool.eq_false_or_eq_true (x174.Resume) with hb297 | hb297
                                        · have H := ite_t hb297 ht307
                                          obtain ⟨r313, hr314, H⟩ := bind_el H
                                          have e317 := Option.some.inj H
                                          refine st_valW hS296 (want_on hS296 rfl rfl rfl hb297) rfl rfl (r_move hS296 rfl rfl) fun a309 hS309 => st_valW hS309 (want_on hS309 rfl rfl rfl hb297) rfl rfl (r_fieldB (off := 0) hS309 rfl rfl (by kernel_rfl)) fun a310 hS310 => st_valW hS310 (want_on hS310 rfl rfl rfl hb297) rfl rfl (r_load1 (n := 1) hS310 rfl rfl (by kernel_rfl) (Bx.cell h179 rfl)) fun a311 hS311 => st_valW hS311 (want_on hS311 rfl rfl rfl hb297) rfl rfl (r_move hS311 rfl rfl) fun a312 hS312 => ?_
                                          refine st_enterW hS312 (want_on hS312 rfl rfl rfl hb297) rfl rfl (r_call hS312 rfl rfl (by kernel_rfl)) (law28_needs.calls (C0 := (fun q => q = N + 0 ∨ q = N + 0 + 1)) (p0 := r15) (p1 := x174.Device) (p2 := m2_0) (g := g287) (N + 17)  (OwS.rd h19) (fun q (hq : q = N + 0 ∨ q = N + 0 + 1) => by rcases hq with hq | hq; all_goals first | (omega; done) | (omega; done)) hr314) ?_
                                          rintro _ a315 w316 ⟨g316, rfl, F316⟩ hS315
                                          replace h137 := OwS.fr h137 F316 (fun c' hc (hm : N + 17 ≤ c') => by omega)
                                          replace h179 := h179.fr F316 (fun (hm : N + 17 ≤ N + 15) => by omega)
                                          replace h19 := OwS.fr h19 F316 (fun c' hc (hm : N + 17 ≤ c') => by omega)
                                          replace h58 := OwS.fr h58 F316 (fun c' hc (hm : N + 17 ≤ c') => by omega)
                                          replace h73 := h73.fr F316 (fun (hm : N + 17 ≤ N + 2) => by omega)
                                          replace h77 := OwS.fr h77 F316 (fun c' hc (hm : N + 17 ≤ c') => by omega)
                                          replace h81 := OwS.fr h81 F316 (fun c' hc (hm : N + 17 ≤ c') => by omega)
                                          replace h85 := OwS.fr h85 F316 (fun c' hc (hm : N + 17 ≤ c') => by omega)
                                          replace hp1 := RdS.fr hp1 F316 (by decide) (fun q (hq : C1 q) (hm : N + 17 ≤ q) => by have := hC1 q hq; omega)
                                          replace hF := hF.trans F316 (fun c' (hm : N + 17 ≤ c') => by show N ≤ c'; omega)
                                          refine st_val hS315 rfl rfl rfl (r_pickT hS315 rfl rfl rfl hb297) fun a318 hS318 => hk _ _ ?_
                                          exact ⟨g316, hS318.re ⟨rfl, rfl, rfl, rfl, rfl, rfl, rfl, rfl, rfl, rfl, (by rw [← e317]; rfl), trivial⟩, h137, h179, h19, h58, h73, h77, h81, h85, hp1, hF⟩
                                        · have H := ite_f hb297 ht307
                                          have e319 := Option.some.inj H
                                          refine st_off hS296 (want_off hS296 rfl rfl rfl hb297) rfl rfl fun a320 hS320 => st_off hS320 (want_off hS320 rfl rfl rfl hb297) rfl rfl fun a321 hS321 => st_off hS321 (want_off hS321 rfl rfl rfl hb297) rfl rfl fun a322 hS322 => st_off hS322 (want_off hS322 rfl rfl rfl hb297) rfl rfl fun a323 hS323 => st_off hS323 (want_off hS323 rfl rfl rfl hb297) rfl rfl fun a324 hS324 => st_val hS324 rfl rfl rfl (r_pickF hS324 rfl rfl rfl hb297) fun a325 hS325 => hk _ _ ?_
                                          exact ⟨g287, hS325.re ⟨rfl, rfl, rfl, rfl, rfl, rfl, rfl, rfl, rfl, rfl, (by rw [← e319]; rfl), trivial⟩, h137, h179, h19, h58, h73, h77, h81, h85, hp1, hF⟩
                                      rintro a326 w308 ⟨g308, hS326, h137, h179, h19, h58, h73, h77, h81, h85, hp1, hF⟩
                                      refine st_val hS326 rfl rfl rfl (r_move hS326 rfl rfl) fun a327 hS327 => ?_
                                      refine g_join (N := 180) 6 [(1, .slice A1 p1.length cap1), (5, .slice A17 r15.length cap18), (6, .pointer (some ⟨b72, 0, none⟩)), (8, .slice A56 m1_0.length cap57), (9, .int .u64 r119.2), (11, .int .i64 m0_4), (15, .slice A135 r133.2.1.length cap136), (17, .int .i64 m1_2), (18, .pointer (some ⟨b178, 0, none⟩)), (19, .int .i64 m2_0), (138, .bool t336)] ?_ (fun hk => ?_)
                                      rotate_left
                                      · rcases Bool.eq_false_or_eq_true (t306) with hb328 | hb328
                                        · have H := ite_t hb328 ht337
                                          obtain ⟨x340, hx341, H⟩ := bind_el H
                                          have e345 := Option.some.inj H
                                          refine st_valW hS327 (want_on hS327 rfl rfl rfl hb328) rfl rfl (r_move hS327 rfl rfl) fun a338 hS338 => st_valW hS338 (want_on hS338 rfl rfl rfl hb328) rfl rfl (r_move hS338 rfl rfl) fun a339 hS339 => st_valW hS339 (want_on hS339 rfl rfl rfl hb328) rfl rfl (r_index (e := 4) (sz := 1) (by_ := 1) hS339 rfl rfl rfl (by kernel_rfl) (RdS.some_ (OwS.rd h58) hx341) (idx_lo hx341) (idx_hi hx341)) fun a342 hS342 => st_valW hS342 (want_on hS342 rfl rfl rfl hb328) rfl rfl (r_load1 (n := 1) hS342 rfl rfl (by kernel_rfl) (RdS.cell (i := m2_0) (sz := 1) (j := 0) (OwS.rd h58) hx341 rfl)) fun a343 hS343 => st_valW hS343 (want_on hS343 rfl rfl rfl hb328) rfl rfl (r_not hS343 rfl rfl) fun a344 hS344 => st_val hS344 rfl rfl rfl (r_pickT hS344 rfl rfl rfl hb328) fun a346 hS346 => hk _ (hS346.re ⟨rfl, rfl, rfl, rfl, rfl, rfl, rfl, rfl, rfl, rfl, (by rw [← e345]; rfl), trivial⟩)
                                        · have H := ite_f hb328 ht337
                                          have e347 := Option.some.inj H
                                          refine st_off hS327 (want_off hS327 rfl rfl rfl hb328) rfl rfl fun a348 hS348 => st_off hS348 (want_off hS348 rfl rfl rfl hb328) rfl rfl fun a349 hS349 => st_off hS349 (want_off hS349 rfl rfl rfl hb328) rfl rfl fun a350 hS350 => st_off hS350 (want_off hS350 rfl rfl rfl hb328) rfl rfl fun a351 hS351 => st_off hS351 (want_off hS351 rfl rfl rfl hb328) rfl rfl fun a352 hS352 => st_val hS352 rfl rfl rfl (r_pickF hS352 rfl rfl rfl hb328) fun a353 hS353 => hk _ (hS353.re ⟨rfl, rfl, rfl, rfl, rfl, rfl, rfl, rfl, rfl, rfl, (by rw [← e347]; rfl), trivial⟩)
                                      intro a354 hS354
                                      refine st_val hS354 rfl rfl rfl (r_move hS354 rfl rfl) fun a355 hS355 => ?_
                                      refine g_joinR 17 (fun a w418 => ∃ (g418 : Nat → Nat), Sl 180 a [(1, .slice A1 p1.length cap1), (5, .slice A17 r15.length cap18), (6, .pointer (some ⟨b72, 0, none⟩)), (8, .slice A56 m1_0.length cap57), (9, .int .u64 r119.2), (11, .int .i64 m0_4), (15, .slice A135 r133.2.1.length cap136), (17, .int .i64 m1_2), (18, .pointer (some ⟨b178, 0, none⟩)), (19, .int .i64 m2_0), (156, .bool t416)] ∧ OwS kd_api_PowerOp 47 w418 g418 (N + 13) A135 cap136 r133.2.1 ∧ Bx w418 g418 (N + 15) b178 47 [.int .i64 x174.Device, .bool x174.Resume, .int .u64 x174.At] ∧ OwS kd_api_IdleDevice 30 w418 g418 (N + 0) A17 cap18 r15 ∧ OwS kbool 4 w418 g418 (N + 9) A56 cap57 m1_0 ∧ Bx w418 g418 (N + 2) b72 85 [.slice A75 r133.1.devices.length cap76, .slice A79 r133.1.links.length cap80, .slice A83 r133.1.order.length cap84, .int .u64 r133.1.now] ∧ OwS kd_runtimepm_device 88 w418 g418 (N + 2 + 1) A75 cap76 r133.1.devices ∧ OwS kd_api_Link 67 w418 g418 (N + 2 + 3) A79 cap80 r133.1.links ∧ OwS (kint .i64) 3 w418 g418 (N + 2 + 5) A83 cap84 r133.1.order ∧ RdS kd_law28_Call w418 g418 C1 A1 cap1 p1 ∧ Fr (fun q => N ≤ q) w g w418 g418) ?_ (fun hk => ?_)
                                      rotate_left
                                      · rcases Bool.eq_false_or_eq_true (t336) with hb356 | hb356
                                        · have H := ite_t hb356 ht417
                                          have e419 := Option.some.inj H
                                          refine st_off hS355 (want_off hS355 rfl rfl rfl hb356) rfl rfl fun a420 hS420 => st_off hS420 (want_off hS420 rfl rfl rfl hb356) rfl rfl fun a421 hS421 => st_off hS421 (want_off hS421 rfl rfl rfl hb356) rfl rfl fun a422 hS422 => st_off hS422 (want_off hS422 rfl rfl rfl hb356) rfl rfl fun a423 hS423 => st_off hS423 (want_un hS423 rfl rfl rfl) rfl rfl fun a424 hS424 => st_off hS424 (want_un hS424 rfl rfl rfl) rfl rfl fun a425 hS425 => st_off hS425 (want_un hS425 rfl rfl rfl) rfl rfl fun a426 hS426 => st_off hS426 (want_un hS426 rfl rfl rfl) rfl rfl fun a427 hS427 => st_off hS427 (want_un hS427 rfl rfl rfl) rfl rfl fun a428 hS428 => st_off hS428 (want_off hS428 rfl rfl rfl hb356) rfl rfl fun a429 hS429 => st_off hS429 (want_off hS429 rfl rfl rfl hb356) rfl rfl fun a430 hS430 => st_off hS430 (want_un hS430 rfl rfl rfl) rfl rfl fun a431 hS431 => st_off hS431 (want_un hS431 rfl rfl rfl) rfl rfl fun a432 hS432 => st_off hS432 (want_un hS432 rfl rfl rfl) rfl rfl fun a433 hS433 => st_off hS433 (want_un hS433 rfl rfl rfl) rfl rfl fun a434 hS434 => st_off hS434 (want_off hS434 rfl rfl rfl hb356) rfl rfl fun a435 hS435 => st_val hS435 rfl rfl rfl (r_pickT hS435 rfl rfl rfl hb356) fun a436 hS436 => hk _ _ ?_
                                          exact ⟨g308, hS436.re ⟨rfl, rfl, rfl, rfl, rfl, rfl, rfl, rfl, rfl, rfl, (by rw [← e419]; rfl), trivial⟩, h137, h179, h19, h58, h73, h77, h81, h85, hp1, hF⟩
                                        · have H := ite_f hb356 ht417
                                          obtain ⟨t450, ht451, H⟩ := bind_el H
                                          obtain ⟨t479, ht480, H⟩ := bind_el H
                                          have e496 := Option.some.inj H
                                          refine st_valW hS355 (want_on hS355 rfl rfl rfl hb356) rfl rfl (r_fieldB (off := 1) hS355 rfl rfl (by kernel_rfl)) fun a437 hS437 => st_valW hS437 (want_on hS437 rfl rfl rfl hb356) rfl rfl (r_load1 (n := 1) hS437 rfl rfl (by kernel_rfl) (Bx.cell h179 rfl)) fun a438 hS438 => st_valW hS438 (want_on hS438 rfl rfl rfl hb356) rfl rfl (r_not hS438 rfl rfl) fun a439 hS439 => st_valW hS439 (want_on hS439 rfl rfl rfl hb356) rfl rfl (r_move hS439 rfl rfl) fun a440 hS440 => ?_
                                          refine g_joinR 6 (fun a w452 => ∃ (g452 : Nat → Nat), Sl 180 a [(1, .slice A1 p1.length cap1), (5, .slice A17 r15.length cap18), (6, .pointer (some ⟨b72, 0, none⟩)), (8, .slice A56 m1_0.length cap57), (9, .int .u64 r119.2), (11, .int .i64 m0_4), (15, .slice A135 r133.2.1.length cap136), (17, .int .i64 m1_2), (18, .pointer (some ⟨b178, 0, none⟩)), (19, .int .i64 m2_0), (139, .bool t336), (140, .pointer (some ⟨b178, 1, none⟩)), (141, .bool x174.Resume), (142, .bool (!x174.Resume)), (143, .bool (!x174.Resume)), (149, .bool t450)] ∧ OwS kd_api_PowerOp 47 w452 g452 (N + 13) A135 cap136 r133.2.1 ∧ Bx w452 g452 (N + 15) b178 47 [.int .i64 x174.Device, .bool x174.Resume, .int .u64 x174.At] ∧ OwS kd_api_IdleDevice 30 w452 g452 (N + 0) A17 cap18 r15 ∧ OwS kbool 4 w452 g452 (N + 9) A56 cap57 m1_0 ∧ Bx w452 g452 (N + 2) b72 85 [.slice A75 r133.1.devices.length cap76, .slice A79 r133.1.links.length cap80, .slice A83 r133.1.order.length cap84, .int .u64 r133.1.now] ∧ OwS kd_runtimepm_device 88 w452 g452 (N + 2 + 1) A75 cap76 r133.1.devices ∧ OwS kd_api_Link 67 w452 g452 (N + 2 + 3) A79 cap80 r133.1.links ∧ OwS (kint .i64) 3 w452 g452 (N + 2 + 5) A83 cap84 r133.1.order ∧ RdS kd_law28_Call w452 g452 C1 A1 cap1 p1 ∧ Fr (fun q => N ≤ q) w g w452 g452) ?_ (fun hk => ?_)
                                          rotate_left
                                          · rcases Bool.eq_false_or_eq_true ((!x174.Resume)) with hb441 | hb441
                                            · have H := ite_t hb441 ht451
                                              obtain ⟨r457, hr458, H⟩ := bind_el H
                                              have e461 := Option.some.inj H
                                              refine st_valW hS440 (want_on hS440 rfl rfl rfl hb441) rfl rfl (r_move hS440 rfl rfl) fun a453 hS453 => st_valW hS453 (want_on hS453 rfl rfl rfl hb441) rfl rfl (r_move hS453 rfl rfl) fun a454 hS454 => st_valW hS454 (want_on hS454 rfl rfl rfl hb441) rfl rfl (r_fieldB (off := 0) hS454 rfl rfl (by kernel_rfl)) fun a455 hS455 => st_valW hS455 (want_on hS455 rfl rfl rfl hb441) rfl rfl (r_load1 (n := 1) hS455 rfl rfl (by kernel_rfl) (Bx.cell h179 rfl)) fun a456 hS456 => ?_
                                              refine st_enterW hS456 (want_on hS456 rfl rfl rfl hb441) rfl rfl (r_call hS456 rfl rfl (by kernel_rfl)) (law28_needs.calls (C0 := (fun q => q = N + 0 ∨ q = N + 0 + 1)) (p0 := r15) (p1 := m2_0) (p2 := x174.Device) (g := g308) (N + 17)  (OwS.rd h19) (fun q (hq : q = N + 0 ∨ q = N + 0 + 1) => by rcases hq with hq | hq; all_goals first | (omega; done) | (omega; done)) hr458) ?_
                                              rintro _ a459 w460 ⟨g460, rfl, F460⟩ hS459
                                              replace h137 := OwS.fr h137 F460 (fun c' hc (hm : N + 17 ≤ c') => by omega)
                                              replace h179 := h179.fr F460 (fun (hm : N + 17 ≤ N + 15) => by omega)
                                              replace h19 := OwS.fr h19 F460 (fun c' hc (hm : N + 17 ≤ c') => by omega)
                                              replace h58 := OwS.fr h58 F460 (fun c' hc (hm : N + 17 ≤ c') => by omega)
                                              replace h73 := h73.fr F460 (fun (hm : N + 17 ≤ N + 2) => by omega)
                                              replace h77 := OwS.fr h77 F460 (fun c' hc (hm : N + 17 ≤ c') => by omega)
                                              replace h81 := OwS.fr h81 F460 (fun c' hc (hm : N + 17 ≤ c') => by omega)
                                              replace h85 := OwS.fr h85 F460 (fun c' hc (hm : N + 17 ≤ c') => by omega)
                                              replace hp1 := RdS.fr hp1 F460 (by decide) (fun q (hq : C1 q) (hm : N + 17 ≤ q) => by have := hC1 q hq; omega)
                                              replace hF := hF.trans F460 (fun c' (hm : N + 17 ≤ c') => by show N ≤ c'; omega)
                                              refine st_valW hS459 (want_on hS459 rfl rfl rfl hb356) rfl rfl (r_pickT hS459 rfl rfl rfl hb441) fun a462 hS462 => hk _ _ ?_
                                              exact ⟨g460, hS462.re ⟨rfl, rfl, rfl, rfl, rfl, rfl, rfl, rfl, rfl, rfl, rfl, rfl, rfl, rfl, rfl, (by rw [← e461]; rfl), trivial⟩, h137, h179, h19, h58, h73, h77, h81, h85, hp1, hF⟩
                                            · have H := ite_f hb441 ht451
                                              have e463 := Option.some.inj H
                                              refine st_off hS440 (want_off hS440 rfl rfl rfl hb441) rfl rfl fun a464 hS464 => st_off hS464 (want_off hS464 rfl rfl rfl hb441) rfl rfl fun a465 hS465 => st_off hS465 (want_off hS465 rfl rfl rfl hb441) rfl rfl fun a466 hS466 => st_off hS466 (want_off hS466 rfl rfl rfl hb441) rfl rfl fun a467 hS467 => st_off hS467 (want_off hS467 rfl rfl rfl hb441) rfl rfl fun a468 hS468 => st_valW hS468 (want_on hS468 rfl rfl rfl hb356) rfl rfl (r_pickF hS468 rfl rfl rfl hb441) fun a469 hS469 => hk _ _ ?_
                                              exact ⟨g308, hS469.re ⟨rfl, rfl, rfl, rfl, rfl, rfl, rfl, rfl, rfl, rfl, rfl, rfl, rfl, rfl, rfl, (by rw [← e463]; rfl), trivial⟩, h137, h179, h19, h58, h73, h77, h81, h85, hp1, hF⟩
                                          rintro a470 w452 ⟨g452, hS470, h137, h179, h19, h58, h73, h77, h81, h85, hp1, hF⟩
                                          refine st_valW hS470 (want_on hS470 rfl rfl rfl hb356) rfl rfl (r_move hS470 rfl rfl) fun a471 hS471 => ?_
                                          refine g_join (N := 180) 5 [(1, .slice A1 p1.length cap1), (5, .slice A17 r15.length cap18), (6, .pointer (some ⟨b72, 0, none⟩)), (8, .slice A56 m1_0.length cap57), (9, .int .u64 r119.2), (11, .int .i64 m0_4), (15, .slice A135 r133.2.1.length cap136), (17, .int .i64 m1_2), (18, .pointer (some ⟨b178, 0, none⟩)), (19, .int .i64 m2_0), (139, .bool t336), (140, .pointer (some ⟨b178, 1, none⟩)), (141, .bool x174.Resume), (142, .bool (!x174.Resume)), (143, .bool (!x174.Resume)), (149, .bool t450), (150, .bool t450), (155, .bool t479)] ?_ (fun hk => ?_)
                                          rotate_left
                                          · rcases Bool.eq_false_or_eq_true (t450) with hb472 | hb472
                                            · have H := ite_t hb472 ht480
                                              obtain ⟨x483, hx484, H⟩ := bind_el H
                                              have e487 := Option.some.inj H
                                              refine st_valW hS471 (want_on hS471 rfl rfl rfl hb472) rfl rfl (r_move hS471 rfl rfl) fun a481 hS481 => st_valW hS481 (want_on hS481 rfl rfl rfl hb472) rfl rfl (r_move hS481 rfl rfl) fun a482 hS482 => st_valW hS482 (want_on hS482 rfl rfl rfl hb472) rfl rfl (r_index (e := 4) (sz := 1) (by_ := 1) hS482 rfl rfl rfl (by kernel_rfl) (RdS.some_ (OwS.rd h58) hx484) (idx_lo hx484) (idx_hi hx484)) fun a485 hS485 => st_valW hS485 (want_on hS485 rfl rfl rfl hb472) rfl rfl (r_load1 (n := 1) hS485 rfl rfl (by kernel_rfl) (RdS.cell (i := m2_0) (sz := 1) (j := 0) (OwS.rd h58) hx484 rfl)) fun a486 hS486 => st_valW hS486 (want_on hS486 rfl rfl rfl hb356) rfl rfl (r_pickT hS486 rfl rfl rfl hb472) fun a488 hS488 => hk _ (hS488.re ⟨rfl, rfl, rfl, rfl, rfl, rfl, rfl, rfl, rfl, rfl, rfl, rfl, rfl, rfl, rfl, rfl, rfl, (by rw [← e487]; rfl), trivial⟩)
                                            · have H := ite_f hb472 ht480
                                              have e489 := Option.some.inj H
                                              refine st_off hS471 (want_off hS471 rfl rfl rfl hb472) rfl rfl fun a490 hS490 => st_off hS490 (want_off hS490 rfl rfl rfl hb472) rfl rfl fun a491 hS491 => st_off hS491 (want_off hS491 rfl rfl rfl hb472) rfl rfl fun a492 hS492 => st_off hS492 (want_off hS492 rfl rfl rfl hb472) rfl rfl fun a493 hS493 => st_valW hS493 (want_on hS493 rfl rfl rfl hb356) rfl rfl (r_pickF hS493 rfl rfl rfl hb472) fun a494 hS494 => hk _ (hS494.re ⟨rfl, rfl, rfl, rfl, rfl, rfl, rfl, rfl, rfl, rfl, rfl, rfl, rfl, rfl, rfl, rfl, rfl, (by rw [← e489]; rfl), trivial⟩)
                                          intro a495 hS495
                                          refine st_val hS495 rfl rfl rfl (r_pickF hS495 rfl rfl rfl hb356) fun a497 hS497 => hk _ _ ?_
                                          exact ⟨g452, hS497.re ⟨rfl, rfl, rfl, rfl, rfl, rfl, rfl, rfl, rfl, rfl, (by rw [← e496]; rfl), trivial⟩, h137, h179, h19, h58, h73, h77, h81, h85, hp1, hF⟩
                                      rintro a498 w418 ⟨g418, hS498, h137, h179, h19, h58, h73, h77, h81, h85, hp1, hF⟩
                                      refine wpList_nil (hK _ _ ?_)
                                      replace hS : Sl 180 _ [(1, .slice A1 p1.length cap1), (5, .slice A17 r15.length cap18), (6, .pointer (some ⟨b72, 0, none⟩)), (8, .slice A56 m1_0.length cap57), (9, .int .u64 r119.2), (11, .int .i64 m0_4), (15, .slice A135 r133.2.1.length cap136), (17, .int .i64 m1_2), (18, .pointer (some ⟨b178, 0, none⟩)), (19, .int .i64 m2_0), (156, .bool t416)] := hS498.re ⟨rfl, rfl, rfl, rfl, rfl, rfl, rfl, rfl, rfl, rfl, rfl, trivial⟩
                                      clear hK K
                                      try clear hS294 hS295 hS296 hS326 hS327 hS354 hS355 hS498
                                      obtain ⟨a, ha⟩ : ∃ a', a' = a498 := ⟨_, rfl⟩
                                      rw [← ha] at hS ⊢; clear ha
                                      refine c_cond hS rfl (fun hb499 => ?_) (fun hb499 => ?_)
                                      · replace H := ite_t hb499 H
                                        refine c_pure [(4, .bool false)] (fun R hR => st_val hS rfl rfl rfl (r_assign hS rfl rfl) fun a500 hS500 => wpList_nil (hR _ (hS500.re ⟨rfl, trivial⟩))) ?_
                                        clear hS
                                        clear a
                                        intro a hS
                                        refine wp_ret ?_
                                        have e := Option.some.inj H
                                        subst e
                                        replace H := Fl.go_out Hl285
                                        have e := Option.some.inj H
                                        subst e
                                        replace H := Fl.go_out Hl171
                                        have e := Option.some.inj H
                                        subst e
                                        replace H := Fl.go_out Hl159
                                        have e := Option.some.inj H
                                        subst e
                                        replace H := Fl.go_out Hl98
                                        have e := Option.some.inj H
                                        subst e
                                        replace H := Fl.go_out Hl68
                                        have e := Option.some.inj H
                                        subst e
                                        repeat (with_reducible first | refine then_ret ?_ | refine inBlock_ret ?_)
                                        exact c_ret1 hS Try.results6 rfl ⟨_, rfl, g418, rfl, hF⟩
                                      · replace H := ite_f hb499 H
                                        refine wp_skip ?_
                                        change Code.wp _ _ _ _ _
                                        refine c_pure1 [(1, .slice A1 p1.length cap1), (5, .slice A17 r15.length cap18), (6, .pointer (some ⟨b72, 0, none⟩)), (8, .slice A56 m1_0.length cap57), (9, .int .u64 r119.2), (11, .int .i64 m0_4), (15, .slice A135 r133.2.1.length cap136), (17, .int .i64 m1_2), (18, .pointer (some ⟨b178, 0, none⟩)), (19, .int .i64 (wi (m2_0 + 1)))] (fun R hR => st_val hS rfl rfl rfl (r_move hS rfl rfl) fun a501 hS501 => st_val hS501 rfl rfl rfl (r_bin hS501 rfl rfl rfl b_add) fun a502 hS502 => st_val hS502 rfl rfl rfl (r_assign hS502 rfl rfl) fun a503 hS503 => wpList_nil (hR _ (hS503.re ⟨rfl, rfl, rfl, rfl, rfl, rfl, rfl, rfl, rfl, rfl, trivial⟩))) ?_
                                        clear hS
                                        clear a
                                        intro a hS
                                        refine ⟨k288, Nat.lt_succ_self _, ?_⟩
                                        exact ⟨wi (m2_0 + 1), g418, H, hS.re ⟨rfl, rfl, rfl, rfl, rfl, rfl, rfl, rfl, rfl, rfl, trivial⟩, h137, h179, h19, h58, h73, h77, h81, h85, hp1, hF⟩
                                    · replace H := ite_f hb293 H
                                      refine wp_exit ?_
                                      have e := Option.some.inj H
                                      exact ⟨g287, e.symm, hS.re ⟨rfl, rfl, rfl, rfl, rfl, rfl, rfl, rfl, rfl, trivial⟩, h137, h179, h19, h58, h73, h77, h81, h85, hp1, hF⟩
                              · clear H
                                clear hp1 h19 h58 h77 h81 h85 h73 h137 h179 hF
                                clear hS
                                rintro a w282 ⟨g282, hpre0, hS, h137, h179, h19, h58, h73, h77, h81, h85, hp1, hF⟩
                                subst hpre0
                                have H := Fl.go_nxt Hl285
                                clear Hl285
                                obtain ⟨x504, hx505, H⟩ := bind_el H
                                refine c_draw1 (fun K hK => d_start (fun q => q = N + 9) g282 [] 10 #[false, false, false, false, false, false, false, false, false, false] (by kernel_rfl) rfl rfl (fun w506 hw506 => ?_))
                                have F506 : Fr (fun _ => False) w282 g282 w506 g282 := by rw [hw506]; exact Fr.drew _ _ _
                                replace h137 := OwS.fr h137 F506 (fun _ _ h => h)
                                replace h179 := h179.fr F506 (fun h => h)
                                replace h19 := OwS.fr h19 F506 (fun _ _ h => h)
                                replace h58 := OwS.fr h58 F506 (fun _ _ h => h)
                                replace h73 := h73.fr F506 (fun h => h)
                                replace h77 := OwS.fr h77 F506 (fun _ _ h => h)
                                replace h81 := OwS.fr h81 F506 (fun _ _ h => h)
                                replace h85 := OwS.fr h85 F506 (fun _ _ h => h)
                                replace hp1 := RdS.fr hp1 F506 (by decide) (fun _ _ h => h)
                                replace hF := hF.trans F506 (fun _ h => h.elim)
                                have hC : Fr (fun q => q = N + 9) w506 g282 w506 g282 := Fr.refl _ _ _
                                refine d_pure hS 0 #[true, false, false, false, false, false, false, false, false, false] rfl rfl rfl rfl (by kernel_rfl) (fun _ _ _ h => h) (fun _ => (r_move hS rfl rfl)) fun a507 hS507 => d_pure hS507 1 #[true, true, false, false, false, false, false, false, false, false] rfl rfl rfl rfl (by kernel_rfl) (fun _ _ _ h => h) (fun _ => (r_fieldB (off := 0) hS507 rfl rfl (by kernel_rfl))) fun a508 hS508 => d_take hS508 2 #[true, true, true, false, false, false, false, false, false, false] rfl rfl rfl rfl (by kernel_rfl) (fun _ _ _ h => h) ⟨_, hC⟩ (fun w' g' Fz => (r_load1 (n := 1) hS508 rfl rfl (by kernel_rfl) (Bx.cell (h179.fr Fz (fun (hm : N + 15 = N + 9) => by omega)) rfl))) fun a509 hS509 => d_pure hS509 3 #[true, true, true, true, false, false, false, false, false, false] rfl rfl rfl rfl (by kernel_rfl) (fun _ _ _ h => h) (fun _ => (r_fieldB (off := 1) hS509 rfl rfl (by kernel_rfl))) fun a510 hS510 => d_take hS510 4 #[true, true, true, true, true, false, false, false, false, false] rfl rfl rfl rfl (by kernel_rfl) (fun _ _ _ h => h) ⟨_, hC⟩ (fun w' g' Fz => (r_load1 (n := 1) hS510 rfl rfl (by kernel_rfl) (Bx.cell (h179.fr Fz (fun (hm : N + 15 = N + 9) => by omega)) rfl))) fun a511 hS511 => d_pure hS511 5 #[true, true, true, true, true, true, false, false, false, false] rfl rfl rfl rfl (by kernel_rfl) (fun _ _ _ h => h) (fun _ => (r_fieldB (off := 2) hS511 rfl rfl (by kernel_rfl))) fun a512 hS512 => d_take hS512 6 #[true, true, true, true, true, true, true, false, false, false] rfl rfl rfl rfl (by kernel_rfl) (fun _ _ _ h => h) ⟨_, hC⟩ (fun w' g' Fz => (r_load1 (n := 1) hS512 rfl rfl (by kernel_rfl) (Bx.cell (h179.fr Fz (fun (hm : N + 15 = N + 9) => by omega)) rfl))) fun a513 hS513 => d_pure hS513 7 #[true, true, true, true, true, true, true, true, false, false] rfl rfl rfl rfl (by kernel_rfl) (fun _ _ _ h => h) (fun _ => (r_index (e := 4) (sz := 1) (by_ := 1) hS513 rfl rfl rfl (by kernel_rfl) (RdS.some_ (OwS.rd h58) hx505) (idx_lo hx505) (idx_hi hx505))) fun a514 hS514 => ?_
                                refine d_one 8 #[true, true, true, true, true, true, true, true, true, false] rfl (by kernel_rfl) (arm_effS hS514 rfl rfl (e_storeE (n := 1) (bb := false) (kd := kbool) (j := 0) (x' := x174.Resume) (us := [.bool x174.Resume]) g282 hS514 rfl rfl rfl rfl (by kernel_rfl) rfl rfl (by intro v hv; simp only [List.mem_cons, List.not_mem_nil, or_false] at hv; rcases hv with rfl <;> rfl) h58 hx505 rfl (fun _ _ cs hR => by rw [show cs = _ from hR]; rfl)) (.inr (fun _ g' hR _ => ⟨g', hC.trans hR.2 (fun c' (hm : c' = N + 9) => by show c' = N + 9; omega)⟩)) ?_)
                                rintro a515 w516 g516 ⟨h58, F516⟩ hS515
                                have hC516 := hC.trans F516 (fun c' (hm : c' = N + 9) => by show c' = N + 9; omega)
                                replace h137 := OwS.fr h137 F516 (fun c' hc (hm : c' = N + 9) => by omega)
                                replace h179 := h179.fr F516 (fun (hm : N + 15 = N + 9) => by omega)
                                replace h19 := OwS.fr h19 F516 (fun c' hc (hm : c' = N + 9) => by omega)
                                replace h73 := h73.fr F516 (fun (hm : N + 2 = N + 9) => by omega)
                                replace h77 := OwS.fr h77 F516 (fun c' hc (hm : c' = N + 9) => by omega)
                                replace h81 := OwS.fr h81 F516 (fun c' hc (hm : c' = N + 9) => by omega)
                                replace h85 := OwS.fr h85 F516 (fun c' hc (hm : c' = N + 9) => by omega)
                                replace hp1 := RdS.fr hp1 F516 (by decide) (fun q (hq : C1 q) (hm : q = N + 9) => by have := hC1 q hq; omega)
                                replace hF := hF.trans F516 (fun c' (hm : c' = N + 9) => by show N ≤ c'; omega)
                                have hT : Sl 180 a515 [(1, .slice A1 p1.length cap1), (5, .slice A17 r15.length cap18), (6, .pointer (some ⟨b72, 0, none⟩)), (8, .slice A56 m1_0.length cap57), (9, .int .u64 r119.2), (11, .int .i64 m0_4), (15, .slice A135 r133.2.1.length cap136), (17, .int .i64 m1_2), (163, .int .u64 x174.At)] := hS515.re ⟨rfl, rfl, rfl, rfl, rfl, rfl, rfl, rfl, rfl, trivial⟩
                                replace hS515 : Sl 180 a515 [(1, .slice A1 p1.length cap1), (5, .slice A17 r15.length cap18), (6, .pointer (some ⟨b72, 0, none⟩)), (8, .slice A56 (upd m1_0 x174.Device x174.Resume).length cap57), (9, .int .u64 r119.2), (11, .int .i64 m0_4), (15, .slice A135 r133.2.1.length cap136), (17, .int .i64 m1_2), (163, .int .u64 x174.At)] := by simpa only [upd_length] using hT
                                clear hT
                                refine d_pure hS515 9 #[true, true, true, true, true, true, true, true, true, true] rfl rfl rfl rfl (by kernel_rfl) (fun _ _ _ h => h) (fun _ => (r_assign hS515 rfl rfl)) fun a517 hS517 => d_done (by kernel_rfl) (hK _ _ ?_)
                                replace hS : Sl 180 _ [(1, .slice A1 p1.length cap1), (5, .slice A17 r15.length cap18), (6, .pointer (some ⟨b72, 0, none⟩)), (8, .slice A56 (upd m1_0 x174.Device x174.Resume).length cap57), (9, .int .u64 r119.2), (10, .int .u64 x174.At), (11, .int .i64 m0_4), (15, .slice A135 r133.2.1.length cap136), (17, .int .i64 m1_2)] := hS517.re ⟨rfl, rfl, rfl, rfl, rfl, rfl, rfl, rfl, rfl, trivial⟩
                                clear hK K hC
                                try clear hS507 hS508 hS509 hS510 hS511 hS512 hS513 hS514 hS515 hS517
                                obtain ⟨a, ha⟩ : ∃ a', a' = a517 := ⟨_, rfl⟩
                                rw [← ha] at hS ⊢; clear ha
                                have e := Option.some.inj H
                                exact ⟨((upd m1_0 x174.Device x174.Resume), x174.At), g516, e.symm, hS.re ⟨rfl, rfl, rfl, rfl, rfl, rfl, rfl, rfl, rfl, trivial⟩, h137, h19, h58, h73, h77, h81, h85, hp1, hF⟩
                          · clear H
                            clear hp1 h19 h58 h77 h81 h85 h73 h137 hF
                            clear hS
                            rintro a w168 ⟨v169, g168, hpre0, hS, h137, h19, h58, h73, h77, h81, h85, hp1, hF⟩
                            subst hpre0
                            have H := Fl.go_nxt Hl171
                            clear Hl171
                            refine c_pure1 [(1, .slice A1 p1.length cap1), (5, .slice A17 r15.length cap18), (6, .pointer (some ⟨b72, 0, none⟩)), (8, .slice A56 v169.1.length cap57), (9, .int .u64 r119.2), (10, .int .u64 v169.2), (11, .int .i64 m0_4), (15, .slice A135 r133.2.1.length cap136), (17, .int .i64 (wi (m1_2 + 1)))] (fun R hR => st_val hS rfl rfl rfl (r_move hS rfl rfl) fun a518 hS518 => st_val hS518 rfl rfl rfl (r_bin hS518 rfl rfl rfl b_add) fun a519 hS519 => st_val hS519 rfl rfl rfl (r_assign hS519 rfl rfl) fun a520 hS520 => wpList_nil (hR _ (hS520.re ⟨rfl, rfl, rfl, rfl, rfl, rfl, rfl, rfl, rfl, trivial⟩))) ?_
                            clear hS
                            clear a
                            intro a hS
                            refine ⟨k162, Nat.lt_succ_self _, ?_⟩
                            exact ⟨v169.1, v169.2, wi (m1_2 + 1), g168, H, hS.re ⟨rfl, rfl, rfl, rfl, rfl, rfl, rfl, rfl, rfl, trivial⟩, h137, h19, h58, h73, h77, h81, h85, hp1, hF⟩
                        · replace H := ite_f hb167 H
                          refine wp_exit ?_
                          have e := Option.some.inj H
                          exact ⟨(m1_0, m1_1), g161, e.symm, hS.re ⟨rfl, rfl, rfl, rfl, rfl, rfl, rfl, trivial⟩, h19, h58, h73, h77, h81, h85, hp1, hF⟩
                  · clear H
                    clear hp1 h19 h58 h77 h81 h85 h73 h137 hF
                    clear hS
                    rintro a w156 ⟨v157, g156, hpre0, hS, h19, h58, h73, h77, h81, h85, hp1, hF⟩
                    subst hpre0
                    have H := Fl.go_nxt Hl159
                    clear Hl159
                    refine c_pure [(1, .slice A1 p1.length cap1), (5, .slice A17 r15.length cap18), (6, .pointer (some ⟨b72, 0, none⟩)), (8, .slice A56 v157.1.length cap57), (9, .int .u64 r119.2), (10, .int .u64 v157.2), (11, .int .i64 m0_4), (20, .int .i64 0)] (fun R hR => st_val hS rfl rfl rfl (r_assign hS rfl rfl) fun a521 hS521 => wpList_nil (hR _ (hS521.re ⟨rfl, rfl, rfl, rfl, rfl, rfl, rfl, rfl, trivial⟩))) ?_
                    clear hS
                    clear a
                    intro a hS
                    refine wp_block ?_
                    refine wp_loop_ghost (fun kq => fun a w522 => ∃ (m3_0 : Int), ∃ (g522 : Nat → Nat), law28_RuntimepmOperationsOrdered.l3 r15 r119 r133 v157 kq m3_0 = some o97 ∧ Sl 180 a [(1, .slice A1 p1.length cap1), (5, .slice A17 r15.length cap18), (6, .pointer (some ⟨b72, 0, none⟩)), (8, .slice A56 v157.1.length cap57), (9, .int .u64 r119.2), (10, .int .u64 v157.2), (11, .int .i64 m0_4), (20, .int .i64 m3_0)] ∧ OwS kd_api_IdleDevice 30 w522 g522 (N + 0) A17 cap18 r15 ∧ OwS kbool 4 w522 g522 (N + 9) A56 cap57 v157.1 ∧ Bx w522 g522 (N + 2) b72 85 [.slice A75 r133.1.devices.length cap76, .slice A79 r133.1.links.length cap80, .slice A83 r133.1.order.length cap84, .int .u64 r133.1.now] ∧ OwS kd_runtimepm_device 88 w522 g522 (N + 2 + 1) A75 cap76 r133.1.devices ∧ OwS kd_api_Link 67 w522 g522 (N + 2 + 3) A79 cap80 r133.1.links ∧ OwS (kint .i64) 3 w522 g522 (N + 2 + 5) A83 cap84 r133.1.order ∧ RdS kd_law28_Call w522 g522 C1 A1 cap1 p1 ∧ Fr (fun q => N ≤ q) w g w522 g522) FUEL ?_ ?_
                    · exact ⟨0, g156, H, hS.re ⟨rfl, rfl, rfl, rfl, rfl, rfl, rfl, rfl, trivial⟩, h19, h58, h73, h77, h81, h85, hp1, hF⟩
                    · clear H
                      clear hp1 h19 h58 h77 h81 h85 h73 hF
                      clear hS
                      rintro k523 a w522 ⟨m3_0, g522, hpre0, hS, h19, h58, h73, h77, h81, h85, hp1, hF⟩
                      have H := hpre0
                      clear hpre0
                      cases k523 with
                      | zero => exact absurd H (by simp [law28_RuntimepmOperationsOrdered.l3])
                      | succ k523 =>
                        rw [law28_RuntimepmOperationsOrdered.l3] at H
                        refine wp_seq ?_
                        refine c_pure [(1, .slice A1 p1.length cap1), (5, .slice A17 r15.length cap18), (6, .pointer (some ⟨b72, 0, none⟩)), (8, .slice A56 v157.1.length cap57), (9, .int .u64 r119.2), (10, .int .u64 v157.2), (11, .int .i64 m0_4), (20, .int .i64 m3_0), (168, .bool (decide (m3_0 < (r15.length : Int))))] (fun R hR => st_val hS rfl rfl rfl (r_move hS rfl rfl) fun a524 hS524 => st_val hS524 rfl rfl rfl (r_move hS524 rfl rfl) fun a525 hS525 => st_val hS525 rfl rfl rfl (r_len (e := 30) (sz := 3) (by_ := 40) hS525 rfl rfl (by kernel_rfl)) fun a526 hS526 => st_val hS526 rfl rfl rfl (r_bin hS526 rfl rfl rfl b_lss) fun a527 hS527 => wpList_nil (hR _ (hS527.re ⟨rfl, rfl, rfl, rfl, rfl, rfl, rfl, rfl, rfl, trivial⟩))) ?_
                        clear hS
                        clear a
                        intro a hS
                        refine c_cond hS rfl (fun hb528 => ?_) (fun hb528 => ?_)
                        · replace H := ite_t hb528 H
                          refine wp_skip ?_
                          change Code.wp _ _ _ _ _
                          refine wp_seq ?_
                          refine wp_block ?_
                          obtain ⟨r529, hr530, H⟩ := bind_el H
                          obtain ⟨x531, hx532, H⟩ := bind_el H
                          refine c_draw (fun K hK => d_start (fun q => N + 17 ≤ q) g522 [] 8 #[false, false, false, false, false, false, false, false] (by kernel_rfl) rfl rfl (fun w533 hw533 => ?_))
                          have F533 : Fr (fun _ => False) w522 g522 w533 g522 := by rw [hw533]; exact Fr.drew _ _ _
                          replace h19 := OwS.fr h19 F533 (fun _ _ h => h)
                          replace h58 := OwS.fr h58 F533 (fun _ _ h => h)
                          replace h73 := h73.fr F533 (fun h => h)
                          replace h77 := OwS.fr h77 F533 (fun _ _ h => h)
                          replace h81 := OwS.fr h81 F533 (fun _ _ h => h)
                          replace h85 := OwS.fr h85 F533 (fun _ _ h => h)
                          replace hp1 := RdS.fr hp1 F533 (by decide) (fun _ _ h => h)
                          replace hF := hF.trans F533 (fun _ h => h.elim)
                          have hC : Fr (fun q => N + 17 ≤ q) w533 g522 w533 g522 := Fr.refl _ _ _
                          refine d_pure hS 0 #[true, false, false, false, false, false, false, false] rfl rfl rfl rfl (by kernel_rfl) (fun _ _ _ h => h) (fun _ => (r_move hS rfl rfl)) fun a534 hS534 => d_pure hS534 1 #[true, true, false, false, false, false, false, false] rfl rfl rfl rfl (by kernel_rfl) (fun _ _ _ h => h) (fun _ => (r_move hS534 rfl rfl)) fun a535 hS535 => d_pure hS535 3 #[true, true, false, true, false, false, false, false] rfl rfl rfl rfl (by kernel_rfl) (fun _ _ _ h => h) (fun _ => (r_move hS535 rfl rfl)) fun a536 hS536 => d_pure hS536 4 #[true, true, false, true, true, false, false, false] rfl rfl rfl rfl (by kernel_rfl) (fun _ _ _ h => h) (fun _ => (r_move hS536 rfl rfl)) fun a537 hS537 => d_pure hS537 5 #[true, true, false, true, true, true, false, false] rfl rfl rfl rfl (by kernel_rfl) (fun _ _ _ h => h) (fun _ => (r_index (e := 4) (sz := 1) (by_ := 1) hS537 rfl rfl rfl (by kernel_rfl) (RdS.some_ (OwS.rd h58) hx532) (idx_lo hx532) (idx_hi hx532))) fun a538 hS538 => d_take hS538 6 #[true, true, false, true, true, true, true, false] rfl rfl rfl rfl (by kernel_rfl) (fun _ _ _ h => h) ⟨_, hC⟩ (fun w' g' Fz => (r_load1 (n := 1) hS538 rfl rfl (by kernel_rfl) (RdS.cell (i := m3_0) (sz := 1) (j := 0) (OwS.rd (OwS.fr h58 Fz (fun c' hc (hm : N + 17 ≤ c') => by omega))) hx532 rfl))) fun a539 hS539 => ?_
                          refine d_one 2 #[true, true, true, true, true, true, true, false] rfl (by kernel_rfl) (arm_call hS539 rfl rfl rfl (r_call hS539 rfl rfl (by kernel_rfl)) (runtimepm_Manager_Active.calls (c0 := N + 2) (b_p0 := b72) (A_devices_p0 := A75) (cap_devices_p0 := cap76) (A_links_p0 := A79) (cap_links_p0 := cap80) (A_order_p0 := A83) (cap_order_p0 := cap84) (p0 := r133.1) (p1 := m3_0) (g := g522) (N + 17)  ⟨h73, h77, h81, h85⟩ (by omega) hr530) (fun _ _ ⟨g', _, Fz⟩ _ => ⟨g', hC.trans Fz (fun c' (hm : N + 17 ≤ c') => by show N + 17 ≤ c'; omega)⟩) ?_)
                          rintro _ a540 w541 ⟨g541, rfl, F541⟩ hS540
                          have hC541 := hC.trans F541 (fun c' (hm : N + 17 ≤ c') => by show N + 17 ≤ c'; omega)
                          replace h19 := OwS.fr h19 F541 (fun c' hc (hm : N + 17 ≤ c') => by omega)
                          replace h58 := OwS.fr h58 F541 (fun c' hc (hm : N + 17 ≤ c') => by omega)
                          replace h73 := h73.fr F541 (fun (hm : N + 17 ≤ N + 2) => by omega)
                          replace h77 := OwS.fr h77 F541 (fun c' hc (hm : N + 17 ≤ c') => by omega)
                          replace h81 := OwS.fr h81 F541 (fun c' hc (hm : N + 17 ≤ c') => by omega)
                          replace h85 := OwS.fr h85 F541 (fun c' hc (hm : N + 17 ≤ c') => by omega)
                          replace hp1 := RdS.fr hp1 F541 (by decide) (fun q (hq : C1 q) (hm : N + 17 ≤ q) => by have := hC1 q hq; omega)
                          replace hF := hF.trans F541 (fun c' (hm : N + 17 ≤ c') => by show N ≤ c'; omega)
                          refine d_pure hS540 7 #[true, true, true, true, true, true, true, true] rfl rfl rfl rfl (by kernel_rfl) (fun _ _ _ h => h) (fun _ => (r_binB hS540 rfl rfl rfl (b_neqB (by kernel_rfl)))) fun a542 hS542 => d_done (by kernel_rfl) (hK _ _ ?_)
                          replace hS : Sl 180 _ [(1, .slice A1 p1.length cap1), (5, .slice A17 r15.length cap18), (6, .pointer (some ⟨b72, 0, none⟩)), (8, .slice A56 v157.1.length cap57), (9, .int .u64 r119.2), (10, .int .u64 v157.2), (11, .int .i64 m0_4), (20, .int .i64 m3_0), (178, .bool (!(r529 == x531)))] := hS542.re ⟨rfl, rfl, rfl, rfl, rfl, rfl, rfl, rfl, rfl, trivial⟩
                          clear hK K hC
                          try clear hS534 hS535 hS536 hS537 hS538 hS539 hS540 hS542
                          obtain ⟨a, ha⟩ : ∃ a', a' = a542 := ⟨_, rfl⟩
                          rw [← ha] at hS ⊢; clear ha
                          refine c_cond hS rfl (fun hb543 => ?_) (fun hb543 => ?_)
                          · replace H := ite_t hb543 H
                            refine c_pure [(4, .bool false)] (fun R hR => st_val hS rfl rfl rfl (r_assign hS rfl rfl) fun a544 hS544 => wpList_nil (hR _ (hS544.re ⟨rfl, trivial⟩))) ?_
                            clear hS
                            clear a
                            intro a hS
                            refine wp_ret ?_
                            have e := Option.some.inj H
                            subst e
                            replace H := Fl.go_out Hl98
                            have e := Option.some.inj H
                            subst e
                            replace H := Fl.go_out Hl68
                            have e := Option.some.inj H
                            subst e
                            repeat (with_reducible first | refine then_ret ?_ | refine inBlock_ret ?_)
                            exact c_ret1 hS Try.results6 rfl ⟨_, rfl, g541, rfl, hF⟩
                          · replace H := ite_f hb543 H
                            refine wp_skip ?_
                            change Code.wp _ _ _ _ _
                            refine c_pure1 [(1, .slice A1 p1.length cap1), (5, .slice A17 r15.length cap18), (6, .pointer (some ⟨b72, 0, none⟩)), (8, .slice A56 v157.1.length cap57), (9, .int .u64 r119.2), (10, .int .u64 v157.2), (11, .int .i64 m0_4), (20, .int .i64 (wi (m3_0 + 1)))] (fun R hR => st_val hS rfl rfl rfl (r_move hS rfl rfl) fun a545 hS545 => st_val hS545 rfl rfl rfl (r_bin hS545 rfl rfl rfl b_add) fun a546 hS546 => st_val hS546 rfl rfl rfl (r_assign hS546 rfl rfl) fun a547 hS547 => wpList_nil (hR _ (hS547.re ⟨rfl, rfl, rfl, rfl, rfl, rfl, rfl, rfl, trivial⟩))) ?_
                            clear hS
                            clear a
                            intro a hS
                            refine ⟨k523, Nat.lt_succ_self _, ?_⟩
                            exact ⟨wi (m3_0 + 1), g541, H, hS.re ⟨rfl, rfl, rfl, rfl, rfl, rfl, rfl, rfl, trivial⟩, h19, h58, h73, h77, h81, h85, hp1, hF⟩
                        · replace H := ite_f hb528 H
                          refine wp_exit ?_
                          have e := Option.some.inj H
                          exact ⟨(r133.1, v157.1, r119.2, v157.2), g522, e.symm, hS.re ⟨rfl, rfl, rfl, rfl, rfl, rfl, rfl, trivial⟩, h19, h58, h73, h77, h81, h85, hp1, hF⟩
              · clear H
                clear hp1 h19 h58 h77 h81 h85 h73 hF
                clear hS
                rintro a w95 ⟨v96, g95, hpre0, hS, h19, h58, h73, h77, h81, h85, hp1, hF⟩
                subst hpre0
                have H := Fl.go_nxt Hl98
                clear Hl98
                refine c_pure1 [(1, .slice A1 p1.length cap1), (5, .slice A17 r15.length cap18), (6, .pointer (some ⟨b72, 0, none⟩)), (8, .slice A56 v96.2.1.length cap57), (9, .int .u64 v96.2.2.1), (10, .int .u64 v96.2.2.2), (11, .int .i64 (wi (m0_4 + 1)))] (fun R hR => st_val hS rfl rfl rfl (r_move hS rfl rfl) fun a548 hS548 => st_val hS548 rfl rfl rfl (r_bin hS548 rfl rfl rfl b_add) fun a549 hS549 => st_val hS549 rfl rfl rfl (r_assign hS549 rfl rfl) fun a550 hS550 => wpList_nil (hR _ (hS550.re ⟨rfl, rfl, rfl, rfl, rfl, rfl, rfl, trivial⟩))) ?_
                clear hS
                clear a
                intro a hS
                refine ⟨k89, Nat.lt_succ_self _, ?_⟩
                exact ⟨v96.1, v96.2.1, v96.2.2.1, v96.2.2.2, wi (m0_4 + 1), g95, H, hS.re ⟨rfl, rfl, rfl, rfl, rfl, rfl, rfl, trivial⟩, h19, h58, h73, h77, h81, h85, hp1, hF⟩
            · replace H := ite_f hb94 H
              refine wp_exit ?_
              have e := Option.some.inj H
              exact ⟨g88, e.symm, hS.re trivial, hF⟩
      · clear H
        clear hp1 h19 h28 h58 hF
        clear hS
        rintro a w65 ⟨g65, hpre0, hS, hF⟩
        subst hpre0
        have H := Fl.go_nxt Hl68
        clear Hl68
        obtain ⟨r551, hr552, H⟩ := bind_el H
        refine c_region (fun K hK => ?_)
        refine st_enter hS rfl rfl rfl (r_call hS rfl rfl (by kernel_rfl)) (law28_awake.calls (g := g65) (N + 17)   hr552) ?_
        rintro _ a553 w554 ⟨g554, rfl, F554⟩ hS553
        replace hF := hF.trans F554 (fun c' (hm : N + 17 ≤ c') => by show N ≤ c'; omega)
        refine st_val hS553 rfl rfl rfl (r_assign hS553 rfl rfl) fun a555 hS555 => wpList_nil (hK _ _ ?_)
        replace hS : Sl 180 _ [(4, .bool r551)] := hS555.re ⟨rfl, trivial⟩
        clear hK K
        try clear hS553 hS555
        obtain ⟨a, ha⟩ : ∃ a', a' = a555 := ⟨_, rfl⟩
        rw [← ha] at hS ⊢; clear ha
        refine wp_ret ?_
        have e := Option.some.inj H
        subst e
        repeat (with_reducible first | refine then_ret ?_ | refine inBlock_ret ?_)
        exact c_ret1 hS Try.results6 rfl ⟨_, rfl, g554, rfl, hF⟩

/-- What is left of law28_RuntimepmOperationsOrdered: about plain values alone. -/
def law28_RuntimepmOperationsOrdered.Pure : Prop := ∀ (p0 : List api_IdleDevice) (p1 : List law28_Call), (p0.length ≤ maxLen ∧ ∀ p0' ∈ p0, Wf_api_IdleDevice p0') → (p1.length ≤ maxLen ∧ ∀ p1' ∈ p1, Wf_law28_Call p1') → law28_RuntimepmOperationsOrdered.f p0 p1 = some true

end Go.Proofs.Ytcfcffbjdjacfaa.Sim
