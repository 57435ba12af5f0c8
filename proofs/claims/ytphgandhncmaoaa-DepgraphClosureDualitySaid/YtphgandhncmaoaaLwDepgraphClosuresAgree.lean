/-
  Printed by a program of this session (wip/tools): plain functions with the same answers as the Go functions, and the proofs of it.
-/
import Derived.Test.YtphgandhncmaoaaFn
import Derived.Test.YtphgandhncmaoaaOp
namespace Go.Proofs.Ytphgandhncmaoaa.Sim
open Go
set_option linter.unusedVariables false
set_option linter.unusedSimpArgs false

/-! ### law24_DepgraphClosuresAgree: function 10 -/
def law24_DepgraphClosuresAgree.l0 (p2 : List Int) (r27 : Int × (List api_Link)) : Nat → (List Int) → Int → Option ((List Int))
  | 0, _, _ => none
  | k53 + 1, m0_0, m0_1 => if ((decide (m0_1 < (p2.length : Int))) && (decide (0 < r27.1))) = true then ((idx p2 m0_1).bind fun x73 => (help_Mod.f x73 r27.1).bind fun r78 => (app m0_0 [r78]).bind fun y87 => law24_DepgraphClosuresAgree.l0 p2 r27 k53 y87 (wi (m0_1 + 1))) else (some m0_0)
def law24_DepgraphClosuresAgree.f (p0 : Int) (p1 : List api_Link) (p2 : List Int) : Option (Bool) := if ((decide (40 < (p1.length : Int))) || (decide (20 < (p2.length : Int)))) = true then ((law24_awake.f ).bind fun r20 => some r20) else ((law24_Graph.f p0 p1 false).bind fun r27 => (law24_DepgraphClosuresAgree.l0 p2 r27 FUEL [] 0 : Option ((List Int))).bind fun v45 => (depgraph_Suppliers.f r27.1 r27.2 v45).bind fun r102 => (ref24_Suppliers.f r27.1 r27.2 v45).bind fun r118 => (depgraph_Consumers.f r27.1 r27.2 v45).bind fun r134 => (ref24_Consumers.f r27.1 r27.2 v45).bind fun r150 => (if ((r102.2 != r118.2) || (r134.2 != r150.2)) = true then some true else (help_Equal_int.f r102.1 r118.1).bind fun r184 => some (!r184)).bind fun t189 => (if t189 = true then some true else (help_Equal_int.f r134.1 r150.1).bind fun r212 => some (!r212)).bind fun t217 => if t217 = true then (some false) else ((depgraph_Suppliers.f r27.1 r27.2 p2).bind fun r241 => (ref24_Suppliers.f r27.1 r27.2 p2).bind fun r257 => (depgraph_Consumers.f p0 p1 p2).bind fun r273 => (ref24_Consumers.f p0 p1 p2).bind fun r289 => (if ((r241.2 == r257.2) && (r273.2 == r289.2)) = true then (help_Equal_int.f r241.1 r257.1).bind fun r323 => some r323 else some false).bind fun t327 => (if t327 = true then (help_Equal_int.f r273.1 r289.1).bind fun r348 => some r348 else some false).bind fun t352 => (if t352 = true then (law24_awake.f ).bind fun r371 => some r371 else some false).bind fun t375 => some t375))
set_option maxRecDepth 100000 in
set_option maxHeartbeats 4000000 in
theorem law24_DepgraphClosuresAgree.calls {p0 : Int} {p1 : List api_Link} {A1 : Option Addr} {cap1 : Nat} {C1 : Nat → Prop} {p2 : List Int} {A2 : Option Addr} {cap2 : Nat} {C2 : Nat → Prop} {w : World} {g : Nat → Nat} {out : Bool} (N : Nat) (hp1 : RdS kd_api_Link w g C1 A1 cap1 p1) (hC1 : ∀ c, C1 c → c < N) (hp2 : RdS (kint .i64) w g C2 A2 cap2 p2) (hC2 : ∀ c, C2 c → c < N) (H : law24_DepgraphClosuresAgree.f p0 p1 p2 = some out) :
    Calls Try.prog 10 #[.int .i64 p0, .slice A1 p1.length cap1, .slice A2 p2.length cap2] w (fun e w' => ∃ v, e = .returned v ∧ ∃ (g' : Nat → Nat), v = .bool out ∧ Fr (fun q => N ≤ q) w g w' g') := by
  unfold law24_DepgraphClosuresAgree.f at H
  refine calls_enter Try.func10 rfl Try.ntmps10 rfl (fun a hS => ?_)
  replace hS : Sl 150 a [(0, .int .i64 p0), (1, .slice A1 p1.length cap1), (2, .slice A2 p2.length cap2)] := hS
  have hF : Fr (fun q => N ≤ q) w g w g := Fr.refl _ _ _
  refine c_pure [(0, .int .i64 p0), (1, .slice A1 p1.length cap1), (2, .slice A2 p2.length cap2)] (fun R hR => st_val hS rfl rfl rfl (r_assign hS rfl rfl) fun a1 hS1 => wpList_nil (hR _ (hS1.re ⟨rfl, rfl, rfl, trivial⟩))) ?_
  clear hS
  clear a
  intro a hS
  refine wp_seq ?_
  refine c_region (fun K hK => ?_)
  refine st_val hS rfl rfl rfl (r_move hS rfl rfl) fun a2 hS2 => st_val hS2 rfl rfl rfl (r_len (e := 34) (sz := 2) (by_ := 16) hS2 rfl rfl (by kernel_rfl)) fun a3 hS3 => st_val hS3 rfl rfl rfl (r_bin hS3 rfl rfl rfl b_gtr) fun a4 hS4 => st_val hS4 rfl rfl rfl (r_move hS4 rfl rfl) fun a5 hS5 => ?_
  refine g_join (N := 150) 4 [(0, .int .i64 p0), (1, .slice A1 p1.length cap1), (2, .slice A2 p2.length cap2), (26, .bool ((decide (40 < (p1.length : Int))) || (decide (20 < (p2.length : Int)))))] ?_ (fun hk => ?_)
  rotate_left
  · rcases Bool.eq_false_or_eq_true (decide (40 < (p1.length : Int))) with hb6 | hb6
    · refine st_off hS5 (want_off hS5 rfl rfl rfl hb6) rfl rfl fun a10 hS10 => st_off hS10 (want_off hS10 rfl rfl rfl hb6) rfl rfl fun a11 hS11 => st_off hS11 (want_off hS11 rfl rfl rfl hb6) rfl rfl fun a12 hS12 => st_val hS12 rfl rfl rfl (r_pickT hS12 rfl rfl rfl hb6) fun a13 hS13 => hk _ (hS13.re ⟨rfl, rfl, rfl, (by rw [hb6]; rfl), trivial⟩)
    · refine st_valW hS5 (want_on hS5 rfl rfl rfl hb6) rfl rfl (r_move hS5 rfl rfl) fun a14 hS14 => st_valW hS14 (want_on hS14 rfl rfl rfl hb6) rfl rfl (r_len (e := 3) (sz := 1) (by_ := 8) hS14 rfl rfl (by kernel_rfl)) fun a15 hS15 => st_valW hS15 (want_on hS15 rfl rfl rfl hb6) rfl rfl (r_bin hS15 rfl rfl rfl b_gtr) fun a16 hS16 => st_val hS16 rfl rfl rfl (r_pickF hS16 rfl rfl rfl hb6) fun a17 hS17 => hk _ (hS17.re ⟨rfl, rfl, rfl, (by rw [hb6]; rfl), trivial⟩)
  intro a18 hS18
  refine wpList_nil (hK _ _ ?_)
  replace hS : Sl 150 _ [(0, .int .i64 p0), (1, .slice A1 p1.length cap1), (2, .slice A2 p2.length cap2), (26, .bool ((decide (40 < (p1.length : Int))) || (decide (20 < (p2.length : Int)))))] := hS18.re ⟨rfl, rfl, rfl, rfl, trivial⟩
  clear hK K
  try clear hS2 hS3 hS4 hS5 hS18
  obtain ⟨a, ha⟩ : ∃ a', a' = a18 := ⟨_, rfl⟩
  rw [← ha] at hS ⊢; clear ha
  refine c_cond hS rfl (fun hb19 => ?_) (fun hb19 => ?_)
  · replace H := ite_t hb19 H
    obtain ⟨r20, hr21, H⟩ := bind_el H
    refine c_region (fun K hK => ?_)
    refine st_enter hS rfl rfl rfl (r_call hS rfl rfl (by kernel_rfl)) (law24_awake.calls (g := g) (N + 22)   hr21) ?_
    rintro _ a22 w23 ⟨g23, rfl, F23⟩ hS22
    replace hp1 := RdS.fr hp1 F23 (by decide) (fun q (hq : C1 q) (hm : N + 22 ≤ q) => by have := hC1 q hq; omega)
    replace hp2 := RdS.fr hp2 F23 (by decide) (fun q (hq : C2 q) (hm : N + 22 ≤ q) => by have := hC2 q hq; omega)
    replace hF := hF.trans F23 (fun c' (hm : N + 22 ≤ c') => by show N ≤ c'; omega)
    refine st_val hS22 rfl rfl rfl (r_assign hS22 rfl rfl) fun a24 hS24 => wpList_nil (hK _ _ ?_)
    replace hS : Sl 150 _ [(6, .bool r20)] := hS24.re ⟨rfl, trivial⟩
    clear hK K
    try clear hS22 hS24
    obtain ⟨a, ha⟩ : ∃ a', a' = a24 := ⟨_, rfl⟩
    rw [← ha] at hS ⊢; clear ha
    refine wp_ret ?_
    have e := Option.some.inj H
    subst e
    repeat (with_reducible first | refine then_ret ?_ | refine inBlock_ret ?_)
    exact c_ret1 hS Try.results10 rfl ⟨_, rfl, g23, rfl, hF⟩
  · replace H := ite_f hb19 H
    refine wp_skip ?_
    change Code.wp _ _ _ _ _
    obtain ⟨r27, hr28, H⟩ := bind_el H
    refine c_region (fun K hK => ?_)
    refine st_val hS rfl rfl rfl (r_move hS rfl rfl) fun a25 hS25 => st_val hS25 rfl rfl rfl (r_move hS25 rfl rfl) fun a26 hS26 => ?_
    refine st_enter hS26 rfl rfl rfl (r_call hS26 rfl rfl (by kernel_rfl)) (law24_Graph.calls (C1 := C1) (p0 := p0) (p1 := p1) (p2 := false) (g := g) (N + 22) (N + 0) hp1 (fun q (hq : C1 q) => by have := hC1 q hq; omega) (by omega) hr28) ?_
    rintro _ a33 w34 ⟨g34, A29, cap30, rfl, h31, F34⟩ hS33
    replace hp1 := RdS.fr hp1 F34 (by decide) (fun q (hq : C1 q) (hm : (N + 0 ≤ q ∧ q < N + 0 + 2) ∨ N + 22 ≤ q) => by have := hC1 q hq; omega)
    replace hp2 := RdS.fr hp2 F34 (by decide) (fun q (hq : C2 q) (hm : (N + 0 ≤ q ∧ q < N + 0 + 2) ∨ N + 22 ≤ q) => by have := hC2 q hq; omega)
    replace hF := hF.trans F34 (fun c' (hm : (N + 0 ≤ c' ∧ c' < N + 0 + 2) ∨ N + 22 ≤ c') => by show N ≤ c'; omega)
    refine st_val hS33 rfl rfl rfl (r_move hS33 rfl rfl) fun a35 hS35 => st_val hS35 rfl rfl rfl (r_extract hS35 rfl rfl rfl) fun a36 hS36 => st_val hS36 rfl rfl rfl (r_extract hS36 rfl rfl rfl) fun a37 hS37 => st_val hS37 rfl rfl rfl (r_assign hS37 rfl rfl) fun a38 hS38 => st_val hS38 rfl rfl rfl (r_assign hS38 rfl rfl) fun a39 hS39 => wpList_nil (hK _ _ ?_)
    replace hS : Sl 150 _ [(0, .int .i64 p0), (1, .slice A1 p1.length cap1), (2, .slice A2 p2.length cap2), (7, .int .i64 r27.1), (8, .slice A29 r27.2.length cap30)] := hS39.re ⟨rfl, rfl, rfl, rfl, rfl, trivial⟩
    clear hK K
    try clear hS25 hS26 hS33 hS35 hS36 hS37 hS38 hS39
    obtain ⟨a, ha⟩ : ∃ a', a' = a39 := ⟨_, rfl⟩
    rw [← ha] at hS ⊢; clear ha
    refine c_pure [(0, .int .i64 p0), (1, .slice A1 p1.length cap1), (2, .slice A2 p2.length cap2), (7, .int .i64 r27.1), (8, .slice A29 r27.2.length cap30), (9, .slice none 0 0)] (fun R hR => st_val hS rfl rfl rfl (r_assign hS rfl rfl) fun a40 hS40 => wpList_nil (hR _ (hS40.re ⟨rfl, rfl, rfl, rfl, rfl, rfl, trivial⟩))) ?_
    clear hS
    clear a
    intro a hS
    obtain ⟨v45, H, Hl47⟩ := bind_el H
    refine c_cut (fun a w41 => ∃ (g41 : Nat → Nat), ∃ (A42 : Option Addr), ∃ (cap43 : Nat), Sl 150 a [(0, .int .i64 p0), (1, .slice A1 p1.length cap1), (2, .slice A2 p2.length cap2), (7, .int .i64 r27.1), (8, .slice A29 r27.2.length cap30), (9, .slice A42 v45.length cap43)] ∧ OwS kd_api_Link 34 w41 g41 (N + 0) A29 cap30 r27.2 ∧ OwS (kint .i64) 3 w41 g41 (N + 4) A42 cap43 v45 ∧ RdS kd_api_Link w41 g41 C1 A1 cap1 p1 ∧ RdS (kint .i64) w41 g41 C2 A2 cap2 p2 ∧ Fr (fun q => N ≤ q) w g w41 g41) ?_ ?_
    · refine c_pure [(0, .int .i64 p0), (1, .slice A1 p1.length cap1), (2, .slice A2 p2.length cap2), (7, .int .i64 r27.1), (8, .slice A29 r27.2.length cap30), (9, .slice none 0 0), (10, .int .i64 0)] (fun R hR => st_val hS rfl rfl rfl (r_assign hS rfl rfl) fun a48 hS48 => wpList_nil (hR _ (hS48.re ⟨rfl, rfl, rfl, rfl, rfl, rfl, rfl, trivial⟩))) ?_
      clear hS
      clear a
      intro a hS
      refine wp_block ?_
      refine wp_loop_ghost (fun kq => fun a w49 => ∃ (m0_0 : List Int), ∃ (m0_1 : Int), ∃ (g49 : Nat → Nat), ∃ (A50 : Option Addr), ∃ (cap51 : Nat), law24_DepgraphClosuresAgree.l0 p2 r27 kq m0_0 m0_1 = some v45 ∧ Sl 150 a [(0, .int .i64 p0), (1, .slice A1 p1.length cap1), (2, .slice A2 p2.length cap2), (7, .int .i64 r27.1), (8, .slice A29 r27.2.length cap30), (9, .slice A50 m0_0.length cap51), (10, .int .i64 m0_1)] ∧ OwS kd_api_Link 34 w49 g49 (N + 0) A29 cap30 r27.2 ∧ OwS (kint .i64) 3 w49 g49 (N + 4) A50 cap51 m0_0 ∧ RdS kd_api_Link w49 g49 C1 A1 cap1 p1 ∧ RdS (kint .i64) w49 g49 C2 A2 cap2 p2 ∧ Fr (fun q => N ≤ q) w g w49 g49) FUEL ?_ ?_
      · exact ⟨[], 0, g34, none, 0, H, hS.re ⟨rfl, rfl, rfl, rfl, rfl, rfl, rfl, trivial⟩, h31, OwS.nil (kint .i64) 3 w34 g34 (N + 4), hp1, hp2, hF⟩
      · clear H
        clear hp1 hp2 h31 hF
        clear hS
        rintro k53 a w49 ⟨m0_0, m0_1, g49, A50, cap51, hpre0, hS, h31, h52, hp1, hp2, hF⟩
        have H := hpre0
        clear hpre0
        cases k53 with
        | zero => exact absurd H (by simp [law24_DepgraphClosuresAgree.l0])
        | succ k53 =>
          rw [law24_DepgraphClosuresAgree.l0] at H
          refine wp_seq ?_
          refine c_region (fun K hK => ?_)
          refine st_val hS rfl rfl rfl (r_move hS rfl rfl) fun a54 hS54 => st_val hS54 rfl rfl rfl (r_move hS54 rfl rfl) fun a55 hS55 => st_val hS55 rfl rfl rfl (r_len (e := 3) (sz := 1) (by_ := 8) hS55 rfl rfl (by kernel_rfl)) fun a56 hS56 => st_val hS56 rfl rfl rfl (r_bin hS56 rfl rfl rfl b_lss) fun a57 hS57 => st_val hS57 rfl rfl rfl (r_move hS57 rfl rfl) fun a58 hS58 => ?_
          refine g_join (N := 150) 3 [(0, .int .i64 p0), (1, .slice A1 p1.length cap1), (2, .slice A2 p2.length cap2), (7, .int .i64 r27.1), (8, .slice A29 r27.2.length cap30), (9, .slice A50 m0_0.length cap51), (10, .int .i64 m0_1), (41, .bool ((decide (m0_1 < (p2.length : Int))) && (decide (0 < r27.1))))] ?_ (fun hk => ?_)
          rotate_left
          · rcases Bool.eq_false_or_eq_true (decide (m0_1 < (p2.length : Int))) with hb59 | hb59
            · refine st_valW hS58 (want_on hS58 rfl rfl rfl hb59) rfl rfl (r_move hS58 rfl rfl) fun a62 hS62 => st_valW hS62 (want_on hS62 rfl rfl rfl hb59) rfl rfl (r_bin hS62 rfl rfl rfl b_gtr) fun a63 hS63 => st_val hS63 rfl rfl rfl (r_pickT hS63 rfl rfl rfl hb59) fun a64 hS64 => hk _ (hS64.re ⟨rfl, rfl, rfl, rfl, rfl, rfl, rfl, (by rw [hb59]; rfl), trivial⟩)
            · refine st_off hS58 (want_off hS58 rfl rfl rfl hb59) rfl rfl fun a65 hS65 => st_off hS65 (want_off hS65 rfl rfl rfl hb59) rfl rfl fun a66 hS66 => st_val hS66 rfl rfl rfl (r_pickF hS66 rfl rfl rfl hb59) fun a67 hS67 => hk _ (hS67.re ⟨rfl, rfl, rfl, rfl, rfl, rfl, rfl, (by rw [hb59]; rfl), trivial⟩)
          intro a68 hS68
          refine wpList_nil (hK _ _ ?_)
          replace hS : Sl 150 _ [(0, .int .i64 p0), (1, .slice A1 p1.length cap1), (2, .slice A2 p2.length cap2), (7, .int .i64 r27.1), (8, .slice A29 r27.2.length cap30), (9, .slice A50 m0_0.length cap51), (10, .int .i64 m0_1), (41, .bool ((decide (m0_1 < (p2.length : Int))) && (decide (0 < r27.1))))] := hS68.re ⟨rfl, rfl, rfl, rfl, rfl, rfl, rfl, rfl, trivial⟩
          clear hK K
          try clear hS54 hS55 hS56 hS57 hS58 hS68
          obtain ⟨a, ha⟩ : ∃ a', a' = a68 := ⟨_, rfl⟩
          rw [← ha] at hS ⊢; clear ha
          refine c_cond hS rfl (fun hb69 => ?_) (fun hb69 => ?_)
          · replace H := ite_t hb69 H
            refine wp_skip ?_
            change Code.wp _ _ _ _ _
            refine wp_seq ?_
            refine wp_block ?_
            obtain ⟨x73, hx74, H⟩ := bind_el H
            obtain ⟨r78, hr79, H⟩ := bind_el H
            obtain ⟨y87, hy88, H⟩ := bind_el H
            refine c_region1 (fun K hK => ?_)
            refine st_val hS rfl rfl rfl (r_move hS rfl rfl) fun a70 hS70 => st_val hS70 rfl rfl rfl (r_move hS70 rfl rfl) fun a71 hS71 => st_val hS71 rfl rfl rfl (r_move hS71 rfl rfl) fun a72 hS72 => st_val hS72 rfl rfl rfl (r_index (e := 3) (sz := 1) (by_ := 8) hS72 rfl rfl rfl (by kernel_rfl) (RdS.some_ hp2 hx74) (idx_lo hx74) (idx_hi hx74)) fun a75 hS75 => st_val hS75 rfl rfl rfl (r_load1 (n := 1) hS75 rfl rfl (by kernel_rfl) (RdS.cell (i := m0_1) (sz := 1) (j := 0) hp2 hx74 rfl)) fun a76 hS76 => st_val hS76 rfl rfl rfl (r_move hS76 rfl rfl) fun a77 hS77 => ?_
            refine st_enter hS77 rfl rfl rfl (r_call hS77 rfl rfl (by kernel_rfl)) (help_Mod.calls (p0 := x73) (p1 := r27.1) (g := g49) (N + 22)   hr79) ?_
            rintro _ a80 w81 ⟨g81, rfl, F81⟩ hS80
            replace h31 := OwS.fr h31 F81 (fun c' hc (hm : N + 22 ≤ c') => by omega)
            replace h52 := OwS.fr h52 F81 (fun c' hc (hm : N + 22 ≤ c') => by omega)
            replace hp1 := RdS.fr hp1 F81 (by decide) (fun q (hq : C1 q) (hm : N + 22 ≤ q) => by have := hC1 q hq; omega)
            replace hp2 := RdS.fr hp2 F81 (by decide) (fun q (hq : C2 q) (hm : N + 22 ≤ q) => by have := hC2 q hq; omega)
            replace hF := hF.trans F81 (fun c' (hm : N + 22 ≤ c') => by show N ≤ c'; omega)
            refine st_eff hS80 rfl rfl rfl (e_lit (e := 3) (parts := [(0, .int .i64 r78)]) (cs := [.int .i64 r78]) (kint .i64) [r78] (N + 2) g81 hS80 rfl rfl (fun _ => by kernel_rfl) rfl (by decide) (Rows.cons (cs := [.int .i64 r78]) rfl Rows.nil)) ?_
            rintro _ a85 w86 g86 ⟨⟨A82, rfl, h83⟩, F86⟩ hS85
            replace h31 := OwS.fr h31 F86 (fun _ _ h => h)
            replace h52 := OwS.fr h52 F86 (fun _ _ h => h)
            replace hp1 := RdS.fr hp1 F86 (by decide) (fun _ _ h => h)
            replace hp2 := RdS.fr hp2 F86 (by decide) (fun _ _ h => h)
            replace hF := hF.trans F86 (fun _ h => h.elim)
            refine st_eff hS85 rfl rfl rfl (e_append (e := 3) (sz := 1) (by_ := 8) (z := [.int .i64 0]) (kd := (kint .i64)) g86 hS85 rfl rfl rfl rfl (by kernel_rfl) (by kernel_rfl) rfl rfl rfl rfl h52 (OwD.rdx h83) (fun _ _ _ h => h) hy88) ?_
            rintro _ a93 w94 g94 ⟨⟨A89, cap90, rfl, h91⟩, F94⟩ hS93
            replace h31 := OwS.fr h31 F94 (fun c' hc (hm : c' = N + 4) => by omega)
            replace h83 := OwS.fr h83 F94 (fun c' hc (hm : c' = N + 4) => by omega)
            replace hp1 := RdS.fr hp1 F94 (by decide) (fun q (hq : C1 q) (hm : q = N + 4) => by have := hC1 q hq; omega)
            replace hp2 := RdS.fr hp2 F94 (by decide) (fun q (hq : C2 q) (hm : q = N + 4) => by have := hC2 q hq; omega)
            replace hF := hF.trans F94 (fun c' (hm : c' = N + 4) => by show N ≤ c'; omega)
            refine st_val hS93 rfl rfl rfl (r_assign hS93 rfl rfl) fun a95 hS95 => wpList_nil (hK _ _ ?_)
            replace hS : Sl 150 _ [(0, .int .i64 p0), (1, .slice A1 p1.length cap1), (2, .slice A2 p2.length cap2), (7, .int .i64 r27.1), (8, .slice A29 r27.2.length cap30), (9, .slice A89 y87.length cap90), (10, .int .i64 m0_1)] := hS95.re ⟨rfl, rfl, rfl, rfl, rfl, rfl, rfl, trivial⟩
            clear hK K
            try clear hS70 hS71 hS72 hS75 hS76 hS77 hS80 hS85 hS93 hS95
            obtain ⟨a, ha⟩ : ∃ a', a' = a95 := ⟨_, rfl⟩
            rw [← ha] at hS ⊢; clear ha
            change Code.wp _ _ _ _ _
            refine c_pure1 [(0, .int .i64 p0), (1, .slice A1 p1.length cap1), (2, .slice A2 p2.length cap2), (7, .int .i64 r27.1), (8, .slice A29 r27.2.length cap30), (9, .slice A89 y87.length cap90), (10, .int .i64 (wi (m0_1 + 1)))] (fun R hR => st_val hS rfl rfl rfl (r_move hS rfl rfl) fun a96 hS96 => st_val hS96 rfl rfl rfl (r_bin hS96 rfl rfl rfl b_add) fun a97 hS97 => st_val hS97 rfl rfl rfl (r_assign hS97 rfl rfl) fun a98 hS98 => wpList_nil (hR _ (hS98.re ⟨rfl, rfl, rfl, rfl, rfl, rfl, rfl, trivial⟩))) ?_
            clear hS
            clear a
            intro a hS
            refine ⟨k53, Nat.lt_succ_self _, ?_⟩
            exact ⟨y87, wi (m0_1 + 1), g94, A89, cap90, H, hS.re ⟨rfl, rfl, rfl, rfl, rfl, rfl, rfl, trivial⟩, h31, h91, hp1, hp2, hF⟩
          · replace H := ite_f hb69 H
            refine wp_exit ?_
            have e := Option.some.inj H
            subst e
            exact ⟨g49, A50, cap51, hS.re ⟨rfl, rfl, rfl, rfl, rfl, rfl, trivial⟩, h31, h52, hp1, hp2, hF⟩
    · clear H
      clear hp1 hp2 h31 hF
      clear hS
      rintro a w41 ⟨g41, A42, cap43, hS, h31, h44, hp1, hp2, hF⟩
      have H := Hl47
      clear Hl47
      obtain ⟨r102, hr103, H⟩ := bind_el H
      refine c_region (fun K hK => ?_)
      refine st_val hS rfl rfl rfl (r_move hS rfl rfl) fun a99 hS99 => st_val hS99 rfl rfl rfl (r_move hS99 rfl rfl) fun a100 hS100 => st_val hS100 rfl rfl rfl (r_move hS100 rfl rfl) fun a101 hS101 => ?_
      refine st_enter hS101 rfl rfl rfl (r_call hS101 rfl rfl (by kernel_rfl)) (depgraph_Suppliers.calls (C1 := (fun q => q = N + 0)) (C2 := (fun q => q = N + 4)) (p0 := r27.1) (p1 := r27.2) (p2 := v45) (g := g41) (N + 22) (N + 6) (OwD.rdf (fun _ _ _ _ _ _ h => h) h31) (fun q (hq : q = N + 0) => by omega) (OwD.rdf (fun _ _ _ _ _ _ h => h) h44) (fun q (hq : q = N + 4) => by omega) (by omega) hr103) ?_
      rintro _ a108 w109 ⟨g109, A104, cap105, rfl, h106, F109⟩ hS108
      replace h31 := OwS.fr h31 F109 (fun c' hc (hm : (N + 6 ≤ c' ∧ c' < N + 6 + 2) ∨ N + 22 ≤ c') => by omega)
      replace h44 := OwS.fr h44 F109 (fun c' hc (hm : (N + 6 ≤ c' ∧ c' < N + 6 + 2) ∨ N + 22 ≤ c') => by omega)
      replace hp1 := RdS.fr hp1 F109 (by decide) (fun q (hq : C1 q) (hm : (N + 6 ≤ q ∧ q < N + 6 + 2) ∨ N + 22 ≤ q) => by have := hC1 q hq; omega)
      replace hp2 := RdS.fr hp2 F109 (by decide) (fun q (hq : C2 q) (hm : (N + 6 ≤ q ∧ q < N + 6 + 2) ∨ N + 22 ≤ q) => by have := hC2 q hq; omega)
      replace hF := hF.trans F109 (fun c' (hm : (N + 6 ≤ c' ∧ c' < N + 6 + 2) ∨ N + 22 ≤ c') => by show N ≤ c'; omega)
      refine st_val hS108 rfl rfl rfl (r_move hS108 rfl rfl) fun a110 hS110 => st_val hS110 rfl rfl rfl (r_extract hS110 rfl rfl rfl) fun a111 hS111 => st_val hS111 rfl rfl rfl (r_extract hS111 rfl rfl rfl) fun a112 hS112 => st_val hS112 rfl rfl rfl (r_assign hS112 rfl rfl) fun a113 hS113 => st_val hS113 rfl rfl rfl (r_assign hS113 rfl rfl) fun a114 hS114 => wpList_nil (hK _ _ ?_)
      replace hS : Sl 150 _ [(0, .int .i64 p0), (1, .slice A1 p1.length cap1), (2, .slice A2 p2.length cap2), (7, .int .i64 r27.1), (8, .slice A29 r27.2.length cap30), (9, .slice A42 v45.length cap43), (11, .slice A104 r102.1.length cap105), (12, .int .i64 r102.2)] := hS114.re ⟨rfl, rfl, rfl, rfl, rfl, rfl, rfl, rfl, trivial⟩
      clear hK K
      try clear hS99 hS100 hS101 hS108 hS110 hS111 hS112 hS113 hS114
      obtain ⟨a, ha⟩ : ∃ a', a' = a114 := ⟨_, rfl⟩
      rw [← ha] at hS ⊢; clear ha
      obtain ⟨r118, hr119, H⟩ := bind_el H
      refine c_region (fun K hK => ?_)
      refine st_val hS rfl rfl rfl (r_move hS rfl rfl) fun a115 hS115 => st_val hS115 rfl rfl rfl (r_move hS115 rfl rfl) fun a116 hS116 => st_val hS116 rfl rfl rfl (r_move hS116 rfl rfl) fun a117 hS117 => ?_
      refine st_enter hS117 rfl rfl rfl (r_call hS117 rfl rfl (by kernel_rfl)) (ref24_Suppliers.calls (C1 := (fun q => q = N + 0)) (C2 := (fun q => q = N + 4)) (p0 := r27.1) (p1 := r27.2) (p2 := v45) (g := g109) (N + 22) (N + 8) (OwD.rdf (fun _ _ _ _ _ _ h => h) h31) (fun q (hq : q = N + 0) => by omega) (OwD.rdf (fun _ _ _ _ _ _ h => h) h44) (fun q (hq : q = N + 4) => by omega) (by omega) hr119) ?_
      rintro _ a124 w125 ⟨g125, A120, cap121, rfl, h122, F125⟩ hS124
      replace h106 := OwS.fr h106 F125 (fun c' hc (hm : (N + 8 ≤ c' ∧ c' < N + 8 + 2) ∨ N + 22 ≤ c') => by omega)
      replace h31 := OwS.fr h31 F125 (fun c' hc (hm : (N + 8 ≤ c' ∧ c' < N + 8 + 2) ∨ N + 22 ≤ c') => by omega)
      replace h44 := OwS.fr h44 F125 (fun c' hc (hm : (N + 8 ≤ c' ∧ c' < N + 8 + 2) ∨ N + 22 ≤ c') => by omega)
      replace hp1 := RdS.fr hp1 F125 (by decide) (fun q (hq : C1 q) (hm : (N + 8 ≤ q ∧ q < N + 8 + 2) ∨ N + 22 ≤ q) => by have := hC1 q hq; omega)
      replace hp2 := RdS.fr hp2 F125 (by decide) (fun q (hq : C2 q) (hm : (N + 8 ≤ q ∧ q < N + 8 + 2) ∨ N + 22 ≤ q) => by have := hC2 q hq; omega)
      replace hF := hF.trans F125 (fun c' (hm : (N + 8 ≤ c' ∧ c' < N + 8 + 2) ∨ N + 22 ≤ c') => by show N ≤ c'; omega)
      refine st_val hS124 rfl rfl rfl (r_move hS124 rfl rfl) fun a126 hS126 => st_val hS126 rfl rfl rfl (r_extract hS126 rfl rfl rfl) fun a127 hS127 => st_val hS127 rfl rfl rfl (r_extract hS127 rfl rfl rfl) fun a128 hS128 => st_val hS128 rfl rfl rfl (r_assign hS128 rfl rfl) fun a129 hS129 => st_val hS129 rfl rfl rfl (r_assign hS129 rfl rfl) fun a130 hS130 => wpList_nil (hK _ _ ?_)
      replace hS : Sl 150 _ [(0, .int .i64 p0), (1, .slice A1 p1.length cap1), (2, .slice A2 p2.length cap2), (7, .int .i64 r27.1), (8, .slice A29 r27.2.length cap30), (9, .slice A42 v45.length cap43), (11, .slice A104 r102.1.length cap105), (12, .int .i64 r102.2), (13, .slice A120 r118.1.length cap121), (14, .int .i64 r118.2)] := hS130.re ⟨rfl, rfl, rfl, rfl, rfl, rfl, rfl, rfl, rfl, rfl, trivial⟩
      clear hK K
      try clear hS115 hS116 hS117 hS124 hS126 hS127 hS128 hS129 hS130
      obtain ⟨a, ha⟩ : ∃ a', a' = a130 := ⟨_, rfl⟩
      rw [← ha] at hS ⊢; clear ha
      obtain ⟨r134, hr135, H⟩ := bind_el H
      refine c_region (fun K hK => ?_)
      refine st_val hS rfl rfl rfl (r_move hS rfl rfl) fun a131 hS131 => st_val hS131 rfl rfl rfl (r_move hS131 rfl rfl) fun a132 hS132 => st_val hS132 rfl rfl rfl (r_move hS132 rfl rfl) fun a133 hS133 => ?_
      refine st_enter hS133 rfl rfl rfl (r_call hS133 rfl rfl (by kernel_rfl)) (depgraph_Consumers.calls (C1 := (fun q => q = N + 0)) (C2 := (fun q => q = N + 4)) (p0 := r27.1) (p1 := r27.2) (p2 := v45) (g := g125) (N + 22) (N + 10) (OwD.rdf (fun _ _ _ _ _ _ h => h) h31) (fun q (hq : q = N + 0) => by omega) (OwD.rdf (fun _ _ _ _ _ _ h => h) h44) (fun q (hq : q = N + 4) => by omega) (by omega) hr135) ?_
      rintro _ a140 w141 ⟨g141, A136, cap137, rfl, h138, F141⟩ hS140
      replace h106 := OwS.fr h106 F141 (fun c' hc (hm : (N + 10 ≤ c' ∧ c' < N + 10 + 2) ∨ N + 22 ≤ c') => by omega)
      replace h122 := OwS.fr h122 F141 (fun c' hc (hm : (N + 10 ≤ c' ∧ c' < N + 10 + 2) ∨ N + 22 ≤ c') => by omega)
      replace h31 := OwS.fr h31 F141 (fun c' hc (hm : (N + 10 ≤ c' ∧ c' < N + 10 + 2) ∨ N + 22 ≤ c') => by omega)
      replace h44 := OwS.fr h44 F141 (fun c' hc (hm : (N + 10 ≤ c' ∧ c' < N + 10 + 2) ∨ N + 22 ≤ c') => by omega)
      replace hp1 := RdS.fr hp1 F141 (by decide) (fun q (hq : C1 q) (hm : (N + 10 ≤ q ∧ q < N + 10 + 2) ∨ N + 22 ≤ q) => by have := hC1 q hq; omega)
      replace hp2 := RdS.fr hp2 F141 (by decide) (fun q (hq : C2 q) (hm : (N + 10 ≤ q ∧ q < N + 10 + 2) ∨ N + 22 ≤ q) => by have := hC2 q hq; omega)
      replace hF := hF.trans F141 (fun c' (hm : (N + 10 ≤ c' ∧ c' < N + 10 + 2) ∨ N + 22 ≤ c') => by show N ≤ c'; omega)
      refine st_val hS140 rfl rfl rfl (r_move hS140 rfl rfl) fun a142 hS142 => st_val hS142 rfl rfl rfl (r_extract hS142 rfl rfl rfl) fun a143 hS143 => st_val hS143 rfl rfl rfl (r_extract hS143 rfl rfl rfl) fun a144 hS144 => st_val hS144 rfl rfl rfl (r_assign hS144 rfl rfl) fun a145 hS145 => st_val hS145 rfl rfl rfl (r_assign hS145 rfl rfl) fun a146 hS146 => wpList_nil (hK _ _ ?_)
      replace hS : Sl 150 _ [(0, .int .i64 p0), (1, .slice A1 p1.length cap1), (2, .slice A2 p2.length cap2), (7, .int .i64 r27.1), (8, .slice A29 r27.2.length cap30), (9, .slice A42 v45.length cap43), (11, .slice A104 r102.1.length cap105), (12, .int .i64 r102.2), (13, .slice A120 r118.1.length cap121), (14, .int .i64 r118.2), (15, .slice A136 r134.1.length cap137), (16, .int .i64 r134.2)] := hS146.re ⟨rfl, rfl, rfl, rfl, rfl, rfl, rfl, rfl, rfl, rfl, rfl, rfl, trivial⟩
      clear hK K
      try clear hS131 hS132 hS133 hS140 hS142 hS143 hS144 hS145 hS146
      obtain ⟨a, ha⟩ : ∃ a', a' = a146 := ⟨_, rfl⟩
      rw [← ha] at hS ⊢; clear ha
      obtain ⟨r150, hr151, H⟩ := bind_el H
      refine c_region (fun K hK => ?_)
      refine st_val hS rfl rfl rfl (r_move hS rfl rfl) fun a147 hS147 => st_val hS147 rfl rfl rfl (r_move hS147 rfl rfl) fun a148 hS148 => st_val hS148 rfl rfl rfl (r_move hS148 rfl rfl) fun a149 hS149 => ?_
      refine st_enter hS149 rfl rfl rfl (r_call hS149 rfl rfl (by kernel_rfl)) (ref24_Consumers.calls (C1 := (fun q => q = N + 0)) (C2 := (fun q => q = N + 4)) (p0 := r27.1) (p1 := r27.2) (p2 := v45) (g := g141) (N + 22) (N + 12) (OwD.rdf (fun _ _ _ _ _ _ h => h) h31) (fun q (hq : q = N + 0) => by omega) (OwD.rdf (fun _ _ _ _ _ _ h => h) h44) (fun q (hq : q = N + 4) => by omega) (by omega) hr151) ?_
      rintro _ a156 w157 ⟨g157, A152, cap153, rfl, h154, F157⟩ hS156
      replace h106 := OwS.fr h106 F157 (fun c' hc (hm : (N + 12 ≤ c' ∧ c' < N + 12 + 2) ∨ N + 22 ≤ c') => by omega)
      replace h122 := OwS.fr h122 F157 (fun c' hc (hm : (N + 12 ≤ c' ∧ c' < N + 12 + 2) ∨ N + 22 ≤ c') => by omega)
      replace h138 := OwS.fr h138 F157 (fun c' hc (hm : (N + 12 ≤ c' ∧ c' < N + 12 + 2) ∨ N + 22 ≤ c') => by omega)
      replace h31 := OwS.fr h31 F157 (fun c' hc (hm : (N + 12 ≤ c' ∧ c' < N + 12 + 2) ∨ N + 22 ≤ c') => by omega)
      replace h44 := OwS.fr h44 F157 (fun c' hc (hm : (N + 12 ≤ c' ∧ c' < N + 12 + 2) ∨ N + 22 ≤ c') => by omega)
      replace hp1 := RdS.fr hp1 F157 (by decide) (fun q (hq : C1 q) (hm : (N + 12 ≤ q ∧ q < N + 12 + 2) ∨ N + 22 ≤ q) => by have := hC1 q hq; omega)
      replace hp2 := RdS.fr hp2 F157 (by decide) (fun q (hq : C2 q) (hm : (N + 12 ≤ q ∧ q < N + 12 + 2) ∨ N + 22 ≤ q) => by have := hC2 q hq; omega)
      replace hF := hF.trans F157 (fun c' (hm : (N + 12 ≤ c' ∧ c' < N + 12 + 2) ∨ N + 22 ≤ c') => by show N ≤ c'; omega)
      refine st_val hS156 rfl rfl rfl (r_move hS156 rfl rfl) fun a158 hS158 => st_val hS158 rfl rfl rfl (r_extract hS158 rfl rfl rfl) fun a159 hS159 => st_val hS159 rfl rfl rfl (r_extract hS159 rfl rfl rfl) fun a160 hS160 => st_val hS160 rfl rfl rfl (r_assign hS160 rfl rfl) fun a161 hS161 => st_val hS161 rfl rfl rfl (r_assign hS161 rfl rfl) fun a162 hS162 => wpList_nil (hK _ _ ?_)
      replace hS : Sl 150 _ [(0, .int .i64 p0), (1, .slice A1 p1.length cap1), (2, .slice A2 p2.length cap2), (7, .int .i64 r27.1), (8, .slice A29 r27.2.length cap30), (11, .slice A104 r102.1.length cap105), (12, .int .i64 r102.2), (13, .slice A120 r118.1.length cap121), (14, .int .i64 r118.2), (15, .slice A136 r134.1.length cap137), (16, .int .i64 r134.2), (17, .slice A152 r150.1.length cap153), (18, .int .i64 r150.2)] := hS162.re ⟨rfl, rfl, rfl, rfl, rfl, rfl, rfl, rfl, rfl, rfl, rfl, rfl, rfl, trivial⟩
      clear hK K
      try clear hS147 hS148 hS149 hS156 hS158 hS159 hS160 hS161 hS162
      obtain ⟨a, ha⟩ : ∃ a', a' = a162 := ⟨_, rfl⟩
      rw [← ha] at hS ⊢; clear ha
      refine wp_seq ?_
      obtain ⟨t189, ht190, H⟩ := bind_el H
      obtain ⟨t217, ht218, H⟩ := bind_el H
      refine c_region (fun K hK => ?_)
      refine st_val hS rfl rfl rfl (r_move hS rfl rfl) fun a163 hS163 => st_val hS163 rfl rfl rfl (r_move hS163 rfl rfl) fun a164 hS164 => st_val hS164 rfl rfl rfl (r_bin hS164 rfl rfl rfl b_neq) fun a165 hS165 => st_val hS165 rfl rfl rfl (r_move hS165 rfl rfl) fun a166 hS166 => ?_
      refine g_join (N := 150) 4 [(0, .int .i64 p0), (1, .slice A1 p1.length cap1), (2, .slice A2 p2.length cap2), (7, .int .i64 r27.1), (8, .slice A29 r27.2.length cap30), (11, .slice A104 r102.1.length cap105), (13, .slice A120 r118.1.length cap121), (15, .slice A136 r134.1.length cap137), (17, .slice A152 r150.1.length cap153), (88, .bool ((r102.2 != r118.2) || (r134.2 != r150.2)))] ?_ (fun hk => ?_)
      rotate_left
      · rcases Bool.eq_false_or_eq_true ((r102.2 != r118.2)) with hb167 | hb167
        · refine st_off hS166 (want_off hS166 rfl rfl rfl hb167) rfl rfl fun a171 hS171 => st_off hS171 (want_off hS171 rfl rfl rfl hb167) rfl rfl fun a172 hS172 => st_off hS172 (want_off hS172 rfl rfl rfl hb167) rfl rfl fun a173 hS173 => st_val hS173 rfl rfl rfl (r_pickT hS173 rfl rfl rfl hb167) fun a174 hS174 => hk _ (hS174.re ⟨rfl, rfl, rfl, rfl, rfl, rfl, rfl, rfl, rfl, (by rw [hb167]; rfl), trivial⟩)
        · refine st_valW hS166 (want_on hS166 rfl rfl rfl hb167) rfl rfl (r_move hS166 rfl rfl) fun a175 hS175 => st_valW hS175 (want_on hS175 rfl rfl rfl hb167) rfl rfl (r_move hS175 rfl rfl) fun a176 hS176 => st_valW hS176 (want_on hS176 rfl rfl rfl hb167) rfl rfl (r_bin hS176 rfl rfl rfl b_neq) fun a177 hS177 => st_val hS177 rfl rfl rfl (r_pickF hS177 rfl rfl rfl hb167) fun a178 hS178 => hk _ (hS178.re ⟨rfl, rfl, rfl, rfl, rfl, rfl, rfl, rfl, rfl, (by rw [hb167]; rfl), trivial⟩)
      intro a179 hS179
      refine st_val hS179 rfl rfl rfl (r_move hS179 rfl rfl) fun a180 hS180 => ?_
      refine g_joinR 5 (fun a w191 => ∃ (g191 : Nat → Nat), Sl 150 a [(0, .int .i64 p0), (1, .slice A1 p1.length cap1), (2, .slice A2 p2.length cap2), (7, .int .i64 r27.1), (8, .slice A29 r27.2.length cap30), (15, .slice A136 r134.1.length cap137), (17, .slice A152 r150.1.length cap153), (94, .bool t189)] ∧ OwS (kint .i64) 3 w191 g191 (N + 10) A136 cap137 r134.1 ∧ OwS (kint .i64) 3 w191 g191 (N + 12) A152 cap153 r150.1 ∧ OwS kd_api_Link 34 w191 g191 (N + 0) A29 cap30 r27.2 ∧ RdS kd_api_Link w191 g191 C1 A1 cap1 p1 ∧ RdS (kint .i64) w191 g191 C2 A2 cap2 p2 ∧ Fr (fun q => N ≤ q) w g w191 g191) ?_ (fun hk => ?_)
      rotate_left
      · rcases Bool.eq_false_or_eq_true (((r102.2 != r118.2) || (r134.2 != r150.2))) with hb181 | hb181
        · have H := ite_t hb181 ht190
          have e192 := Option.some.inj H
          refine st_off hS180 (want_off hS180 rfl rfl rfl hb181) rfl rfl fun a193 hS193 => st_off hS193 (want_off hS193 rfl rfl rfl hb181) rfl rfl fun a194 hS194 => st_off hS194 (want_off hS194 rfl rfl rfl hb181) rfl rfl fun a195 hS195 => st_off hS195 (want_off hS195 rfl rfl rfl hb181) rfl rfl fun a196 hS196 => st_val hS196 rfl rfl rfl (r_pickT hS196 rfl rfl rfl hb181) fun a197 hS197 => hk _ _ ?_
          exact ⟨g157, hS197.re ⟨rfl, rfl, rfl, rfl, rfl, rfl, rfl, (by rw [← e192]; rfl), trivial⟩, h138, h154, h31, hp1, hp2, hF⟩
        · have H := ite_f hb181 ht190
          obtain ⟨r200, hr201, H⟩ := bind_el H
          have e205 := Option.some.inj H
          refine st_valW hS180 (want_on hS180 rfl rfl rfl hb181) rfl rfl (r_move hS180 rfl rfl) fun a198 hS198 => st_valW hS198 (want_on hS198 rfl rfl rfl hb181) rfl rfl (r_move hS198 rfl rfl) fun a199 hS199 => ?_
          refine st_enterW hS199 (want_on hS199 rfl rfl rfl hb181) rfl rfl (r_call hS199 rfl rfl (by kernel_rfl)) (help_Equal_int.calls (C0 := (fun q => q = N + 6)) (C1 := (fun q => q = N + 8)) (p0 := r102.1) (p1 := r118.1) (g := g157) (N + 22)  (OwD.rdf (fun _ _ _ _ _ _ h => h) h106) (fun q (hq : q = N + 6) => by omega) (OwD.rdf (fun _ _ _ _ _ _ h => h) h122) (fun q (hq : q = N + 8) => by omega) hr201) ?_
          rintro _ a202 w203 ⟨g203, rfl, F203⟩ hS202
          replace h106 := OwS.fr h106 F203 (fun c' hc (hm : N + 22 ≤ c') => by omega)
          replace h122 := OwS.fr h122 F203 (fun c' hc (hm : N + 22 ≤ c') => by omega)
          replace h138 := OwS.fr h138 F203 (fun c' hc (hm : N + 22 ≤ c') => by omega)
          replace h154 := OwS.fr h154 F203 (fun c' hc (hm : N + 22 ≤ c') => by omega)
          replace h31 := OwS.fr h31 F203 (fun c' hc (hm : N + 22 ≤ c') => by omega)
          replace hp1 := RdS.fr hp1 F203 (by decide) (fun q (hq : C1 q) (hm : N + 22 ≤ q) => by have := hC1 q hq; omega)
          replace hp2 := RdS.fr hp2 F203 (by decide) (fun q (hq : C2 q) (hm : N + 22 ≤ q) => by have := hC2 q hq; omega)
          replace hF := hF.trans F203 (fun c' (hm : N + 22 ≤ c') => by show N ≤ c'; omega)
          refine st_valW hS202 (want_on hS202 rfl rfl rfl hb181) rfl rfl (r_not hS202 rfl rfl) fun a204 hS204 => ?_
          refine st_val hS204 rfl rfl rfl (r_pickF hS204 rfl rfl rfl hb181) fun a206 hS206 => hk _ _ ?_
          exact ⟨g203, hS206.re ⟨rfl, rfl, rfl, rfl, rfl, rfl, rfl, (by rw [← e205]; rfl), trivial⟩, h138, h154, h31, hp1, hp2, hF⟩
      rintro a207 w191 ⟨g191, hS207, h138, h154, h31, hp1, hp2, hF⟩
      refine st_val hS207 rfl rfl rfl (r_move hS207 rfl rfl) fun a208 hS208 => ?_
      refine g_joinR 5 (fun a w219 => ∃ (g219 : Nat → Nat), Sl 150 a [(0, .int .i64 p0), (1, .slice A1 p1.length cap1), (2, .slice A2 p2.length cap2), (7, .int .i64 r27.1), (8, .slice A29 r27.2.length cap30), (100, .bool t217)] ∧ OwS kd_api_Link 34 w219 g219 (N + 0) A29 cap30 r27.2 ∧ RdS kd_api_Link w219 g219 C1 A1 cap1 p1 ∧ RdS (kint .i64) w219 g219 C2 A2 cap2 p2 ∧ Fr (fun q => N ≤ q) w g w219 g219) ?_ (fun hk => ?_)
      rotate_left
      · rcases Bool.eq_false_or_eq_true (t189) with hb209 | hb209
        · have H := ite_t hb209 ht218
          have e220 := Option.some.inj H
          refine st_off hS208 (want_off hS208 rfl rfl rfl hb209) rfl rfl fun a221 hS221 => st_off hS221 (want_off hS221 rfl rfl rfl hb209) rfl rfl fun a222 hS222 => st_off hS222 (want_off hS222 rfl rfl rfl hb209) rfl rfl fun a223 hS223 => st_off hS223 (want_off hS223 rfl rfl rfl hb209) rfl rfl fun a224 hS224 => st_val hS224 rfl rfl rfl (r_pickT hS224 rfl rfl rfl hb209) fun a225 hS225 => hk _ _ ?_
          exact ⟨g191, hS225.re ⟨rfl, rfl, rfl, rfl, rfl, (by rw [← e220]; rfl), trivial⟩, h31, hp1, hp2, hF⟩
        · have H := ite_f hb209 ht218
          obtain ⟨r228, hr229, H⟩ := bind_el H
          have e233 := Option.some.inj H
          refine st_valW hS208 (want_on hS208 rfl rfl rfl hb209) rfl rfl (r_move hS208 rfl rfl) fun a226 hS226 => st_valW hS226 (want_on hS226 rfl rfl rfl hb209) rfl rfl (r_move hS226 rfl rfl) fun a227 hS227 => ?_
          refine st_enterW hS227 (want_on hS227 rfl rfl rfl hb209) rfl rfl (r_call hS227 rfl rfl (by kernel_rfl)) (help_Equal_int.calls (C0 := (fun q => q = N + 10)) (C1 := (fun q => q = N + 12)) (p0 := r134.1) (p1 := r150.1) (g := g191) (N + 22)  (OwD.rdf (fun _ _ _ _ _ _ h => h) h138) (fun q (hq : q = N + 10) => by omega) (OwD.rdf (fun _ _ _ _ _ _ h => h) h154) (fun q (hq : q = N + 12) => by omega) hr229) ?_
          rintro _ a230 w231 ⟨g231, rfl, F231⟩ hS230
          replace h138 := OwS.fr h138 F231 (fun c' hc (hm : N + 22 ≤ c') => by omega)
          replace h154 := OwS.fr h154 F231 (fun c' hc (hm : N + 22 ≤ c') => by omega)
          replace h31 := OwS.fr h31 F231 (fun c' hc (hm : N + 22 ≤ c') => by omega)
          replace hp1 := RdS.fr hp1 F231 (by decide) (fun q (hq : C1 q) (hm : N + 22 ≤ q) => by have := hC1 q hq; omega)
          replace hp2 := RdS.fr hp2 F231 (by decide) (fun q (hq : C2 q) (hm : N + 22 ≤ q) => by have := hC2 q hq; omega)
          replace hF := hF.trans F231 (fun c' (hm : N + 22 ≤ c') => by show N ≤ c'; omega)
          refine st_valW hS230 (want_on hS230 rfl rfl rfl hb209) rfl rfl (r_not hS230 rfl rfl) fun a232 hS232 => ?_
          refine st_val hS232 rfl rfl rfl (r_pickF hS232 rfl rfl rfl hb209) fun a234 hS234 => hk _ _ ?_
          exact ⟨g231, hS234.re ⟨rfl, rfl, rfl, rfl, rfl, (by rw [← e233]; rfl), trivial⟩, h31, hp1, hp2, hF⟩
      rintro a235 w219 ⟨g219, hS235, h31, hp1, hp2, hF⟩
      refine wpList_nil (hK _ _ ?_)
      replace hS : Sl 150 _ [(0, .int .i64 p0), (1, .slice A1 p1.length cap1), (2, .slice A2 p2.length cap2), (7, .int .i64 r27.1), (8, .slice A29 r27.2.length cap30), (100, .bool t217)] := hS235.re ⟨rfl, rfl, rfl, rfl, rfl, rfl, trivial⟩
      clear hK K
      try clear hS163 hS164 hS165 hS166 hS179 hS180 hS207 hS208 hS235
      obtain ⟨a, ha⟩ : ∃ a', a' = a235 := ⟨_, rfl⟩
      rw [← ha] at hS ⊢; clear ha
      refine c_cond hS rfl (fun hb236 => ?_) (fun hb236 => ?_)
      · replace H := ite_t hb236 H
        refine c_pure [(6, .bool false)] (fun R hR => st_val hS rfl rfl rfl (r_assign hS rfl rfl) fun a237 hS237 => wpList_nil (hR _ (hS237.re ⟨rfl, trivial⟩))) ?_
        clear hS
        clear a
        intro a hS
        refine wp_ret ?_
        have e := Option.some.inj H
        subst e
        repeat (with_reducible first | refine then_ret ?_ | refine inBlock_ret ?_)
        exact c_ret1 hS Try.results10 rfl ⟨_, rfl, g219, rfl, hF⟩
      · replace H := ite_f hb236 H
        refine wp_skip ?_
        change Code.wp _ _ _ _ _
        obtain ⟨r241, hr242, H⟩ := bind_el H
        refine c_region (fun K hK => ?_)
        refine st_val hS rfl rfl rfl (r_move hS rfl rfl) fun a238 hS238 => st_val hS238 rfl rfl rfl (r_move hS238 rfl rfl) fun a239 hS239 => st_val hS239 rfl rfl rfl (r_move hS239 rfl rfl) fun a240 hS240 => ?_
        refine st_enter hS240 rfl rfl rfl (r_call hS240 rfl rfl (by kernel_rfl)) (depgraph_Suppliers.calls (C1 := (fun q => q = N + 0)) (C2 := C2) (p0 := r27.1) (p1 := r27.2) (p2 := p2) (g := g219) (N + 22) (N + 14) (OwD.rdf (fun _ _ _ _ _ _ h => h) h31) (fun q (hq : q = N + 0) => by omega) hp2 (fun q (hq : C2 q) => by have := hC2 q hq; omega) (by omega) hr242) ?_
        rintro _ a247 w248 ⟨g248, A243, cap244, rfl, h245, F248⟩ hS247
        replace h31 := OwS.fr h31 F248 (fun c' hc (hm : (N + 14 ≤ c' ∧ c' < N + 14 + 2) ∨ N + 22 ≤ c') => by omega)
        replace hp1 := RdS.fr hp1 F248 (by decide) (fun q (hq : C1 q) (hm : (N + 14 ≤ q ∧ q < N + 14 + 2) ∨ N + 22 ≤ q) => by have := hC1 q hq; omega)
        replace hp2 := RdS.fr hp2 F248 (by decide) (fun q (hq : C2 q) (hm : (N + 14 ≤ q ∧ q < N + 14 + 2) ∨ N + 22 ≤ q) => by have := hC2 q hq; omega)
        replace hF := hF.trans F248 (fun c' (hm : (N + 14 ≤ c' ∧ c' < N + 14 + 2) ∨ N + 22 ≤ c') => by show N ≤ c'; omega)
        refine st_val hS247 rfl rfl rfl (r_move hS247 rfl rfl) fun a249 hS249 => st_val hS249 rfl rfl rfl (r_extract hS249 rfl rfl rfl) fun a250 hS250 => st_val hS250 rfl rfl rfl (r_extract hS250 rfl rfl rfl) fun a251 hS251 => st_val hS251 rfl rfl rfl (r_assign hS251 rfl rfl) fun a252 hS252 => st_val hS252 rfl rfl rfl (r_assign hS252 rfl rfl) fun a253 hS253 => wpList_nil (hK _ _ ?_)
        replace hS : Sl 150 _ [(0, .int .i64 p0), (1, .slice A1 p1.length cap1), (2, .slice A2 p2.length cap2), (7, .int .i64 r27.1), (8, .slice A29 r27.2.length cap30), (11, .slice A243 r241.1.length cap244), (12, .int .i64 r241.2)] := hS253.re ⟨rfl, rfl, rfl, rfl, rfl, rfl, rfl, trivial⟩
        clear hK K
        try clear hS238 hS239 hS240 hS247 hS249 hS250 hS251 hS252 hS253
        obtain ⟨a, ha⟩ : ∃ a', a' = a253 := ⟨_, rfl⟩
        rw [← ha] at hS ⊢; clear ha
        obtain ⟨r257, hr258, H⟩ := bind_el H
        refine c_region (fun K hK => ?_)
        refine st_val hS rfl rfl rfl (r_move hS rfl rfl) fun a254 hS254 => st_val hS254 rfl rfl rfl (r_move hS254 rfl rfl) fun a255 hS255 => st_val hS255 rfl rfl rfl (r_move hS255 rfl rfl) fun a256 hS256 => ?_
        refine st_enter hS256 rfl rfl rfl (r_call hS256 rfl rfl (by kernel_rfl)) (ref24_Suppliers.calls (C1 := (fun q => q = N + 0)) (C2 := C2) (p0 := r27.1) (p1 := r27.2) (p2 := p2) (g := g248) (N + 22) (N + 16) (OwD.rdf (fun _ _ _ _ _ _ h => h) h31) (fun q (hq : q = N + 0) => by omega) hp2 (fun q (hq : C2 q) => by have := hC2 q hq; omega) (by omega) hr258) ?_
        rintro _ a263 w264 ⟨g264, A259, cap260, rfl, h261, F264⟩ hS263
        replace h245 := OwS.fr h245 F264 (fun c' hc (hm : (N + 16 ≤ c' ∧ c' < N + 16 + 2) ∨ N + 22 ≤ c') => by omega)
        replace h31 := OwS.fr h31 F264 (fun c' hc (hm : (N + 16 ≤ c' ∧ c' < N + 16 + 2) ∨ N + 22 ≤ c') => by omega)
        replace hp1 := RdS.fr hp1 F264 (by decide) (fun q (hq : C1 q) (hm : (N + 16 ≤ q ∧ q < N + 16 + 2) ∨ N + 22 ≤ q) => by have := hC1 q hq; omega)
        replace hp2 := RdS.fr hp2 F264 (by decide) (fun q (hq : C2 q) (hm : (N + 16 ≤ q ∧ q < N + 16 + 2) ∨ N + 22 ≤ q) => by have := hC2 q hq; omega)
        replace hF := hF.trans F264 (fun c' (hm : (N + 16 ≤ c' ∧ c' < N + 16 + 2) ∨ N + 22 ≤ c') => by show N ≤ c'; omega)
        refine st_val hS263 rfl rfl rfl (r_move hS263 rfl rfl) fun a265 hS265 => st_val hS265 rfl rfl rfl (r_extract hS265 rfl rfl rfl) fun a266 hS266 => st_val hS266 rfl rfl rfl (r_extract hS266 rfl rfl rfl) fun a267 hS267 => st_val hS267 rfl rfl rfl (r_assign hS267 rfl rfl) fun a268 hS268 => st_val hS268 rfl rfl rfl (r_assign hS268 rfl rfl) fun a269 hS269 => wpList_nil (hK _ _ ?_)
        replace hS : Sl 150 _ [(0, .int .i64 p0), (1, .slice A1 p1.length cap1), (2, .slice A2 p2.length cap2), (11, .slice A243 r241.1.length cap244), (12, .int .i64 r241.2), (13, .slice A259 r257.1.length cap260), (14, .int .i64 r257.2)] := hS269.re ⟨rfl, rfl, rfl, rfl, rfl, rfl, rfl, trivial⟩
        clear hK K
        try clear hS254 hS255 hS256 hS263 hS265 hS266 hS267 hS268 hS269
        obtain ⟨a, ha⟩ : ∃ a', a' = a269 := ⟨_, rfl⟩
        rw [← ha] at hS ⊢; clear ha
        obtain ⟨r273, hr274, H⟩ := bind_el H
        refine c_region (fun K hK => ?_)
        refine st_val hS rfl rfl rfl (r_move hS rfl rfl) fun a270 hS270 => st_val hS270 rfl rfl rfl (r_move hS270 rfl rfl) fun a271 hS271 => st_val hS271 rfl rfl rfl (r_move hS271 rfl rfl) fun a272 hS272 => ?_
        refine st_enter hS272 rfl rfl rfl (r_call hS272 rfl rfl (by kernel_rfl)) (depgraph_Consumers.calls (C1 := C1) (C2 := C2) (p0 := p0) (p1 := p1) (p2 := p2) (g := g264) (N + 22) (N + 18) hp1 (fun q (hq : C1 q) => by have := hC1 q hq; omega) hp2 (fun q (hq : C2 q) => by have := hC2 q hq; omega) (by omega) hr274) ?_
        rintro _ a279 w280 ⟨g280, A275, cap276, rfl, h277, F280⟩ hS279
        replace h245 := OwS.fr h245 F280 (fun c' hc (hm : (N + 18 ≤ c' ∧ c' < N + 18 + 2) ∨ N + 22 ≤ c') => by omega)
        replace h261 := OwS.fr h261 F280 (fun c' hc (hm : (N + 18 ≤ c' ∧ c' < N + 18 + 2) ∨ N + 22 ≤ c') => by omega)
        replace hp1 := RdS.fr hp1 F280 (by decide) (fun q (hq : C1 q) (hm : (N + 18 ≤ q ∧ q < N + 18 + 2) ∨ N + 22 ≤ q) => by have := hC1 q hq; omega)
        replace hp2 := RdS.fr hp2 F280 (by decide) (fun q (hq : C2 q) (hm : (N + 18 ≤ q ∧ q < N + 18 + 2) ∨ N + 22 ≤ q) => by have := hC2 q hq; omega)
        replace hF := hF.trans F280 (fun c' (hm : (N + 18 ≤ c' ∧ c' < N + 18 + 2) ∨ N + 22 ≤ c') => by show N ≤ c'; omega)
        refine st_val hS279 rfl rfl rfl (r_move hS279 rfl rfl) fun a281 hS281 => st_val hS281 rfl rfl rfl (r_extract hS281 rfl rfl rfl) fun a282 hS282 => st_val hS282 rfl rfl rfl (r_extract hS282 rfl rfl rfl) fun a283 hS283 => st_val hS283 rfl rfl rfl (r_assign hS283 rfl rfl) fun a284 hS284 => st_val hS284 rfl rfl rfl (r_assign hS284 rfl rfl) fun a285 hS285 => wpList_nil (hK _ _ ?_)
        replace hS : Sl 150 _ [(0, .int .i64 p0), (1, .slice A1 p1.length cap1), (2, .slice A2 p2.length cap2), (11, .slice A243 r241.1.length cap244), (12, .int .i64 r241.2), (13, .slice A259 r257.1.length cap260), (14, .int .i64 r257.2), (15, .slice A275 r273.1.length cap276), (16, .int .i64 r273.2)] := hS285.re ⟨rfl, rfl, rfl, rfl, rfl, rfl, rfl, rfl, rfl, trivial⟩
        clear hK K
        try clear hS270 hS271 hS272 hS279 hS281 hS282 hS283 hS284 hS285
        obtain ⟨a, ha⟩ : ∃ a', a' = a285 := ⟨_, rfl⟩
        rw [← ha] at hS ⊢; clear ha
        obtain ⟨r289, hr290, H⟩ := bind_el H
        refine c_region (fun K hK => ?_)
        refine st_val hS rfl rfl rfl (r_move hS rfl rfl) fun a286 hS286 => st_val hS286 rfl rfl rfl (r_move hS286 rfl rfl) fun a287 hS287 => st_val hS287 rfl rfl rfl (r_move hS287 rfl rfl) fun a288 hS288 => ?_
        refine st_enter hS288 rfl rfl rfl (r_call hS288 rfl rfl (by kernel_rfl)) (ref24_Consumers.calls (C1 := C1) (C2 := C2) (p0 := p0) (p1 := p1) (p2 := p2) (g := g280) (N + 22) (N + 20) hp1 (fun q (hq : C1 q) => by have := hC1 q hq; omega) hp2 (fun q (hq : C2 q) => by have := hC2 q hq; omega) (by omega) hr290) ?_
        rintro _ a295 w296 ⟨g296, A291, cap292, rfl, h293, F296⟩ hS295
        replace h245 := OwS.fr h245 F296 (fun c' hc (hm : (N + 20 ≤ c' ∧ c' < N + 20 + 2) ∨ N + 22 ≤ c') => by omega)
        replace h261 := OwS.fr h261 F296 (fun c' hc (hm : (N + 20 ≤ c' ∧ c' < N + 20 + 2) ∨ N + 22 ≤ c') => by omega)
        replace h277 := OwS.fr h277 F296 (fun c' hc (hm : (N + 20 ≤ c' ∧ c' < N + 20 + 2) ∨ N + 22 ≤ c') => by omega)
        replace hp1 := RdS.fr hp1 F296 (by decide) (fun q (hq : C1 q) (hm : (N + 20 ≤ q ∧ q < N + 20 + 2) ∨ N + 22 ≤ q) => by have := hC1 q hq; omega)
        replace hp2 := RdS.fr hp2 F296 (by decide) (fun q (hq : C2 q) (hm : (N + 20 ≤ q ∧ q < N + 20 + 2) ∨ N + 22 ≤ q) => by have := hC2 q hq; omega)
        replace hF := hF.trans F296 (fun c' (hm : (N + 20 ≤ c' ∧ c' < N + 20 + 2) ∨ N + 22 ≤ c') => by show N ≤ c'; omega)
        refine st_val hS295 rfl rfl rfl (r_move hS295 rfl rfl) fun a297 hS297 => st_val hS297 rfl rfl rfl (r_extract hS297 rfl rfl rfl) fun a298 hS298 => st_val hS298 rfl rfl rfl (r_extract hS298 rfl rfl rfl) fun a299 hS299 => st_val hS299 rfl rfl rfl (r_assign hS299 rfl rfl) fun a300 hS300 => st_val hS300 rfl rfl rfl (r_assign hS300 rfl rfl) fun a301 hS301 => wpList_nil (hK _ _ ?_)
        replace hS : Sl 150 _ [(11, .slice A243 r241.1.length cap244), (12, .int .i64 r241.2), (13, .slice A259 r257.1.length cap260), (14, .int .i64 r257.2), (15, .slice A275 r273.1.length cap276), (16, .int .i64 r273.2), (17, .slice A291 r289.1.length cap292), (18, .int .i64 r289.2)] := hS301.re ⟨rfl, rfl, rfl, rfl, rfl, rfl, rfl, rfl, trivial⟩
        clear hK K
        try clear hS286 hS287 hS288 hS295 hS297 hS298 hS299 hS300 hS301
        obtain ⟨a, ha⟩ : ∃ a', a' = a301 := ⟨_, rfl⟩
        rw [← ha] at hS ⊢; clear ha
        obtain ⟨t327, ht328, H⟩ := bind_el H
        obtain ⟨t352, ht353, H⟩ := bind_el H
        obtain ⟨t375, ht376, H⟩ := bind_el H
        refine c_region (fun K hK => ?_)
        refine st_val hS rfl rfl rfl (r_move hS rfl rfl) fun a302 hS302 => st_val hS302 rfl rfl rfl (r_move hS302 rfl rfl) fun a303 hS303 => st_val hS303 rfl rfl rfl (r_bin hS303 rfl rfl rfl b_eql) fun a304 hS304 => st_val hS304 rfl rfl rfl (r_move hS304 rfl rfl) fun a305 hS305 => ?_
        refine g_join (N := 150) 4 [(11, .slice A243 r241.1.length cap244), (13, .slice A259 r257.1.length cap260), (15, .slice A275 r273.1.length cap276), (17, .slice A291 r289.1.length cap292), (136, .bool ((r241.2 == r257.2) && (r273.2 == r289.2)))] ?_ (fun hk => ?_)
        rotate_left
        · rcases Bool.eq_false_or_eq_true ((r241.2 == r257.2)) with hb306 | hb306
          · refine st_valW hS305 (want_on hS305 rfl rfl rfl hb306) rfl rfl (r_move hS305 rfl rfl) fun a310 hS310 => st_valW hS310 (want_on hS310 rfl rfl rfl hb306) rfl rfl (r_move hS310 rfl rfl) fun a311 hS311 => st_valW hS311 (want_on hS311 rfl rfl rfl hb306) rfl rfl (r_bin hS311 rfl rfl rfl b_eql) fun a312 hS312 => st_val hS312 rfl rfl rfl (r_pickT hS312 rfl rfl rfl hb306) fun a313 hS313 => hk _ (hS313.re ⟨rfl, rfl, rfl, rfl, (by rw [hb306]; rfl), trivial⟩)
          · refine st_off hS305 (want_off hS305 rfl rfl rfl hb306) rfl rfl fun a314 hS314 => st_off hS314 (want_off hS314 rfl rfl rfl hb306) rfl rfl fun a315 hS315 => st_off hS315 (want_off hS315 rfl rfl rfl hb306) rfl rfl fun a316 hS316 => st_val hS316 rfl rfl rfl (r_pickF hS316 rfl rfl rfl hb306) fun a317 hS317 => hk _ (hS317.re ⟨rfl, rfl, rfl, rfl, (by rw [hb306]; rfl), trivial⟩)
        intro a318 hS318
        refine st_val hS318 rfl rfl rfl (r_move hS318 rfl rfl) fun a319 hS319 => ?_
        refine g_joinR 4 (fun a w329 => ∃ (g329 : Nat → Nat), Sl 150 a [(15, .slice A275 r273.1.length cap276), (17, .slice A291 r289.1.length cap292), (141, .bool t327)] ∧ OwS (kint .i64) 3 w329 g329 (N + 18) A275 cap276 r273.1 ∧ OwS (kint .i64) 3 w329 g329 (N + 20) A291 cap292 r289.1 ∧ Fr (fun q => N ≤ q) w g w329 g329) ?_ (fun hk => ?_)
        rotate_left
        · rcases Bool.eq_false_or_eq_true (((r241.2 == r257.2) && (r273.2 == r289.2))) with hb320 | hb320
          · have H := ite_t hb320 ht328
            obtain ⟨r332, hr333, H⟩ := bind_el H
            have e336 := Option.some.inj H
            refine st_valW hS319 (want_on hS319 rfl rfl rfl hb320) rfl rfl (r_move hS319 rfl rfl) fun a330 hS330 => st_valW hS330 (want_on hS330 rfl rfl rfl hb320) rfl rfl (r_move hS330 rfl rfl) fun a331 hS331 => ?_
            refine st_enterW hS331 (want_on hS331 rfl rfl rfl hb320) rfl rfl (r_call hS331 rfl rfl (by kernel_rfl)) (help_Equal_int.calls (C0 := (fun q => q = N + 14)) (C1 := (fun q => q = N + 16)) (p0 := r241.1) (p1 := r257.1) (g := g296) (N + 22)  (OwD.rdf (fun _ _ _ _ _ _ h => h) h245) (fun q (hq : q = N + 14) => by omega) (OwD.rdf (fun _ _ _ _ _ _ h => h) h261) (fun q (hq : q = N + 16) => by omega) hr333) ?_
            rintro _ a334 w335 ⟨g335, rfl, F335⟩ hS334
            replace h245 := OwS.fr h245 F335 (fun c' hc (hm : N + 22 ≤ c') => by omega)
            replace h261 := OwS.fr h261 F335 (fun c' hc (hm : N + 22 ≤ c') => by omega)
            replace h277 := OwS.fr h277 F335 (fun c' hc (hm : N + 22 ≤ c') => by omega)
            replace h293 := OwS.fr h293 F335 (fun c' hc (hm : N + 22 ≤ c') => by omega)
            replace hF := hF.trans F335 (fun c' (hm : N + 22 ≤ c') => by show N ≤ c'; omega)
            refine st_val hS334 rfl rfl rfl (r_pickT hS334 rfl rfl rfl hb320) fun a337 hS337 => hk _ _ ?_
            exact ⟨g335, hS337.re ⟨rfl, rfl, (by rw [← e336]; rfl), trivial⟩, h277, h293, hF⟩
          · have H := ite_f hb320 ht328
            have e338 := Option.some.inj H
            refine st_off hS319 (want_off hS319 rfl rfl rfl hb320) rfl rfl fun a339 hS339 => st_off hS339 (want_off hS339 rfl rfl rfl hb320) rfl rfl fun a340 hS340 => st_off hS340 (want_off hS340 rfl rfl rfl hb320) rfl rfl fun a341 hS341 => st_val hS341 rfl rfl rfl (r_pickF hS341 rfl rfl rfl hb320) fun a342 hS342 => hk _ _ ?_
            exact ⟨g296, hS342.re ⟨rfl, rfl, (by rw [← e338]; rfl), trivial⟩, h277, h293, hF⟩
        rintro a343 w329 ⟨g329, hS343, h277, h293, hF⟩
        refine st_val hS343 rfl rfl rfl (r_move hS343 rfl rfl) fun a344 hS344 => ?_
        refine g_joinR 4 (fun a w354 => ∃ (g354 : Nat → Nat), Sl 150 a [(146, .bool t352)] ∧ Fr (fun q => N ≤ q) w g w354 g354) ?_ (fun hk => ?_)
        rotate_left
        · rcases Bool.eq_false_or_eq_true (t327) with hb345 | hb345
          · have H := ite_t hb345 ht353
            obtain ⟨r357, hr358, H⟩ := bind_el H
            have e361 := Option.some.inj H
            refine st_valW hS344 (want_on hS344 rfl rfl rfl hb345) rfl rfl (r_move hS344 rfl rfl) fun a355 hS355 => st_valW hS355 (want_on hS355 rfl rfl rfl hb345) rfl rfl (r_move hS355 rfl rfl) fun a356 hS356 => ?_
            refine st_enterW hS356 (want_on hS356 rfl rfl rfl hb345) rfl rfl (r_call hS356 rfl rfl (by kernel_rfl)) (help_Equal_int.calls (C0 := (fun q => q = N + 18)) (C1 := (fun q => q = N + 20)) (p0 := r273.1) (p1 := r289.1) (g := g329) (N + 22)  (OwD.rdf (fun _ _ _ _ _ _ h => h) h277) (fun q (hq : q = N + 18) => by omega) (OwD.rdf (fun _ _ _ _ _ _ h => h) h293) (fun q (hq : q = N + 20) => by omega) hr358) ?_
            rintro _ a359 w360 ⟨g360, rfl, F360⟩ hS359
            replace h277 := OwS.fr h277 F360 (fun c' hc (hm : N + 22 ≤ c') => by omega)
            replace h293 := OwS.fr h293 F360 (fun c' hc (hm : N + 22 ≤ c') => by omega)
            replace hF := hF.trans F360 (fun c' (hm : N + 22 ≤ c') => by show N ≤ c'; omega)
            refine st_val hS359 rfl rfl rfl (r_pickT hS359 rfl rfl rfl hb345) fun a362 hS362 => hk _ _ ?_
            exact ⟨g360, hS362.re ⟨(by rw [← e361]; rfl), trivial⟩, hF⟩
          · have H := ite_f hb345 ht353
            have e363 := Option.some.inj H
            refine st_off hS344 (want_off hS344 rfl rfl rfl hb345) rfl rfl fun a364 hS364 => st_off hS364 (want_off hS364 rfl rfl rfl hb345) rfl rfl fun a365 hS365 => st_off hS365 (want_off hS365 rfl rfl rfl hb345) rfl rfl fun a366 hS366 => st_val hS366 rfl rfl rfl (r_pickF hS366 rfl rfl rfl hb345) fun a367 hS367 => hk _ _ ?_
            exact ⟨g329, hS367.re ⟨(by rw [← e363]; rfl), trivial⟩, hF⟩
        rintro a368 w354 ⟨g354, hS368, hF⟩
        refine st_val hS368 rfl rfl rfl (r_move hS368 rfl rfl) fun a369 hS369 => ?_
        refine g_joinR 2 (fun a w377 => ∃ (g377 : Nat → Nat), Sl 150 a [(149, .bool t375)] ∧ Fr (fun q => N ≤ q) w g w377 g377) ?_ (fun hk => ?_)
        rotate_left
        · rcases Bool.eq_false_or_eq_true (t352) with hb370 | hb370
          · have H := ite_t hb370 ht376
            obtain ⟨r378, hr379, H⟩ := bind_el H
            have e382 := Option.some.inj H
            refine st_enterW hS369 (want_on hS369 rfl rfl rfl hb370) rfl rfl (r_call hS369 rfl rfl (by kernel_rfl)) (law24_awake.calls (g := g354) (N + 22)   hr379) ?_
            rintro _ a380 w381 ⟨g381, rfl, F381⟩ hS380
            replace hF := hF.trans F381 (fun c' (hm : N + 22 ≤ c') => by show N ≤ c'; omega)
            refine st_val hS380 rfl rfl rfl (r_pickT hS380 rfl rfl rfl hb370) fun a383 hS383 => hk _ _ ?_
            exact ⟨g381, hS383.re ⟨(by rw [← e382]; rfl), trivial⟩, hF⟩
          · have H := ite_f hb370 ht376
            have e384 := Option.some.inj H
            refine st_off hS369 (want_off hS369 rfl rfl rfl hb370) rfl rfl fun a385 hS385 => st_val hS385 rfl rfl rfl (r_pickF hS385 rfl rfl rfl hb370) fun a386 hS386 => hk _ _ ?_
            exact ⟨g354, hS386.re ⟨(by rw [← e384]; rfl), trivial⟩, hF⟩
        rintro a387 w377 ⟨g377, hS387, hF⟩
        refine st_val hS387 rfl rfl rfl (r_assign hS387 rfl rfl) fun a388 hS388 => wpList_nil (hK _ _ ?_)
        replace hS : Sl 150 _ [(6, .bool t375)] := hS388.re ⟨rfl, trivial⟩
        clear hK K
        try clear hS302 hS303 hS304 hS305 hS318 hS319 hS343 hS344 hS368 hS369 hS387 hS388
        obtain ⟨a, ha⟩ : ∃ a', a' = a388 := ⟨_, rfl⟩
        rw [← ha] at hS ⊢; clear ha
        refine wp_ret ?_
        have e := Option.some.inj H
        subst e
        repeat (with_reducible first | refine then_ret ?_ | refine inBlock_ret ?_)
        exact c_ret1 hS Try.results10 rfl ⟨_, rfl, g377, rfl, hF⟩

/-- What is left of law24_DepgraphClosuresAgree: about plain values alone. -/
def law24_DepgraphClosuresAgree.Pure : Prop := ∀ (p0 : Int) (p1 : List api_Link) (p2 : List Int), (Lit.int .i64 p0).wf = true → (p1.length ≤ maxLen ∧ ∀ p1' ∈ p1, Wf_api_Link p1') → (p2.length ≤ maxLen ∧ ∀ p2' ∈ p2, (Lit.int .i64 p2').wf = true) → law24_DepgraphClosuresAgree.f p0 p1 p2 = some true

end Go.Proofs.Ytphgandhncmaoaa.Sim
