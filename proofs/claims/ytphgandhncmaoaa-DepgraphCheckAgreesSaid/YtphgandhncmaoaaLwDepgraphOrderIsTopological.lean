/-
  Printed by a program of this session (wip/tools): plain functions with the same answers as the Go functions, and the proofs of it.
-/
import Derived.Test.YtphgandhncmaoaaFn
import Derived.Test.YtphgandhncmaoaaOp
namespace Go.Proofs.Ytphgandhncmaoaa.Sim
open Go
set_option linter.unusedVariables false
set_option linter.unusedSimpArgs false

/-! ### law24_DepgraphOrderIsTopological: function 4 -/
def law24_DepgraphOrderIsTopological.l2 (r13 : Int × (List api_Link)) (m0_0 : List Bool) (m1_1 : Int) : Nat → Bool → Int → Option (Bool)
  | 0, _, _ => none
  | k113 + 1, m2_0, m2_1 => if decide (m2_1 < (r13.2.length : Int)) = true then ((if m2_0 = true then (idx r13.2 m2_1).bind fun x124 => (if (x124.Consumer != m1_1) = true then some true else (idx m0_0 x124.Supplier).bind fun x139 => some x139).bind fun t143 => some t143 else some false).bind fun t168 => law24_DepgraphOrderIsTopological.l2 r13 m0_0 m1_1 k113 t168 (wi (m2_1 + 1))) else (some m2_0)
def law24_DepgraphOrderIsTopological.l1 (r13 : Int × (List api_Link)) (m0_0 : List Bool) : Nat → Int → Int → Option (Int)
  | 0, _, _ => none
  | k94 + 1, m1_0, m1_1 => if decide (0 ≤ m1_1) = true then (((idx m0_0 m1_1).bind fun x103 => (law24_DepgraphOrderIsTopological.l2 r13 m0_0 m1_1 FUEL (!x103) 0 : Option (Bool)).bind fun v109 => if v109 = true then (some m1_1) else (some m1_0) : Option (Int)).bind fun v98 => law24_DepgraphOrderIsTopological.l1 r13 m0_0 k94 v98 (wi (m1_1 - 1))) else (some m1_0)
def law24_DepgraphOrderIsTopological.l0 (r13 : Int × (List api_Link)) (r28 : (List Int) × Int) : Nat → (List Bool) → Int → Option (Fl (Bool) (Unit))
  | 0, _, _ => none
  | k78 + 1, m0_0, m0_1 => if decide (m0_1 < r13.1) = true then (((law24_DepgraphOrderIsTopological.l1 r13 m0_0 FUEL (-1) (wi (r13.1 - 1)) : Option (Int)).bind fun v88 => (if decide (v88 < 0) = true then some true else (idx r28.1 m0_1).bind fun x255 => some (x255 != v88)).bind fun t261 => if t261 = true then (some (.out (.out false))) else ((idx m0_0 v88).bind fun x286 => some (.nxt (upd m0_0 v88 true))) : Option (Fl (Fl (Bool) (Unit)) ((List Bool)))).bind fun o85 => o85.go fun v84 => law24_DepgraphOrderIsTopological.l0 r13 r28 k78 v84 (wi (m0_1 + 1))) else (some (.nxt ()))
def law24_DepgraphOrderIsTopological.f (p0 : Int) (p1 : List api_Link) : Option (Bool) := if decide (40 < (p1.length : Int)) = true then ((law24_awake.f ).bind fun r6 => some r6) else ((law24_Graph.f p0 p1 true).bind fun r13 => (depgraph_Order.f r13.1 r13.2).bind fun r28 => if ((r28.2 != 0) || ((r28.1.length : Int) != r13.1)) = true then (some false) else ((mk r13.1 false).bind fun y63 => (law24_DepgraphOrderIsTopological.l0 r13 r28 FUEL y63 0 : Option (Fl (Bool) (Unit))).bind fun o74 => o74.go fun _ => (law24_awake.f ).bind fun r294 => some r294))
set_option maxRecDepth 100000 in
set_option maxHeartbeats 4000000 in
theorem law24_DepgraphOrderIsTopological.calls {p0 : Int} {p1 : List api_Link} {A1 : Option Addr} {cap1 : Nat} {C1 : Nat → Prop} {w : World} {g : Nat → Nat} {out : Bool} (N : Nat) (hp1 : RdS kd_api_Link w g C1 A1 cap1 p1) (hC1 : ∀ c, C1 c → c < N) (H : law24_DepgraphOrderIsTopological.f p0 p1 = some out) :
    Calls Try.prog 4 #[.int .i64 p0, .slice A1 p1.length cap1] w (fun e w' => ∃ v, e = .returned v ∧ ∃ (g' : Nat → Nat), v = .bool out ∧ Fr (fun q => N ≤ q) w g w' g') := by
  unfold law24_DepgraphOrderIsTopological.f at H
  refine calls_enter Try.func4 rfl Try.ntmps4 rfl (fun a hS => ?_)
  replace hS : Sl 99 a [(0, .int .i64 p0), (1, .slice A1 p1.length cap1)] := hS
  have hF : Fr (fun q => N ≤ q) w g w g := Fr.refl _ _ _
  refine c_pure [(0, .int .i64 p0), (1, .slice A1 p1.length cap1)] (fun R hR => st_val hS rfl rfl rfl (r_assign hS rfl rfl) fun a1 hS1 => wpList_nil (hR _ (hS1.re ⟨rfl, rfl, trivial⟩))) ?_
  clear hS
  clear a
  intro a hS
  refine wp_seq ?_
  refine c_pure [(0, .int .i64 p0), (1, .slice A1 p1.length cap1), (17, .bool (decide (40 < (p1.length : Int))))] (fun R hR => st_val hS rfl rfl rfl (r_move hS rfl rfl) fun a2 hS2 => st_val hS2 rfl rfl rfl (r_len (e := 34) (sz := 2) (by_ := 16) hS2 rfl rfl (by kernel_rfl)) fun a3 hS3 => st_val hS3 rfl rfl rfl (r_bin hS3 rfl rfl rfl b_gtr) fun a4 hS4 => wpList_nil (hR _ (hS4.re ⟨rfl, rfl, rfl, trivial⟩))) ?_
  clear hS
  clear a
  intro a hS
  refine c_cond hS rfl (fun hb5 => ?_) (fun hb5 => ?_)
  · replace H := ite_t hb5 H
    obtain ⟨r6, hr7, H⟩ := bind_el H
    refine c_region (fun K hK => ?_)
    refine st_enter hS rfl rfl rfl (r_call hS rfl rfl (by kernel_rfl)) (law24_awake.calls (g := g) (N + 6)   hr7) ?_
    rintro _ a8 w9 ⟨g9, rfl, F9⟩ hS8
    replace hp1 := RdS.fr hp1 F9 (by decide) (fun q (hq : C1 q) (hm : N + 6 ≤ q) => by have := hC1 q hq; omega)
    replace hF := hF.trans F9 (fun c' (hm : N + 6 ≤ c') => by show N ≤ c'; omega)
    refine st_val hS8 rfl rfl rfl (r_assign hS8 rfl rfl) fun a10 hS10 => wpList_nil (hK _ _ ?_)
    replace hS : Sl 99 _ [(4, .bool r6)] := hS10.re ⟨rfl, trivial⟩
    clear hK K
    try clear hS8 hS10
    obtain ⟨a, ha⟩ : ∃ a', a' = a10 := ⟨_, rfl⟩
    rw [← ha] at hS ⊢; clear ha
    refine wp_ret ?_
    have e := Option.some.inj H
    subst e
    repeat (with_reducible first | refine then_ret ?_ | refine inBlock_ret ?_)
    exact c_ret1 hS Try.results4 rfl ⟨_, rfl, g9, rfl, hF⟩
  · replace H := ite_f hb5 H
    refine wp_skip ?_
    change Code.wp _ _ _ _ _
    obtain ⟨r13, hr14, H⟩ := bind_el H
    refine c_region (fun K hK => ?_)
    refine st_val hS rfl rfl rfl (r_move hS rfl rfl) fun a11 hS11 => st_val hS11 rfl rfl rfl (r_move hS11 rfl rfl) fun a12 hS12 => ?_
    refine st_enter hS12 rfl rfl rfl (r_call hS12 rfl rfl (by kernel_rfl)) (law24_Graph.calls (C1 := C1) (p0 := p0) (p1 := p1) (p2 := true) (g := g) (N + 6) (N + 0) hp1 (fun q (hq : C1 q) => by have := hC1 q hq; omega) (by omega) hr14) ?_
    rintro _ a19 w20 ⟨g20, A15, cap16, rfl, h17, F20⟩ hS19
    replace hp1 := RdS.fr hp1 F20 (by decide) (fun q (hq : C1 q) (hm : (N + 0 ≤ q ∧ q < N + 0 + 2) ∨ N + 6 ≤ q) => by have := hC1 q hq; omega)
    replace hF := hF.trans F20 (fun c' (hm : (N + 0 ≤ c' ∧ c' < N + 0 + 2) ∨ N + 6 ≤ c') => by show N ≤ c'; omega)
    refine st_val hS19 rfl rfl rfl (r_move hS19 rfl rfl) fun a21 hS21 => st_val hS21 rfl rfl rfl (r_extract hS21 rfl rfl rfl) fun a22 hS22 => st_val hS22 rfl rfl rfl (r_extract hS22 rfl rfl rfl) fun a23 hS23 => st_val hS23 rfl rfl rfl (r_assign hS23 rfl rfl) fun a24 hS24 => st_val hS24 rfl rfl rfl (r_assign hS24 rfl rfl) fun a25 hS25 => wpList_nil (hK _ _ ?_)
    replace hS : Sl 99 _ [(5, .int .i64 r13.1), (6, .slice A15 r13.2.length cap16)] := hS25.re ⟨rfl, rfl, trivial⟩
    clear hK K
    try clear hS11 hS12 hS19 hS21 hS22 hS23 hS24 hS25
    obtain ⟨a, ha⟩ : ∃ a', a' = a25 := ⟨_, rfl⟩
    rw [← ha] at hS ⊢; clear ha
    obtain ⟨r28, hr29, H⟩ := bind_el H
    refine c_region (fun K hK => ?_)
    refine st_val hS rfl rfl rfl (r_move hS rfl rfl) fun a26 hS26 => st_val hS26 rfl rfl rfl (r_move hS26 rfl rfl) fun a27 hS27 => ?_
    refine st_enter hS27 rfl rfl rfl (r_call hS27 rfl rfl (by kernel_rfl)) (depgraph_Order.calls (C1 := (fun q => q = N + 0)) (p0 := r13.1) (p1 := r13.2) (g := g20) (N + 6) (N + 2) (OwD.rdf (fun _ _ _ _ _ _ h => h) h17) (fun q (hq : q = N + 0) => by omega) (by omega) hr29) ?_
    rintro _ a34 w35 ⟨g35, A30, cap31, rfl, h32, F35⟩ hS34
    replace h17 := OwS.fr h17 F35 (fun c' hc (hm : (N + 2 ≤ c' ∧ c' < N + 2 + 2) ∨ N + 6 ≤ c') => by omega)
    replace hF := hF.trans F35 (fun c' (hm : (N + 2 ≤ c' ∧ c' < N + 2 + 2) ∨ N + 6 ≤ c') => by show N ≤ c'; omega)
    refine st_val hS34 rfl rfl rfl (r_move hS34 rfl rfl) fun a36 hS36 => st_val hS36 rfl rfl rfl (r_extract hS36 rfl rfl rfl) fun a37 hS37 => st_val hS37 rfl rfl rfl (r_extract hS37 rfl rfl rfl) fun a38 hS38 => st_val hS38 rfl rfl rfl (r_assign hS38 rfl rfl) fun a39 hS39 => st_val hS39 rfl rfl rfl (r_assign hS39 rfl rfl) fun a40 hS40 => wpList_nil (hK _ _ ?_)
    replace hS : Sl 99 _ [(5, .int .i64 r13.1), (6, .slice A15 r13.2.length cap16), (7, .slice A30 r28.1.length cap31), (8, .int .i64 r28.2)] := hS40.re ⟨rfl, rfl, rfl, rfl, trivial⟩
    clear hK K
    try clear hS26 hS27 hS34 hS36 hS37 hS38 hS39 hS40
    obtain ⟨a, ha⟩ : ∃ a', a' = a40 := ⟨_, rfl⟩
    rw [← ha] at hS ⊢; clear ha
    refine wp_seq ?_
    refine c_region (fun K hK => ?_)
    refine st_val hS rfl rfl rfl (r_move hS rfl rfl) fun a41 hS41 => st_val hS41 rfl rfl rfl (r_bin hS41 rfl rfl rfl b_neq) fun a42 hS42 => st_val hS42 rfl rfl rfl (r_move hS42 rfl rfl) fun a43 hS43 => ?_
    refine g_join (N := 99) 5 [(5, .int .i64 r13.1), (6, .slice A15 r13.2.length cap16), (7, .slice A30 r28.1.length cap31), (38, .bool ((r28.2 != 0) || ((r28.1.length : Int) != r13.1)))] ?_ (fun hk => ?_)
    rotate_left
    · rcases Bool.eq_false_or_eq_true ((r28.2 != 0)) with hb44 | hb44
      · refine st_off hS43 (want_off hS43 rfl rfl rfl hb44) rfl rfl fun a49 hS49 => st_off hS49 (want_off hS49 rfl rfl rfl hb44) rfl rfl fun a50 hS50 => st_off hS50 (want_off hS50 rfl rfl rfl hb44) rfl rfl fun a51 hS51 => st_off hS51 (want_off hS51 rfl rfl rfl hb44) rfl rfl fun a52 hS52 => st_val hS52 rfl rfl rfl (r_pickT hS52 rfl rfl rfl hb44) fun a53 hS53 => hk _ (hS53.re ⟨rfl, rfl, rfl, (by rw [hb44]; rfl), trivial⟩)
      · refine st_valW hS43 (want_on hS43 rfl rfl rfl hb44) rfl rfl (r_move hS43 rfl rfl) fun a54 hS54 => st_valW hS54 (want_on hS54 rfl rfl rfl hb44) rfl rfl (r_len (e := 3) (sz := 1) (by_ := 8) hS54 rfl rfl (by kernel_rfl)) fun a55 hS55 => st_valW hS55 (want_on hS55 rfl rfl rfl hb44) rfl rfl (r_move hS55 rfl rfl) fun a56 hS56 => st_valW hS56 (want_on hS56 rfl rfl rfl hb44) rfl rfl (r_bin hS56 rfl rfl rfl b_neq) fun a57 hS57 => st_val hS57 rfl rfl rfl (r_pickF hS57 rfl rfl rfl hb44) fun a58 hS58 => hk _ (hS58.re ⟨rfl, rfl, rfl, (by rw [hb44]; rfl), trivial⟩)
    intro a59 hS59
    refine wpList_nil (hK _ _ ?_)
    replace hS : Sl 99 _ [(5, .int .i64 r13.1), (6, .slice A15 r13.2.length cap16), (7, .slice A30 r28.1.length cap31), (38, .bool ((r28.2 != 0) || ((r28.1.length : Int) != r13.1)))] := hS59.re ⟨rfl, rfl, rfl, rfl, trivial⟩
    clear hK K
    try clear hS41 hS42 hS43 hS59
    obtain ⟨a, ha⟩ : ∃ a', a' = a59 := ⟨_, rfl⟩
    rw [← ha] at hS ⊢; clear ha
    refine c_cond hS rfl (fun hb60 => ?_) (fun hb60 => ?_)
    · replace H := ite_t hb60 H
      refine c_pure [(4, .bool false)] (fun R hR => st_val hS rfl rfl rfl (r_assign hS rfl rfl) fun a61 hS61 => wpList_nil (hR _ (hS61.re ⟨rfl, trivial⟩))) ?_
      clear hS
      clear a
      intro a hS
      refine wp_ret ?_
      have e := Option.some.inj H
      subst e
      repeat (with_reducible first | refine then_ret ?_ | refine inBlock_ret ?_)
      exact c_ret1 hS Try.results4 rfl ⟨_, rfl, g35, rfl, hF⟩
    · replace H := ite_f hb60 H
      refine wp_skip ?_
      change Code.wp _ _ _ _ _
      obtain ⟨y63, hy64, H⟩ := bind_el H
      refine c_region (fun K hK => ?_)
      refine st_val hS rfl rfl rfl (r_move hS rfl rfl) fun a62 hS62 => ?_
      refine st_eff hS62 rfl rfl rfl (e_make (e := 4) (sz := 1) (by_ := 1) (z := [.bool false]) (kd := kbool) (N + 4) g35 hS62 rfl rfl (by kernel_rfl) (by kernel_rfl) rfl rfl rfl (fun _ _ _ => rfl) hy64) ?_
      rintro _ a69 w70 g70 ⟨⟨A65, cap66, rfl, h67⟩, F70⟩ hS69
      replace h17 := OwS.fr h17 F70 (fun _ _ h => h)
      replace h32 := OwS.fr h32 F70 (fun _ _ h => h)
      replace hF := hF.trans F70 (fun _ h => h.elim)
      refine st_val hS69 rfl rfl rfl (r_assign hS69 rfl rfl) fun a71 hS71 => wpList_nil (hK _ _ ?_)
      replace hS : Sl 99 _ [(5, .int .i64 r13.1), (6, .slice A15 r13.2.length cap16), (7, .slice A30 r28.1.length cap31), (9, .slice A65 y63.length cap66)] := hS71.re ⟨rfl, rfl, rfl, rfl, trivial⟩
      clear hK K
      try clear hS62 hS69 hS71
      obtain ⟨a, ha⟩ : ∃ a', a' = a71 := ⟨_, rfl⟩
      rw [← ha] at hS ⊢; clear ha
      obtain ⟨o74, H, Hl75⟩ := bind_el H
      refine c_cut (fun a w72 => ∃ (g72 : Nat → Nat), o74 = .nxt () ∧ Sl 99 a [] ∧ Fr (fun q => N ≤ q) w g w72 g72) ?_ ?_
      · refine c_pure [(5, .int .i64 r13.1), (6, .slice A15 r13.2.length cap16), (7, .slice A30 r28.1.length cap31), (9, .slice A65 y63.length cap66), (10, .int .i64 0)] (fun R hR => st_val hS rfl rfl rfl (r_assign hS rfl rfl) fun a76 hS76 => wpList_nil (hR _ (hS76.re ⟨rfl, rfl, rfl, rfl, rfl, trivial⟩))) ?_
        clear hS
        clear a
        intro a hS
        refine wp_block ?_
        refine wp_loop_ghost (fun kq => fun a w77 => ∃ (m0_0 : List Bool), ∃ (m0_1 : Int), ∃ (g77 : Nat → Nat), law24_DepgraphOrderIsTopological.l0 r13 r28 kq m0_0 m0_1 = some o74 ∧ Sl 99 a [(5, .int .i64 r13.1), (6, .slice A15 r13.2.length cap16), (7, .slice A30 r28.1.length cap31), (9, .slice A65 m0_0.length cap66), (10, .int .i64 m0_1)] ∧ OwS kd_api_Link 34 w77 g77 (N + 0) A15 cap16 r13.2 ∧ OwS (kint .i64) 3 w77 g77 (N + 2) A30 cap31 r28.1 ∧ OwS kbool 4 w77 g77 (N + 4) A65 cap66 m0_0 ∧ Fr (fun q => N ≤ q) w g w77 g77) FUEL ?_ ?_
        · exact ⟨y63, 0, g70, H, hS.re ⟨rfl, rfl, rfl, rfl, rfl, trivial⟩, h17, h32, h67, hF⟩
        · clear H
          clear h17 h32 h67 hF
          clear hS
          rintro k78 a w77 ⟨m0_0, m0_1, g77, hpre0, hS, h17, h32, h67, hF⟩
          have H := hpre0
          clear hpre0
          cases k78 with
          | zero => exact absurd H (by simp [law24_DepgraphOrderIsTopological.l0])
          | succ k78 =>
            rw [law24_DepgraphOrderIsTopological.l0] at H
            refine wp_seq ?_
            refine c_pure [(5, .int .i64 r13.1), (6, .slice A15 r13.2.length cap16), (7, .slice A30 r28.1.length cap31), (9, .slice A65 m0_0.length cap66), (10, .int .i64 m0_1), (43, .bool (decide (m0_1 < r13.1)))] (fun R hR => st_val hS rfl rfl rfl (r_move hS rfl rfl) fun a79 hS79 => st_val hS79 rfl rfl rfl (r_move hS79 rfl rfl) fun a80 hS80 => st_val hS80 rfl rfl rfl (r_bin hS80 rfl rfl rfl b_lss) fun a81 hS81 => wpList_nil (hR _ (hS81.re ⟨rfl, rfl, rfl, rfl, rfl, rfl, trivial⟩))) ?_
            clear hS
            clear a
            intro a hS
            refine c_cond hS rfl (fun hb82 => ?_) (fun hb82 => ?_)
            · replace H := ite_t hb82 H
              refine wp_skip ?_
              change Code.wp _ _ _ _ _
              obtain ⟨o85, H, Hl86⟩ := bind_el H
              refine c_cut (fun a w83 => ∃ (v84 : (List Bool)), ∃ (g83 : Nat → Nat), o85 = .nxt v84 ∧ Sl 99 a [(5, .int .i64 r13.1), (6, .slice A15 r13.2.length cap16), (7, .slice A30 r28.1.length cap31), (9, .slice A65 v84.length cap66), (10, .int .i64 m0_1)] ∧ OwS kd_api_Link 34 w83 g83 (N + 0) A15 cap16 r13.2 ∧ OwS (kint .i64) 3 w83 g83 (N + 2) A30 cap31 r28.1 ∧ OwS kbool 4 w83 g83 (N + 4) A65 cap66 v84 ∧ Fr (fun q => N ≤ q) w g w83 g83) ?_ ?_
              · refine wp_block ?_
                refine c_pure [(5, .int .i64 r13.1), (6, .slice A15 r13.2.length cap16), (7, .slice A30 r28.1.length cap31), (9, .slice A65 m0_0.length cap66), (10, .int .i64 m0_1), (11, .int .i64 (-1))] (fun R hR => st_val hS rfl rfl rfl (r_assign hS rfl rfl) fun a87 hS87 => wpList_nil (hR _ (hS87.re ⟨rfl, rfl, rfl, rfl, rfl, rfl, trivial⟩))) ?_
                clear hS
                clear a
                intro a hS
                obtain ⟨v88, H, Hl90⟩ := bind_el H
                refine c_cut (fun a w' => w77 = w' ∧ Sl 99 a [(5, .int .i64 r13.1), (6, .slice A15 r13.2.length cap16), (7, .slice A30 r28.1.length cap31), (9, .slice A65 m0_0.length cap66), (10, .int .i64 m0_1), (11, .int .i64 v88)]) ?_ ?_
                · refine c_pure [(5, .int .i64 r13.1), (6, .slice A15 r13.2.length cap16), (7, .slice A30 r28.1.length cap31), (9, .slice A65 m0_0.length cap66), (10, .int .i64 m0_1), (11, .int .i64 (-1)), (12, .int .i64 (wi (r13.1 - 1)))] (fun R hR => st_val hS rfl rfl rfl (r_move hS rfl rfl) fun a91 hS91 => st_val hS91 rfl rfl rfl (r_bin hS91 rfl rfl rfl b_sub) fun a92 hS92 => st_val hS92 rfl rfl rfl (r_assign hS92 rfl rfl) fun a93 hS93 => wpList_nil (hR _ (hS93.re ⟨rfl, rfl, rfl, rfl, rfl, rfl, rfl, trivial⟩))) ?_
                  clear hS
                  clear a
                  intro a hS
                  refine wp_block ?_
                  refine wp_loop_ghost (fun kq => fun a w' => ∃ (m1_0 : Int), ∃ (m1_1 : Int), law24_DepgraphOrderIsTopological.l1 r13 m0_0 kq m1_0 m1_1 = some v88 ∧ w77 = w' ∧ Sl 99 a [(5, .int .i64 r13.1), (6, .slice A15 r13.2.length cap16), (7, .slice A30 r28.1.length cap31), (9, .slice A65 m0_0.length cap66), (10, .int .i64 m0_1), (11, .int .i64 m1_0), (12, .int .i64 m1_1)]) FUEL ?_ ?_
                  · exact ⟨(-1), wi (r13.1 - 1), H, rfl, hS.re ⟨rfl, rfl, rfl, rfl, rfl, rfl, rfl, trivial⟩⟩
                  · clear H
                    clear hS
                    rintro k94 a w' ⟨m1_0, m1_1, hpre0, hw, hS⟩
                    subst hw
                    have H := hpre0
                    clear hpre0
                    cases k94 with
                    | zero => exact absurd H (by simp [law24_DepgraphOrderIsTopological.l1])
                    | succ k94 =>
                      rw [law24_DepgraphOrderIsTopological.l1] at H
                      refine wp_seq ?_
                      refine c_pure [(5, .int .i64 r13.1), (6, .slice A15 r13.2.length cap16), (7, .slice A30 r28.1.length cap31), (9, .slice A65 m0_0.length cap66), (10, .int .i64 m0_1), (11, .int .i64 m1_0), (12, .int .i64 m1_1), (49, .bool (decide (0 ≤ m1_1)))] (fun R hR => st_val hS rfl rfl rfl (r_move hS rfl rfl) fun a95 hS95 => st_val hS95 rfl rfl rfl (r_bin hS95 rfl rfl rfl b_geq) fun a96 hS96 => wpList_nil (hR _ (hS96.re ⟨rfl, rfl, rfl, rfl, rfl, rfl, rfl, rfl, trivial⟩))) ?_
                      clear hS
                      clear a
                      intro a hS
                      refine c_cond hS rfl (fun hb97 => ?_) (fun hb97 => ?_)
                      · replace H := ite_t hb97 H
                        refine wp_skip ?_
                        change Code.wp _ _ _ _ _
                        obtain ⟨v98, H, Hl100⟩ := bind_el H
                        refine c_cut (fun a w' => w77 = w' ∧ Sl 99 a [(5, .int .i64 r13.1), (6, .slice A15 r13.2.length cap16), (7, .slice A30 r28.1.length cap31), (9, .slice A65 m0_0.length cap66), (10, .int .i64 m0_1), (11, .int .i64 v98), (12, .int .i64 m1_1)]) ?_ ?_
                        · refine wp_block ?_
                          obtain ⟨x103, hx104, H⟩ := bind_el H
                          refine c_pure [(5, .int .i64 r13.1), (6, .slice A15 r13.2.length cap16), (7, .slice A30 r28.1.length cap31), (9, .slice A65 m0_0.length cap66), (10, .int .i64 m0_1), (11, .int .i64 m1_0), (12, .int .i64 m1_1), (13, .bool (!x103))] (fun R hR => st_val hS rfl rfl rfl (r_move hS rfl rfl) fun a101 hS101 => st_val hS101 rfl rfl rfl (r_move hS101 rfl rfl) fun a102 hS102 => st_val hS102 rfl rfl rfl (r_index (e := 4) (sz := 1) (by_ := 1) hS102 rfl rfl rfl (by kernel_rfl) (RdS.some_ (OwS.rd h67) hx104) (idx_lo hx104) (idx_hi hx104)) fun a105 hS105 => st_val hS105 rfl rfl rfl (r_load1 (n := 1) hS105 rfl rfl (by kernel_rfl) (RdS.cell (i := m1_1) (sz := 1) (j := 0) (OwS.rd h67) hx104 rfl)) fun a106 hS106 => st_val hS106 rfl rfl rfl (r_not hS106 rfl rfl) fun a107 hS107 => st_val hS107 rfl rfl rfl (r_assign hS107 rfl rfl) fun a108 hS108 => wpList_nil (hR _ (hS108.re ⟨rfl, rfl, rfl, rfl, rfl, rfl, rfl, rfl, trivial⟩))) ?_
                          clear hS
                          clear a
                          intro a hS
                          obtain ⟨v109, H, Hl111⟩ := bind_el H
                          refine c_cut (fun a w' => w77 = w' ∧ Sl 99 a [(5, .int .i64 r13.1), (6, .slice A15 r13.2.length cap16), (7, .slice A30 r28.1.length cap31), (9, .slice A65 m0_0.length cap66), (10, .int .i64 m0_1), (11, .int .i64 m1_0), (12, .int .i64 m1_1), (13, .bool v109)]) ?_ ?_
                          · refine c_pure [(5, .int .i64 r13.1), (6, .slice A15 r13.2.length cap16), (7, .slice A30 r28.1.length cap31), (9, .slice A65 m0_0.length cap66), (10, .int .i64 m0_1), (11, .int .i64 m1_0), (12, .int .i64 m1_1), (13, .bool (!x103)), (14, .int .i64 0)] (fun R hR => st_val hS rfl rfl rfl (r_assign hS rfl rfl) fun a112 hS112 => wpList_nil (hR _ (hS112.re ⟨rfl, rfl, rfl, rfl, rfl, rfl, rfl, rfl, rfl, trivial⟩))) ?_
                            clear hS
                            clear a
                            intro a hS
                            refine wp_block ?_
                            refine wp_loop_ghost (fun kq => fun a w' => ∃ (m2_0 : Bool), ∃ (m2_1 : Int), law24_DepgraphOrderIsTopological.l2 r13 m0_0 m1_1 kq m2_0 m2_1 = some v109 ∧ w77 = w' ∧ Sl 99 a [(5, .int .i64 r13.1), (6, .slice A15 r13.2.length cap16), (7, .slice A30 r28.1.length cap31), (9, .slice A65 m0_0.length cap66), (10, .int .i64 m0_1), (11, .int .i64 m1_0), (12, .int .i64 m1_1), (13, .bool m2_0), (14, .int .i64 m2_1)]) FUEL ?_ ?_
                            · exact ⟨(!x103), 0, H, rfl, hS.re ⟨rfl, rfl, rfl, rfl, rfl, rfl, rfl, rfl, rfl, trivial⟩⟩
                            · clear H
                              clear hS
                              rintro k113 a w' ⟨m2_0, m2_1, hpre0, hw, hS⟩
                              subst hw
                              have H := hpre0
                              clear hpre0
                              cases k113 with
                              | zero => exact absurd H (by simp [law24_DepgraphOrderIsTopological.l2])
                              | succ k113 =>
                                rw [law24_DepgraphOrderIsTopological.l2] at H
                                refine wp_seq ?_
                                refine c_pure [(5, .int .i64 r13.1), (6, .slice A15 r13.2.length cap16), (7, .slice A30 r28.1.length cap31), (9, .slice A65 m0_0.length cap66), (10, .int .i64 m0_1), (11, .int .i64 m1_0), (12, .int .i64 m1_1), (13, .bool m2_0), (14, .int .i64 m2_1), (60, .bool (decide (m2_1 < (r13.2.length : Int))))] (fun R hR => st_val hS rfl rfl rfl (r_move hS rfl rfl) fun a114 hS114 => st_val hS114 rfl rfl rfl (r_move hS114 rfl rfl) fun a115 hS115 => st_val hS115 rfl rfl rfl (r_len (e := 34) (sz := 2) (by_ := 16) hS115 rfl rfl (by kernel_rfl)) fun a116 hS116 => st_val hS116 rfl rfl rfl (r_bin hS116 rfl rfl rfl b_lss) fun a117 hS117 => wpList_nil (hR _ (hS117.re ⟨rfl, rfl, rfl, rfl, rfl, rfl, rfl, rfl, rfl, rfl, trivial⟩))) ?_
                                clear hS
                                clear a
                                intro a hS
                                refine c_cond hS rfl (fun hb118 => ?_) (fun hb118 => ?_)
                                · replace H := ite_t hb118 H
                                  refine wp_skip ?_
                                  change Code.wp _ _ _ _ _
                                  refine wp_seq ?_
                                  refine wp_block ?_
                                  obtain ⟨t168, ht169, H⟩ := bind_el H
                                  refine c_region1 (fun K hK => ?_)
                                  refine st_val hS rfl rfl rfl (r_move hS rfl rfl) fun a119 hS119 => st_val hS119 rfl rfl rfl (r_move hS119 rfl rfl) fun a120 hS120 => ?_
                                  refine g_join (N := 99) 18 [(5, .int .i64 r13.1), (6, .slice A15 r13.2.length cap16), (7, .slice A30 r28.1.length cap31), (9, .slice A65 m0_0.length cap66), (10, .int .i64 m0_1), (11, .int .i64 m1_0), (12, .int .i64 m1_1), (13, .bool m2_0), (14, .int .i64 m2_1), (82, .bool t168)] ?_ (fun hk => ?_)
                                  rotate_left
                                  · rcases Bool.eq_false_or_eq_true (m2_0) with hb121 | hb121
                                    · have H := ite_t hb121 ht169
                                      obtain ⟨x172, hx173, H⟩ := bind_el H
                                      obtain ⟨t191, ht192, H⟩ := bind_el H
                                      have e216 := Option.some.inj H
                                      refine st_valW hS120 (want_on hS120 rfl rfl rfl hb121) rfl rfl (r_move hS120 rfl rfl) fun a170 hS170 => st_valW hS170 (want_on hS170 rfl rfl rfl hb121) rfl rfl (r_move hS170 rfl rfl) fun a171 hS171 => st_valW hS171 (want_on hS171 rfl rfl rfl hb121) rfl rfl (r_index (e := 34) (sz := 2) (by_ := 16) hS171 rfl rfl rfl (by kernel_rfl) (RdS.some_ (OwS.rd h17) hx173) (idx_lo hx173) (idx_hi hx173)) fun a174 hS174 => st_valW hS174 (want_on hS174 rfl rfl rfl hb121) rfl rfl (r_fieldE (off := 0) hS174 rfl rfl (by kernel_rfl)) fun a175 hS175 => st_valW hS175 (want_on hS175 rfl rfl rfl hb121) rfl rfl (r_load1 (n := 1) hS175 rfl rfl (by kernel_rfl) (RdS.cell (i := m2_1) (sz := 2) (j := 0) (OwS.rd h17) hx173 rfl)) fun a176 hS176 => st_valW hS176 (want_on hS176 rfl rfl rfl hb121) rfl rfl (r_move hS176 rfl rfl) fun a177 hS177 => st_valW hS177 (want_on hS177 rfl rfl rfl hb121) rfl rfl (r_bin hS177 rfl rfl rfl b_neq) fun a178 hS178 => st_valW hS178 (want_on hS178 rfl rfl rfl hb121) rfl rfl (r_move hS178 rfl rfl) fun a179 hS179 => ?_
                                      refine g_join (N := 99) 9 [(5, .int .i64 r13.1), (6, .slice A15 r13.2.length cap16), (7, .slice A30 r28.1.length cap31), (9, .slice A65 m0_0.length cap66), (10, .int .i64 m0_1), (11, .int .i64 m1_0), (12, .int .i64 m1_1), (13, .bool m2_0), (14, .int .i64 m2_1), (64, .bool m2_0), (65, .slice A15 r13.2.length cap16), (66, .int .i64 m2_1), (67, .pointer (some (ea A15 (m2_1.toNat * 2)))), (68, .pointer (some (ea A15 (m2_1.toNat * 2 + 0)))), (69, .int .i64 x172.Consumer), (70, .int .i64 m1_1), (71, .bool (x172.Consumer != m1_1)), (72, .bool (x172.Consumer != m1_1)), (81, .bool t191)] ?_ (fun hk => ?_)
                                      rotate_left
                                      · rcases Bool.eq_false_or_eq_true ((x172.Consumer != m1_1)) with hb180 | hb180
                                        · have H := ite_t hb180 ht192
                                          have e193 := Option.some.inj H
                                          refine st_off hS179 (want_off hS179 rfl rfl rfl hb180) rfl rfl fun a194 hS194 => st_off hS194 (want_off hS194 rfl rfl rfl hb180) rfl rfl fun a195 hS195 => st_off hS195 (want_off hS195 rfl rfl rfl hb180) rfl rfl fun a196 hS196 => st_off hS196 (want_off hS196 rfl rfl rfl hb180) rfl rfl fun a197 hS197 => st_off hS197 (want_off hS197 rfl rfl rfl hb180) rfl rfl fun a198 hS198 => st_off hS198 (want_off hS198 rfl rfl rfl hb180) rfl rfl fun a199 hS199 => st_off hS199 (want_off hS199 rfl rfl rfl hb180) rfl rfl fun a200 hS200 => st_off hS200 (want_off hS200 rfl rfl rfl hb180) rfl rfl fun a201 hS201 => st_valW hS201 (want_on hS201 rfl rfl rfl hb121) rfl rfl (r_pickT hS201 rfl rfl rfl hb180) fun a202 hS202 => hk _ (hS202.re ⟨rfl, rfl, rfl, rfl, rfl, rfl, rfl, rfl, rfl, rfl, rfl, rfl, rfl, rfl, rfl, rfl, rfl, rfl, (by rw [← e193]; rfl), trivial⟩)
                                        · have H := ite_f hb180 ht192
                                          obtain ⟨x209, hx210, H⟩ := bind_el H
                                          have e213 := Option.some.inj H
                                          refine st_valW hS179 (want_on hS179 rfl rfl rfl hb180) rfl rfl (r_move hS179 rfl rfl) fun a203 hS203 => st_valW hS203 (want_on hS203 rfl rfl rfl hb180) rfl rfl (r_move hS203 rfl rfl) fun a204 hS204 => st_valW hS204 (want_on hS204 rfl rfl rfl hb180) rfl rfl (r_move hS204 rfl rfl) fun a205 hS205 => st_valW hS205 (want_on hS205 rfl rfl rfl hb180) rfl rfl (r_index (e := 34) (sz := 2) (by_ := 16) hS205 rfl rfl rfl (by kernel_rfl) (RdS.some_ (OwS.rd h17) hx173) (idx_lo hx173) (idx_hi hx173)) fun a206 hS206 => st_valW hS206 (want_on hS206 rfl rfl rfl hb180) rfl rfl (r_fieldE (off := 1) hS206 rfl rfl (by kernel_rfl)) fun a207 hS207 => st_valW hS207 (want_on hS207 rfl rfl rfl hb180) rfl rfl (r_load1 (n := 1) hS207 rfl rfl (by kernel_rfl) (RdS.cell (i := m2_1) (sz := 2) (j := 1) (OwS.rd h17) hx173 rfl)) fun a208 hS208 => st_valW hS208 (want_on hS208 rfl rfl rfl hb180) rfl rfl (r_index (e := 4) (sz := 1) (by_ := 1) hS208 rfl rfl rfl (by kernel_rfl) (RdS.some_ (OwS.rd h67) hx210) (idx_lo hx210) (idx_hi hx210)) fun a211 hS211 => st_valW hS211 (want_on hS211 rfl rfl rfl hb180) rfl rfl (r_load1 (n := 1) hS211 rfl rfl (by kernel_rfl) (RdS.cell (i := x172.Supplier) (sz := 1) (j := 0) (OwS.rd h67) hx210 rfl)) fun a212 hS212 => st_valW hS212 (want_on hS212 rfl rfl rfl hb121) rfl rfl (r_pickF hS212 rfl rfl rfl hb180) fun a214 hS214 => hk _ (hS214.re ⟨rfl, rfl, rfl, rfl, rfl, rfl, rfl, rfl, rfl, rfl, rfl, rfl, rfl, rfl, rfl, rfl, rfl, rfl, (by rw [← e213]; rfl), trivial⟩)
                                      intro a215 hS215
                                      refine st_val hS215 rfl rfl rfl (r_pickT hS215 rfl rfl rfl hb121) fun a217 hS217 => hk _ (hS217.re ⟨rfl, rfl, rfl, rfl, rfl, rfl, rfl, rfl, rfl, (by rw [← e216]; rfl), trivial⟩)
                                    · have H := ite_f hb121 ht169
                                      have e218 := Option.some.inj H
                                      refine st_off hS120 (want_off hS120 rfl rfl rfl hb121) rfl rfl fun a219 hS219 => st_off hS219 (want_off hS219 rfl rfl rfl hb121) rfl rfl fun a220 hS220 => st_off hS220 (want_off hS220 rfl rfl rfl hb121) rfl rfl fun a221 hS221 => st_off hS221 (want_off hS221 rfl rfl rfl hb121) rfl rfl fun a222 hS222 => st_off hS222 (want_off hS222 rfl rfl rfl hb121) rfl rfl fun a223 hS223 => st_off hS223 (want_off hS223 rfl rfl rfl hb121) rfl rfl fun a224 hS224 => st_off hS224 (want_off hS224 rfl rfl rfl hb121) rfl rfl fun a225 hS225 => st_off hS225 (want_off hS225 rfl rfl rfl hb121) rfl rfl fun a226 hS226 => st_off hS226 (want_un hS226 rfl rfl rfl) rfl rfl fun a227 hS227 => st_off hS227 (want_un hS227 rfl rfl rfl) rfl rfl fun a228 hS228 => st_off hS228 (want_un hS228 rfl rfl rfl) rfl rfl fun a229 hS229 => st_off hS229 (want_un hS229 rfl rfl rfl) rfl rfl fun a230 hS230 => st_off hS230 (want_un hS230 rfl rfl rfl) rfl rfl fun a231 hS231 => st_off hS231 (want_un hS231 rfl rfl rfl) rfl rfl fun a232 hS232 => st_off hS232 (want_un hS232 rfl rfl rfl) rfl rfl fun a233 hS233 => st_off hS233 (want_un hS233 rfl rfl rfl) rfl rfl fun a234 hS234 => st_off hS234 (want_off hS234 rfl rfl rfl hb121) rfl rfl fun a235 hS235 => st_val hS235 rfl rfl rfl (r_pickF hS235 rfl rfl rfl hb121) fun a236 hS236 => hk _ (hS236.re ⟨rfl, rfl, rfl, rfl, rfl, rfl, rfl, rfl, rfl, (by rw [← e218]; rfl), trivial⟩)
                                  intro a237 hS237
                                  refine st_val hS237 rfl rfl rfl (r_assign hS237 rfl rfl) fun a238 hS238 => wpList_nil (hK _ _ ?_)
                                  replace hS : Sl 99 _ [(5, .int .i64 r13.1), (6, .slice A15 r13.2.length cap16), (7, .slice A30 r28.1.length cap31), (9, .slice A65 m0_0.length cap66), (10, .int .i64 m0_1), (11, .int .i64 m1_0), (12, .int .i64 m1_1), (13, .bool t168), (14, .int .i64 m2_1)] := hS238.re ⟨rfl, rfl, rfl, rfl, rfl, rfl, rfl, rfl, rfl, trivial⟩
                                  clear hK K
                                  try clear hS119 hS120 hS237 hS238
                                  obtain ⟨a, ha⟩ : ∃ a', a' = a238 := ⟨_, rfl⟩
                                  rw [← ha] at hS ⊢; clear ha
                                  change Code.wp _ _ _ _ _
                                  refine c_pure1 [(5, .int .i64 r13.1), (6, .slice A15 r13.2.length cap16), (7, .slice A30 r28.1.length cap31), (9, .slice A65 m0_0.length cap66), (10, .int .i64 m0_1), (11, .int .i64 m1_0), (12, .int .i64 m1_1), (13, .bool t168), (14, .int .i64 (wi (m2_1 + 1)))] (fun R hR => st_val hS rfl rfl rfl (r_move hS rfl rfl) fun a239 hS239 => st_val hS239 rfl rfl rfl (r_bin hS239 rfl rfl rfl b_add) fun a240 hS240 => st_val hS240 rfl rfl rfl (r_assign hS240 rfl rfl) fun a241 hS241 => wpList_nil (hR _ (hS241.re ⟨rfl, rfl, rfl, rfl, rfl, rfl, rfl, rfl, rfl, trivial⟩))) ?_
                                  clear hS
                                  clear a
                                  intro a hS
                                  refine ⟨k113, Nat.lt_succ_self _, ?_⟩
                                  exact ⟨t168, wi (m2_1 + 1), H, rfl, hS.re ⟨rfl, rfl, rfl, rfl, rfl, rfl, rfl, rfl, rfl, trivial⟩⟩
                                · replace H := ite_f hb118 H
                                  refine wp_exit ?_
                                  have e := Option.some.inj H
                                  subst e
                                  exact ⟨rfl, hS.re ⟨rfl, rfl, rfl, rfl, rfl, rfl, rfl, rfl, trivial⟩⟩
                          · clear H
                            clear hS
                            rintro a w' ⟨hw, hS⟩
                            subst hw
                            have H := Hl111
                            clear Hl111
                            refine c_pure [(5, .int .i64 r13.1), (6, .slice A15 r13.2.length cap16), (7, .slice A30 r28.1.length cap31), (9, .slice A65 m0_0.length cap66), (10, .int .i64 m0_1), (11, .int .i64 m1_0), (12, .int .i64 m1_1), (83, .bool v109)] (fun R hR => st_val hS rfl rfl rfl (r_move hS rfl rfl) fun a242 hS242 => wpList_nil (hR _ (hS242.re ⟨rfl, rfl, rfl, rfl, rfl, rfl, rfl, rfl, trivial⟩))) ?_
                            clear hS
                            clear a
                            intro a hS
                            refine c_cond hS rfl (fun hb243 => ?_) (fun hb243 => ?_)
                            · replace H := ite_t hb243 H
                              refine c_pure1 [(5, .int .i64 r13.1), (6, .slice A15 r13.2.length cap16), (7, .slice A30 r28.1.length cap31), (9, .slice A65 m0_0.length cap66), (10, .int .i64 m0_1), (11, .int .i64 m1_1), (12, .int .i64 m1_1)] (fun R hR => st_val hS rfl rfl rfl (r_move hS rfl rfl) fun a244 hS244 => st_val hS244 rfl rfl rfl (r_assign hS244 rfl rfl) fun a245 hS245 => wpList_nil (hR _ (hS245.re ⟨rfl, rfl, rfl, rfl, rfl, rfl, rfl, trivial⟩))) ?_
                              clear hS
                              clear a
                              intro a hS
                              have e := Option.some.inj H
                              subst e
                              exact ⟨rfl, hS.re ⟨rfl, rfl, rfl, rfl, rfl, rfl, rfl, trivial⟩⟩
                            · replace H := ite_f hb243 H
                              refine wp_skip ?_
                              have e := Option.some.inj H
                              subst e
                              exact ⟨rfl, hS.re ⟨rfl, rfl, rfl, rfl, rfl, rfl, rfl, trivial⟩⟩
                        · clear H
                          clear hS
                          rintro a w' ⟨hw, hS⟩
                          subst hw
                          have H := Hl100
                          clear Hl100
                          refine c_pure1 [(5, .int .i64 r13.1), (6, .slice A15 r13.2.length cap16), (7, .slice A30 r28.1.length cap31), (9, .slice A65 m0_0.length cap66), (10, .int .i64 m0_1), (11, .int .i64 v98), (12, .int .i64 (wi (m1_1 - 1)))] (fun R hR => st_val hS rfl rfl rfl (r_move hS rfl rfl) fun a246 hS246 => st_val hS246 rfl rfl rfl (r_bin hS246 rfl rfl rfl b_sub) fun a247 hS247 => st_val hS247 rfl rfl rfl (r_assign hS247 rfl rfl) fun a248 hS248 => wpList_nil (hR _ (hS248.re ⟨rfl, rfl, rfl, rfl, rfl, rfl, rfl, trivial⟩))) ?_
                          clear hS
                          clear a
                          intro a hS
                          refine ⟨k94, Nat.lt_succ_self _, ?_⟩
                          exact ⟨v98, wi (m1_1 - 1), H, rfl, hS.re ⟨rfl, rfl, rfl, rfl, rfl, rfl, rfl, trivial⟩⟩
                      · replace H := ite_f hb97 H
                        refine wp_exit ?_
                        have e := Option.some.inj H
                        subst e
                        exact ⟨rfl, hS.re ⟨rfl, rfl, rfl, rfl, rfl, rfl, trivial⟩⟩
                · clear H
                  clear hS
                  rintro a w' ⟨hw, hS⟩
                  subst hw
                  have H := Hl90
                  clear Hl90
                  refine wp_seq ?_
                  obtain ⟨t261, ht262, H⟩ := bind_el H
                  refine c_region (fun K hK => ?_)
                  refine st_val hS rfl rfl rfl (r_move hS rfl rfl) fun a249 hS249 => st_val hS249 rfl rfl rfl (r_bin hS249 rfl rfl rfl b_lss) fun a250 hS250 => st_val hS250 rfl rfl rfl (r_move hS250 rfl rfl) fun a251 hS251 => ?_
                  refine g_join (N := 99) 7 [(5, .int .i64 r13.1), (6, .slice A15 r13.2.length cap16), (7, .slice A30 r28.1.length cap31), (9, .slice A65 m0_0.length cap66), (10, .int .i64 m0_1), (11, .int .i64 v88), (94, .bool t261)] ?_ (fun hk => ?_)
                  rotate_left
                  · rcases Bool.eq_false_or_eq_true (decide (v88 < 0)) with hb252 | hb252
                    · have H := ite_t hb252 ht262
                      have e263 := Option.some.inj H
                      refine st_off hS251 (want_off hS251 rfl rfl rfl hb252) rfl rfl fun a264 hS264 => st_off hS264 (want_off hS264 rfl rfl rfl hb252) rfl rfl fun a265 hS265 => st_off hS265 (want_off hS265 rfl rfl rfl hb252) rfl rfl fun a266 hS266 => st_off hS266 (want_off hS266 rfl rfl rfl hb252) rfl rfl fun a267 hS267 => st_off hS267 (want_off hS267 rfl rfl rfl hb252) rfl rfl fun a268 hS268 => st_off hS268 (want_off hS268 rfl rfl rfl hb252) rfl rfl fun a269 hS269 => st_val hS269 rfl rfl rfl (r_pickT hS269 rfl rfl rfl hb252) fun a270 hS270 => hk _ (hS270.re ⟨rfl, rfl, rfl, rfl, rfl, rfl, (by rw [← e263]; rfl), trivial⟩)
                    · have H := ite_f hb252 ht262
                      obtain ⟨x273, hx274, H⟩ := bind_el H
                      have e279 := Option.some.inj H
                      refine st_valW hS251 (want_on hS251 rfl rfl rfl hb252) rfl rfl (r_move hS251 rfl rfl) fun a271 hS271 => st_valW hS271 (want_on hS271 rfl rfl rfl hb252) rfl rfl (r_move hS271 rfl rfl) fun a272 hS272 => st_valW hS272 (want_on hS272 rfl rfl rfl hb252) rfl rfl (r_index (e := 3) (sz := 1) (by_ := 8) hS272 rfl rfl rfl (by kernel_rfl) (RdS.some_ (OwS.rd h32) hx274) (idx_lo hx274) (idx_hi hx274)) fun a275 hS275 => st_valW hS275 (want_on hS275 rfl rfl rfl hb252) rfl rfl (r_load1 (n := 1) hS275 rfl rfl (by kernel_rfl) (RdS.cell (i := m0_1) (sz := 1) (j := 0) (OwS.rd h32) hx274 rfl)) fun a276 hS276 => st_valW hS276 (want_on hS276 rfl rfl rfl hb252) rfl rfl (r_move hS276 rfl rfl) fun a277 hS277 => st_valW hS277 (want_on hS277 rfl rfl rfl hb252) rfl rfl (r_bin hS277 rfl rfl rfl b_neq) fun a278 hS278 => st_val hS278 rfl rfl rfl (r_pickF hS278 rfl rfl rfl hb252) fun a280 hS280 => hk _ (hS280.re ⟨rfl, rfl, rfl, rfl, rfl, rfl, (by rw [← e279]; rfl), trivial⟩)
                  intro a281 hS281
                  refine wpList_nil (hK _ _ ?_)
                  replace hS : Sl 99 _ [(5, .int .i64 r13.1), (6, .slice A15 r13.2.length cap16), (7, .slice A30 r28.1.length cap31), (9, .slice A65 m0_0.length cap66), (10, .int .i64 m0_1), (11, .int .i64 v88), (94, .bool t261)] := hS281.re ⟨rfl, rfl, rfl, rfl, rfl, rfl, rfl, trivial⟩
                  clear hK K
                  try clear hS249 hS250 hS251 hS281
                  obtain ⟨a, ha⟩ : ∃ a', a' = a281 := ⟨_, rfl⟩
                  rw [← ha] at hS ⊢; clear ha
                  refine c_cond hS rfl (fun hb282 => ?_) (fun hb282 => ?_)
                  · replace H := ite_t hb282 H
                    refine c_pure [(4, .bool false)] (fun R hR => st_val hS rfl rfl rfl (r_assign hS rfl rfl) fun a283 hS283 => wpList_nil (hR _ (hS283.re ⟨rfl, trivial⟩))) ?_
                    clear hS
                    clear a
                    intro a hS
                    refine wp_ret ?_
                    have e := Option.some.inj H
                    subst e
                    replace H := Fl.go_out Hl86
                    have e := Option.some.inj H
                    subst e
                    replace H := Fl.go_out Hl75
                    have e := Option.some.inj H
                    subst e
                    repeat (with_reducible first | refine then_ret ?_ | refine inBlock_ret ?_)
                    exact c_ret1 hS Try.results4 rfl ⟨_, rfl, g77, rfl, hF⟩
                  · replace H := ite_f hb282 H
                    refine wp_skip ?_
                    change Code.wp _ _ _ _ _
                    obtain ⟨x286, hx287, H⟩ := bind_el H
                    refine c_region1 (fun K hK => ?_)
                    refine st_val hS rfl rfl rfl (r_move hS rfl rfl) fun a284 hS284 => st_val hS284 rfl rfl rfl (r_move hS284 rfl rfl) fun a285 hS285 => st_val hS285 rfl rfl rfl (r_index (e := 4) (sz := 1) (by_ := 1) hS285 rfl rfl rfl (by kernel_rfl) (RdS.some_ (OwS.rd h67) hx287) (idx_lo hx287) (idx_hi hx287)) fun a288 hS288 => ?_
                    refine st_effS hS288 rfl rfl (e_storeE (n := 1) (bb := false) (kd := kbool) (j := 0) (x' := true) (us := [.bool true]) g77 hS288 rfl rfl rfl rfl (by kernel_rfl) rfl rfl (by intro v hv; simp only [List.mem_cons, List.not_mem_nil, or_false] at hv; rcases hv with rfl <;> rfl) h67 hx287 rfl (fun _ _ cs hR => by rw [show cs = _ from hR]; rfl)) ?_
                    rintro a289 w290 g290 ⟨h67, F290⟩ hS289
                    replace h17 := OwS.fr h17 F290 (fun c' hc (hm : c' = N + 4) => by omega)
                    replace h32 := OwS.fr h32 F290 (fun c' hc (hm : c' = N + 4) => by omega)
                    replace hF := hF.trans F290 (fun c' (hm : c' = N + 4) => by show N ≤ c'; omega)
                    have hT : Sl 99 a289 [(5, .int .i64 r13.1), (6, .slice A15 r13.2.length cap16), (7, .slice A30 r28.1.length cap31), (9, .slice A65 m0_0.length cap66), (10, .int .i64 m0_1)] := hS289.re ⟨rfl, rfl, rfl, rfl, rfl, trivial⟩
                    replace hS289 : Sl 99 a289 [(5, .int .i64 r13.1), (6, .slice A15 r13.2.length cap16), (7, .slice A30 r28.1.length cap31), (9, .slice A65 (upd m0_0 v88 true).length cap66), (10, .int .i64 m0_1)] := by simpa only [upd_length] using hT
                    clear hT
                    refine wpList_nil (hK _ _ ?_)
                    replace hS : Sl 99 _ [(5, .int .i64 r13.1), (6, .slice A15 r13.2.length cap16), (7, .slice A30 r28.1.length cap31), (9, .slice A65 (upd m0_0 v88 true).length cap66), (10, .int .i64 m0_1)] := hS289.re ⟨rfl, rfl, rfl, rfl, rfl, trivial⟩
                    clear hK K
                    try clear hS284 hS285 hS288 hS289
                    obtain ⟨a, ha⟩ : ∃ a', a' = a289 := ⟨_, rfl⟩
                    rw [← ha] at hS ⊢; clear ha
                    have e := Option.some.inj H
                    exact ⟨(upd m0_0 v88 true), g290, e.symm, hS.re ⟨rfl, rfl, rfl, rfl, rfl, trivial⟩, h17, h32, h67, hF⟩
              · clear H
                clear h17 h32 h67 hF
                clear hS
                rintro a w83 ⟨v84, g83, hpre0, hS, h17, h32, h67, hF⟩
                subst hpre0
                have H := Fl.go_nxt Hl86
                clear Hl86
                refine c_pure1 [(5, .int .i64 r13.1), (6, .slice A15 r13.2.length cap16), (7, .slice A30 r28.1.length cap31), (9, .slice A65 v84.length cap66), (10, .int .i64 (wi (m0_1 + 1)))] (fun R hR => st_val hS rfl rfl rfl (r_move hS rfl rfl) fun a291 hS291 => st_val hS291 rfl rfl rfl (r_bin hS291 rfl rfl rfl b_add) fun a292 hS292 => st_val hS292 rfl rfl rfl (r_assign hS292 rfl rfl) fun a293 hS293 => wpList_nil (hR _ (hS293.re ⟨rfl, rfl, rfl, rfl, rfl, trivial⟩))) ?_
                clear hS
                clear a
                intro a hS
                refine ⟨k78, Nat.lt_succ_self _, ?_⟩
                exact ⟨v84, wi (m0_1 + 1), g83, H, hS.re ⟨rfl, rfl, rfl, rfl, rfl, trivial⟩, h17, h32, h67, hF⟩
            · replace H := ite_f hb82 H
              refine wp_exit ?_
              have e := Option.some.inj H
              exact ⟨g77, e.symm, hS.re trivial, hF⟩
      · clear H
        clear h17 h32 h67 hF
        clear hS
        rintro a w72 ⟨g72, hpre0, hS, hF⟩
        subst hpre0
        have H := Fl.go_nxt Hl75
        clear Hl75
        obtain ⟨r294, hr295, H⟩ := bind_el H
        refine c_region (fun K hK => ?_)
        refine st_enter hS rfl rfl rfl (r_call hS rfl rfl (by kernel_rfl)) (law24_awake.calls (g := g72) (N + 6)   hr295) ?_
        rintro _ a296 w297 ⟨g297, rfl, F297⟩ hS296
        replace hF := hF.trans F297 (fun c' (hm : N + 6 ≤ c') => by show N ≤ c'; omega)
        refine st_val hS296 rfl rfl rfl (r_assign hS296 rfl rfl) fun a298 hS298 => wpList_nil (hK _ _ ?_)
        replace hS : Sl 99 _ [(4, .bool r294)] := hS298.re ⟨rfl, trivial⟩
        clear hK K
        try clear hS296 hS298
        obtain ⟨a, ha⟩ : ∃ a', a' = a298 := ⟨_, rfl⟩
        rw [← ha] at hS ⊢; clear ha
        refine wp_ret ?_
        have e := Option.some.inj H
        subst e
        repeat (with_reducible first | refine then_ret ?_ | refine inBlock_ret ?_)
        exact c_ret1 hS Try.results4 rfl ⟨_, rfl, g297, rfl, hF⟩

/-- What is left of law24_DepgraphOrderIsTopological: about plain values alone. -/
def law24_DepgraphOrderIsTopological.Pure : Prop := ∀ (p0 : Int) (p1 : List api_Link), (Lit.int .i64 p0).wf = true → (p1.length ≤ maxLen ∧ ∀ p1' ∈ p1, Wf_api_Link p1') → law24_DepgraphOrderIsTopological.f p0 p1 = some true

end Go.Proofs.Ytphgandhncmaoaa.Sim
