/-
  Printed by a program of this session (wip/tools): plain functions with the same answers as the Go functions, and the proofs of it.
-/
import Derived.Test.YtphgandhncmaoaaFn
import Derived.Test.YtphgandhncmaoaaOp
namespace Go.Proofs.Ytphgandhncmaoaa.Sim
open Go
set_option linter.unusedVariables false
set_option linter.unusedSimpArgs false

/-! ### law24_DepgraphCycleAgrees: function 5 -/
def law24_DepgraphCycleAgrees.f (p0 : Int) (p1 : List api_Link) : Option (Bool) := if decide (40 < (p1.length : Int)) = true then ((law24_awake.f ).bind fun r6 => some r6) else ((law24_Graph.f p0 p1 false).bind fun r13 => (depgraph_Cycle.f p0 p1).bind fun r28 => (ref24_Cycle.f p0 p1).bind fun r43 => (depgraph_Cycle.f r13.1 r13.2).bind fun r58 => (ref24_Cycle.f r13.1 r13.2).bind fun r73 => (if ((r28.2 == r43.2) && (r58.2 == r73.2)) = true then (help_Equal_int.f r28.1 r43.1).bind fun r107 => some r107 else some false).bind fun t111 => (if t111 = true then (help_Equal_int.f r58.1 r73.1).bind fun r132 => some r132 else some false).bind fun t136 => (if t136 = true then (law24_awake.f ).bind fun r155 => some r155 else some false).bind fun t159 => some t159)
set_option maxRecDepth 100000 in
set_option maxHeartbeats 4000000 in
theorem law24_DepgraphCycleAgrees.calls {p0 : Int} {p1 : List api_Link} {A1 : Option Addr} {cap1 : Nat} {C1 : Nat → Prop} {w : World} {g : Nat → Nat} {out : Bool} (N : Nat) (hp1 : RdS kd_api_Link w g C1 A1 cap1 p1) (hC1 : ∀ c, C1 c → c < N) (H : law24_DepgraphCycleAgrees.f p0 p1 = some out) :
    Calls Try.prog 5 #[.int .i64 p0, .slice A1 p1.length cap1] w (fun e w' => ∃ v, e = .returned v ∧ ∃ (g' : Nat → Nat), v = .bool out ∧ Fr (fun q => N ≤ q) w g w' g') := by
  unfold law24_DepgraphCycleAgrees.f at H
  refine calls_enter Try.func5 rfl Try.ntmps5 rfl (fun a hS => ?_)
  replace hS : Sl 70 a [(0, .int .i64 p0), (1, .slice A1 p1.length cap1)] := hS
  have hF : Fr (fun q => N ≤ q) w g w g := Fr.refl _ _ _
  refine c_pure [(0, .int .i64 p0), (1, .slice A1 p1.length cap1)] (fun R hR => st_val hS rfl rfl rfl (r_assign hS rfl rfl) fun a1 hS1 => wpList_nil (hR _ (hS1.re ⟨rfl, rfl, trivial⟩))) ?_
  clear hS
  clear a
  intro a hS
  refine wp_seq ?_
  refine c_pure [(0, .int .i64 p0), (1, .slice A1 p1.length cap1), (17, .bool (decide (40 < (p1.length : Int))))] (fun R hR => st_val hS rfl rfl rfl (r_move hS rfl rfl) fun a2 hS2 => st_val hS2 rfl rfl rfl (r_len (e := 34) (sz := 2) (by_ := 16) hS2 rfl rfl (by kernel_rfl)) fun a3 hS3 => st_val hS3 rfl rfl rfl (r_bin hS3 rfl rfl rfl b_gtr) fun a4 hS4 => wpList_nil (hR _ (hS4.re ⟨rfl, rfl, rfl, trivial⟩))) ?_
  clear hS
  clear a
  intro a hS
  refine c_cond hS rfl (fun hb5 => ?_) (fun hb5 => ?_)
  · replace H := ite_t hb5 H
    obtain ⟨r6, hr7, H⟩ := bind_el H
    refine c_region (fun K hK => ?_)
    refine st_enter hS rfl rfl rfl (r_call hS rfl rfl (by kernel_rfl)) (law24_awake.calls (g := g) (N + 10)   hr7) ?_
    rintro _ a8 w9 ⟨g9, rfl, F9⟩ hS8
    replace hp1 := RdS.fr hp1 F9 (by decide) (fun q (hq : C1 q) (hm : N + 10 ≤ q) => by have := hC1 q hq; omega)
    replace hF := hF.trans F9 (fun c' (hm : N + 10 ≤ c') => by show N ≤ c'; omega)
    refine st_val hS8 rfl rfl rfl (r_assign hS8 rfl rfl) fun a10 hS10 => wpList_nil (hK _ _ ?_)
    replace hS : Sl 70 _ [(4, .bool r6)] := hS10.re ⟨rfl, trivial⟩
    clear hK K
    try clear hS8 hS10
    obtain ⟨a, ha⟩ : ∃ a', a' = a10 := ⟨_, rfl⟩
    rw [← ha] at hS ⊢; clear ha
    refine wp_ret ?_
    have e := Option.some.inj H
    subst e
    repeat (with_reducible first | refine then_ret ?_ | refine inBlock_ret ?_)
    exact c_ret1 hS Try.results5 rfl ⟨_, rfl, g9, rfl, hF⟩
  · replace H := ite_f hb5 H
    refine wp_skip ?_
    change Code.wp _ _ _ _ _
    obtain ⟨r13, hr14, H⟩ := bind_el H
    refine c_region (fun K hK => ?_)
    refine st_val hS rfl rfl rfl (r_move hS rfl rfl) fun a11 hS11 => st_val hS11 rfl rfl rfl (r_move hS11 rfl rfl) fun a12 hS12 => ?_
    refine st_enter hS12 rfl rfl rfl (r_call hS12 rfl rfl (by kernel_rfl)) (law24_Graph.calls (C1 := C1) (p0 := p0) (p1 := p1) (p2 := false) (g := g) (N + 10) (N + 0) hp1 (fun q (hq : C1 q) => by have := hC1 q hq; omega) (by omega) hr14) ?_
    rintro _ a19 w20 ⟨g20, A15, cap16, rfl, h17, F20⟩ hS19
    replace hp1 := RdS.fr hp1 F20 (by decide) (fun q (hq : C1 q) (hm : (N + 0 ≤ q ∧ q < N + 0 + 2) ∨ N + 10 ≤ q) => by have := hC1 q hq; omega)
    replace hF := hF.trans F20 (fun c' (hm : (N + 0 ≤ c' ∧ c' < N + 0 + 2) ∨ N + 10 ≤ c') => by show N ≤ c'; omega)
    refine st_val hS19 rfl rfl rfl (r_move hS19 rfl rfl) fun a21 hS21 => st_val hS21 rfl rfl rfl (r_extract hS21 rfl rfl rfl) fun a22 hS22 => st_val hS22 rfl rfl rfl (r_extract hS22 rfl rfl rfl) fun a23 hS23 => st_val hS23 rfl rfl rfl (r_assign hS23 rfl rfl) fun a24 hS24 => st_val hS24 rfl rfl rfl (r_assign hS24 rfl rfl) fun a25 hS25 => wpList_nil (hK _ _ ?_)
    replace hS : Sl 70 _ [(0, .int .i64 p0), (1, .slice A1 p1.length cap1), (5, .int .i64 r13.1), (6, .slice A15 r13.2.length cap16)] := hS25.re ⟨rfl, rfl, rfl, rfl, trivial⟩
    clear hK K
    try clear hS11 hS12 hS19 hS21 hS22 hS23 hS24 hS25
    obtain ⟨a, ha⟩ : ∃ a', a' = a25 := ⟨_, rfl⟩
    rw [← ha] at hS ⊢; clear ha
    obtain ⟨r28, hr29, H⟩ := bind_el H
    refine c_region (fun K hK => ?_)
    refine st_val hS rfl rfl rfl (r_move hS rfl rfl) fun a26 hS26 => st_val hS26 rfl rfl rfl (r_move hS26 rfl rfl) fun a27 hS27 => ?_
    refine st_enter hS27 rfl rfl rfl (r_call hS27 rfl rfl (by kernel_rfl)) (depgraph_Cycle.calls (C1 := C1) (p0 := p0) (p1 := p1) (g := g20) (N + 10) (N + 2) hp1 (fun q (hq : C1 q) => by have := hC1 q hq; omega) (by omega) hr29) ?_
    rintro _ a34 w35 ⟨g35, A30, cap31, rfl, h32, F35⟩ hS34
    replace h17 := OwS.fr h17 F35 (fun c' hc (hm : (N + 2 ≤ c' ∧ c' < N + 2 + 2) ∨ N + 10 ≤ c') => by omega)
    replace hp1 := RdS.fr hp1 F35 (by decide) (fun q (hq : C1 q) (hm : (N + 2 ≤ q ∧ q < N + 2 + 2) ∨ N + 10 ≤ q) => by have := hC1 q hq; omega)
    replace hF := hF.trans F35 (fun c' (hm : (N + 2 ≤ c' ∧ c' < N + 2 + 2) ∨ N + 10 ≤ c') => by show N ≤ c'; omega)
    refine st_val hS34 rfl rfl rfl (r_move hS34 rfl rfl) fun a36 hS36 => st_val hS36 rfl rfl rfl (r_extract hS36 rfl rfl rfl) fun a37 hS37 => st_val hS37 rfl rfl rfl (r_extract hS37 rfl rfl rfl) fun a38 hS38 => st_val hS38 rfl rfl rfl (r_assign hS38 rfl rfl) fun a39 hS39 => st_val hS39 rfl rfl rfl (r_assign hS39 rfl rfl) fun a40 hS40 => wpList_nil (hK _ _ ?_)
    replace hS : Sl 70 _ [(0, .int .i64 p0), (1, .slice A1 p1.length cap1), (5, .int .i64 r13.1), (6, .slice A15 r13.2.length cap16), (7, .slice A30 r28.1.length cap31), (8, .int .i64 r28.2)] := hS40.re ⟨rfl, rfl, rfl, rfl, rfl, rfl, trivial⟩
    clear hK K
    try clear hS26 hS27 hS34 hS36 hS37 hS38 hS39 hS40
    obtain ⟨a, ha⟩ : ∃ a', a' = a40 := ⟨_, rfl⟩
    rw [← ha] at hS ⊢; clear ha
    obtain ⟨r43, hr44, H⟩ := bind_el H
    refine c_region (fun K hK => ?_)
    refine st_val hS rfl rfl rfl (r_move hS rfl rfl) fun a41 hS41 => st_val hS41 rfl rfl rfl (r_move hS41 rfl rfl) fun a42 hS42 => ?_
    refine st_enter hS42 rfl rfl rfl (r_call hS42 rfl rfl (by kernel_rfl)) (ref24_Cycle.calls (C1 := C1) (p0 := p0) (p1 := p1) (g := g35) (N + 10) (N + 4) hp1 (fun q (hq : C1 q) => by have := hC1 q hq; omega) (by omega) hr44) ?_
    rintro _ a49 w50 ⟨g50, A45, cap46, rfl, h47, F50⟩ hS49
    replace h17 := OwS.fr h17 F50 (fun c' hc (hm : (N + 4 ≤ c' ∧ c' < N + 4 + 2) ∨ N + 10 ≤ c') => by omega)
    replace h32 := OwS.fr h32 F50 (fun c' hc (hm : (N + 4 ≤ c' ∧ c' < N + 4 + 2) ∨ N + 10 ≤ c') => by omega)
    replace hp1 := RdS.fr hp1 F50 (by decide) (fun q (hq : C1 q) (hm : (N + 4 ≤ q ∧ q < N + 4 + 2) ∨ N + 10 ≤ q) => by have := hC1 q hq; omega)
    replace hF := hF.trans F50 (fun c' (hm : (N + 4 ≤ c' ∧ c' < N + 4 + 2) ∨ N + 10 ≤ c') => by show N ≤ c'; omega)
    refine st_val hS49 rfl rfl rfl (r_move hS49 rfl rfl) fun a51 hS51 => st_val hS51 rfl rfl rfl (r_extract hS51 rfl rfl rfl) fun a52 hS52 => st_val hS52 rfl rfl rfl (r_extract hS52 rfl rfl rfl) fun a53 hS53 => st_val hS53 rfl rfl rfl (r_assign hS53 rfl rfl) fun a54 hS54 => st_val hS54 rfl rfl rfl (r_assign hS54 rfl rfl) fun a55 hS55 => wpList_nil (hK _ _ ?_)
    replace hS : Sl 70 _ [(5, .int .i64 r13.1), (6, .slice A15 r13.2.length cap16), (7, .slice A30 r28.1.length cap31), (8, .int .i64 r28.2), (9, .slice A45 r43.1.length cap46), (10, .int .i64 r43.2)] := hS55.re ⟨rfl, rfl, rfl, rfl, rfl, rfl, trivial⟩
    clear hK K
    try clear hS41 hS42 hS49 hS51 hS52 hS53 hS54 hS55
    obtain ⟨a, ha⟩ : ∃ a', a' = a55 := ⟨_, rfl⟩
    rw [← ha] at hS ⊢; clear ha
    obtain ⟨r58, hr59, H⟩ := bind_el H
    refine c_region (fun K hK => ?_)
    refine st_val hS rfl rfl rfl (r_move hS rfl rfl) fun a56 hS56 => st_val hS56 rfl rfl rfl (r_move hS56 rfl rfl) fun a57 hS57 => ?_
    refine st_enter hS57 rfl rfl rfl (r_call hS57 rfl rfl (by kernel_rfl)) (depgraph_Cycle.calls (C1 := (fun q => q = N + 0)) (p0 := r13.1) (p1 := r13.2) (g := g50) (N + 10) (N + 6) (OwD.rdf (fun _ _ _ _ _ _ h => h) h17) (fun q (hq : q = N + 0) => by omega) (by omega) hr59) ?_
    rintro _ a64 w65 ⟨g65, A60, cap61, rfl, h62, F65⟩ hS64
    replace h17 := OwS.fr h17 F65 (fun c' hc (hm : (N + 6 ≤ c' ∧ c' < N + 6 + 2) ∨ N + 10 ≤ c') => by omega)
    replace h32 := OwS.fr h32 F65 (fun c' hc (hm : (N + 6 ≤ c' ∧ c' < N + 6 + 2) ∨ N + 10 ≤ c') => by omega)
    replace h47 := OwS.fr h47 F65 (fun c' hc (hm : (N + 6 ≤ c' ∧ c' < N + 6 + 2) ∨ N + 10 ≤ c') => by omega)
    replace hF := hF.trans F65 (fun c' (hm : (N + 6 ≤ c' ∧ c' < N + 6 + 2) ∨ N + 10 ≤ c') => by show N ≤ c'; omega)
    refine st_val hS64 rfl rfl rfl (r_move hS64 rfl rfl) fun a66 hS66 => st_val hS66 rfl rfl rfl (r_extract hS66 rfl rfl rfl) fun a67 hS67 => st_val hS67 rfl rfl rfl (r_extract hS67 rfl rfl rfl) fun a68 hS68 => st_val hS68 rfl rfl rfl (r_assign hS68 rfl rfl) fun a69 hS69 => st_val hS69 rfl rfl rfl (r_assign hS69 rfl rfl) fun a70 hS70 => wpList_nil (hK _ _ ?_)
    replace hS : Sl 70 _ [(5, .int .i64 r13.1), (6, .slice A15 r13.2.length cap16), (7, .slice A30 r28.1.length cap31), (8, .int .i64 r28.2), (9, .slice A45 r43.1.length cap46), (10, .int .i64 r43.2), (11, .slice A60 r58.1.length cap61), (12, .int .i64 r58.2)] := hS70.re ⟨rfl, rfl, rfl, rfl, rfl, rfl, rfl, rfl, trivial⟩
    clear hK K
    try clear hS56 hS57 hS64 hS66 hS67 hS68 hS69 hS70
    obtain ⟨a, ha⟩ : ∃ a', a' = a70 := ⟨_, rfl⟩
    rw [← ha] at hS ⊢; clear ha
    obtain ⟨r73, hr74, H⟩ := bind_el H
    refine c_region (fun K hK => ?_)
    refine st_val hS rfl rfl rfl (r_move hS rfl rfl) fun a71 hS71 => st_val hS71 rfl rfl rfl (r_move hS71 rfl rfl) fun a72 hS72 => ?_
    refine st_enter hS72 rfl rfl rfl (r_call hS72 rfl rfl (by kernel_rfl)) (ref24_Cycle.calls (C1 := (fun q => q = N + 0)) (p0 := r13.1) (p1 := r13.2) (g := g65) (N + 10) (N + 8) (OwD.rdf (fun _ _ _ _ _ _ h => h) h17) (fun q (hq : q = N + 0) => by omega) (by omega) hr74) ?_
    rintro _ a79 w80 ⟨g80, A75, cap76, rfl, h77, F80⟩ hS79
    replace h17 := OwS.fr h17 F80 (fun c' hc (hm : (N + 8 ≤ c' ∧ c' < N + 8 + 2) ∨ N + 10 ≤ c') => by omega)
    replace h32 := OwS.fr h32 F80 (fun c' hc (hm : (N + 8 ≤ c' ∧ c' < N + 8 + 2) ∨ N + 10 ≤ c') => by omega)
    replace h47 := OwS.fr h47 F80 (fun c' hc (hm : (N + 8 ≤ c' ∧ c' < N + 8 + 2) ∨ N + 10 ≤ c') => by omega)
    replace h62 := OwS.fr h62 F80 (fun c' hc (hm : (N + 8 ≤ c' ∧ c' < N + 8 + 2) ∨ N + 10 ≤ c') => by omega)
    replace hF := hF.trans F80 (fun c' (hm : (N + 8 ≤ c' ∧ c' < N + 8 + 2) ∨ N + 10 ≤ c') => by show N ≤ c'; omega)
    refine st_val hS79 rfl rfl rfl (r_move hS79 rfl rfl) fun a81 hS81 => st_val hS81 rfl rfl rfl (r_extract hS81 rfl rfl rfl) fun a82 hS82 => st_val hS82 rfl rfl rfl (r_extract hS82 rfl rfl rfl) fun a83 hS83 => st_val hS83 rfl rfl rfl (r_assign hS83 rfl rfl) fun a84 hS84 => st_val hS84 rfl rfl rfl (r_assign hS84 rfl rfl) fun a85 hS85 => wpList_nil (hK _ _ ?_)
    replace hS : Sl 70 _ [(7, .slice A30 r28.1.length cap31), (8, .int .i64 r28.2), (9, .slice A45 r43.1.length cap46), (10, .int .i64 r43.2), (11, .slice A60 r58.1.length cap61), (12, .int .i64 r58.2), (13, .slice A75 r73.1.length cap76), (14, .int .i64 r73.2)] := hS85.re ⟨rfl, rfl, rfl, rfl, rfl, rfl, rfl, rfl, trivial⟩
    clear hK K
    try clear hS71 hS72 hS79 hS81 hS82 hS83 hS84 hS85
    obtain ⟨a, ha⟩ : ∃ a', a' = a85 := ⟨_, rfl⟩
    rw [← ha] at hS ⊢; clear ha
    obtain ⟨t111, ht112, H⟩ := bind_el H
    obtain ⟨t136, ht137, H⟩ := bind_el H
    obtain ⟨t159, ht160, H⟩ := bind_el H
    refine c_region (fun K hK => ?_)
    refine st_val hS rfl rfl rfl (r_move hS rfl rfl) fun a86 hS86 => st_val hS86 rfl rfl rfl (r_move hS86 rfl rfl) fun a87 hS87 => st_val hS87 rfl rfl rfl (r_bin hS87 rfl rfl rfl b_eql) fun a88 hS88 => st_val hS88 rfl rfl rfl (r_move hS88 rfl rfl) fun a89 hS89 => ?_
    refine g_join (N := 70) 4 [(7, .slice A30 r28.1.length cap31), (9, .slice A45 r43.1.length cap46), (11, .slice A60 r58.1.length cap61), (13, .slice A75 r73.1.length cap76), (56, .bool ((r28.2 == r43.2) && (r58.2 == r73.2)))] ?_ (fun hk => ?_)
    rotate_left
    · rcases Bool.eq_false_or_eq_true ((r28.2 == r43.2)) with hb90 | hb90
      · refine st_valW hS89 (want_on hS89 rfl rfl rfl hb90) rfl rfl (r_move hS89 rfl rfl) fun a94 hS94 => st_valW hS94 (want_on hS94 rfl rfl rfl hb90) rfl rfl (r_move hS94 rfl rfl) fun a95 hS95 => st_valW hS95 (want_on hS95 rfl rfl rfl hb90) rfl rfl (r_bin hS95 rfl rfl rfl b_eql) fun a96 hS96 => st_val hS96 rfl rfl rfl (r_pickT hS96 rfl rfl rfl hb90) fun a97 hS97 => hk _ (hS97.re ⟨rfl, rfl, rfl, rfl, (by rw [hb90]; rfl), trivial⟩)
      · refine st_off hS89 (want_off hS89 rfl rfl rfl hb90) rfl rfl fun a98 hS98 => st_off hS98 (want_off hS98 rfl rfl rfl hb90) rfl rfl fun a99 hS99 => st_off hS99 (want_off hS99 rfl rfl rfl hb90) rfl rfl fun a100 hS100 => st_val hS100 rfl rfl rfl (r_pickF hS100 rfl rfl rfl hb90) fun a101 hS101 => hk _ (hS101.re ⟨rfl, rfl, rfl, rfl, (by rw [hb90]; rfl), trivial⟩)
    intro a102 hS102
    refine st_val hS102 rfl rfl rfl (r_move hS102 rfl rfl) fun a103 hS103 => ?_
    refine g_joinR 4 (fun a w113 => ∃ (g113 : Nat → Nat), Sl 70 a [(11, .slice A60 r58.1.length cap61), (13, .slice A75 r73.1.length cap76), (61, .bool t111)] ∧ OwS (kint .i64) 3 w113 g113 (N + 6) A60 cap61 r58.1 ∧ OwS (kint .i64) 3 w113 g113 (N + 8) A75 cap76 r73.1 ∧ Fr (fun q => N ≤ q) w g w113 g113) ?_ (fun hk => ?_)
    rotate_left
    · rcases Bool.eq_false_or_eq_true (((r28.2 == r43.2) && (r58.2 == r73.2))) with hb104 | hb104
      · have H := ite_t hb104 ht112
        obtain ⟨r116, hr117, H⟩ := bind_el H
        have e120 := Option.some.inj H
        refine st_valW hS103 (want_on hS103 rfl rfl rfl hb104) rfl rfl (r_move hS103 rfl rfl) fun a114 hS114 => st_valW hS114 (want_on hS114 rfl rfl rfl hb104) rfl rfl (r_move hS114 rfl rfl) fun a115 hS115 => ?_
        refine st_enterW hS115 (want_on hS115 rfl rfl rfl hb104) rfl rfl (r_call hS115 rfl rfl (by kernel_rfl)) (help_Equal_int.calls (C0 := (fun q => q = N + 2)) (C1 := (fun q => q = N + 4)) (p0 := r28.1) (p1 := r43.1) (g := g80) (N + 10)  (OwD.rdf (fun _ _ _ _ _ _ h => h) h32) (fun q (hq : q = N + 2) => by omega) (OwD.rdf (fun _ _ _ _ _ _ h => h) h47) (fun q (hq : q = N + 4) => by omega) hr117) ?_
        rintro _ a118 w119 ⟨g119, rfl, F119⟩ hS118
        replace h32 := OwS.fr h32 F119 (fun c' hc (hm : N + 10 ≤ c') => by omega)
        replace h47 := OwS.fr h47 F119 (fun c' hc (hm : N + 10 ≤ c') => by omega)
        replace h62 := OwS.fr h62 F119 (fun c' hc (hm : N + 10 ≤ c') => by omega)
        replace h77 := OwS.fr h77 F119 (fun c' hc (hm : N + 10 ≤ c') => by omega)
        replace hF := hF.trans F119 (fun c' (hm : N + 10 ≤ c') => by show N ≤ c'; omega)
        refine st_val hS118 rfl rfl rfl (r_pickT hS118 rfl rfl rfl hb104) fun a121 hS121 => hk _ _ ?_
        exact ⟨g119, hS121.re ⟨rfl, rfl, (by rw [← e120]; rfl), trivial⟩, h62, h77, hF⟩
      · have H := ite_f hb104 ht112
        have e122 := Option.some.inj H
        refine st_off hS103 (want_off hS103 rfl rfl rfl hb104) rfl rfl fun a123 hS123 => st_off hS123 (want_off hS123 rfl rfl rfl hb104) rfl rfl fun a124 hS124 => st_off hS124 (want_off hS124 rfl rfl rfl hb104) rfl rfl fun a125 hS125 => st_val hS125 rfl rfl rfl (r_pickF hS125 rfl rfl rfl hb104) fun a126 hS126 => hk _ _ ?_
        exact ⟨g80, hS126.re ⟨rfl, rfl, (by rw [← e122]; rfl), trivial⟩, h62, h77, hF⟩
    rintro a127 w113 ⟨g113, hS127, h62, h77, hF⟩
    refine st_val hS127 rfl rfl rfl (r_move hS127 rfl rfl) fun a128 hS128 => ?_
    refine g_joinR 4 (fun a w138 => ∃ (g138 : Nat → Nat), Sl 70 a [(66, .bool t136)] ∧ Fr (fun q => N ≤ q) w g w138 g138) ?_ (fun hk => ?_)
    rotate_left
    · rcases Bool.eq_false_or_eq_true (t111) with hb129 | hb129
      · have H := ite_t hb129 ht137
        obtain ⟨r141, hr142, H⟩ := bind_el H
        have e145 := Option.some.inj H
        refine st_valW hS128 (want_on hS128 rfl rfl rfl hb129) rfl rfl (r_move hS128 rfl rfl) fun a139 hS139 => st_valW hS139 (want_on hS139 rfl rfl rfl hb129) rfl rfl (r_move hS139 rfl rfl) fun a140 hS140 => ?_
        refine st_enterW hS140 (want_on hS140 rfl rfl rfl hb129) rfl rfl (r_call hS140 rfl rfl (by kernel_rfl)) (help_Equal_int.calls (C0 := (fun q => q = N + 6)) (C1 := (fun q => q = N + 8)) (p0 := r58.1) (p1 := r73.1) (g := g113) (N + 10)  (OwD.rdf (fun _ _ _ _ _ _ h => h) h62) (fun q (hq : q = N + 6) => by omega) (OwD.rdf (fun _ _ _ _ _ _ h => h) h77) (fun q (hq : q = N + 8) => by omega) hr142) ?_
        rintro _ a143 w144 ⟨g144, rfl, F144⟩ hS143
        replace h62 := OwS.fr h62 F144 (fun c' hc (hm : N + 10 ≤ c') => by omega)
        replace h77 := OwS.fr h77 F144 (fun c' hc (hm : N + 10 ≤ c') => by omega)
        replace hF := hF.trans F144 (fun c' (hm : N + 10 ≤ c') => by show N ≤ c'; omega)
        refine st_val hS143 rfl rfl rfl (r_pickT hS143 rfl rfl rfl hb129) fun a146 hS146 => hk _ _ ?_
        exact ⟨g144, hS146.re ⟨(by rw [← e145]; rfl), trivial⟩, hF⟩
      · have H := ite_f hb129 ht137
        have e147 := Option.some.inj H
        refine st_off hS128 (want_off hS128 rfl rfl rfl hb129) rfl rfl fun a148 hS148 => st_off hS148 (want_off hS148 rfl rfl rfl hb129) rfl rfl fun a149 hS149 => st_off hS149 (want_off hS149 rfl rfl rfl hb129) rfl rfl fun a150 hS150 => st_val hS150 rfl rfl rfl (r_pickF hS150 rfl rfl rfl hb129) fun a151 hS151 => hk _ _ ?_
        exact ⟨g113, hS151.re ⟨(by rw [← e147]; rfl), trivial⟩, hF⟩
    rintro a152 w138 ⟨g138, hS152, hF⟩
    refine st_val hS152 rfl rfl rfl (r_move hS152 rfl rfl) fun a153 hS153 => ?_
    refine g_joinR 2 (fun a w161 => ∃ (g161 : Nat → Nat), Sl 70 a [(69, .bool t159)] ∧ Fr (fun q => N ≤ q) w g w161 g161) ?_ (fun hk => ?_)
    rotate_left
    · rcases Bool.eq_false_or_eq_true (t136) with hb154 | hb154
      · have H := ite_t hb154 ht160
        obtain ⟨r162, hr163, H⟩ := bind_el H
        have e166 := Option.some.inj H
        refine st_enterW hS153 (want_on hS153 rfl rfl rfl hb154) rfl rfl (r_call hS153 rfl rfl (by kernel_rfl)) (law24_awake.calls (g := g138) (N + 10)   hr163) ?_
        rintro _ a164 w165 ⟨g165, rfl, F165⟩ hS164
        replace hF := hF.trans F165 (fun c' (hm : N + 10 ≤ c') => by show N ≤ c'; omega)
        refine st_val hS164 rfl rfl rfl (r_pickT hS164 rfl rfl rfl hb154) fun a167 hS167 => hk _ _ ?_
        exact ⟨g165, hS167.re ⟨(by rw [← e166]; rfl), trivial⟩, hF⟩
      · have H := ite_f hb154 ht160
        have e168 := Option.some.inj H
        refine st_off hS153 (want_off hS153 rfl rfl rfl hb154) rfl rfl fun a169 hS169 => st_val hS169 rfl rfl rfl (r_pickF hS169 rfl rfl rfl hb154) fun a170 hS170 => hk _ _ ?_
        exact ⟨g138, hS170.re ⟨(by rw [← e168]; rfl), trivial⟩, hF⟩
    rintro a171 w161 ⟨g161, hS171, hF⟩
    refine st_val hS171 rfl rfl rfl (r_assign hS171 rfl rfl) fun a172 hS172 => wpList_nil (hK _ _ ?_)
    replace hS : Sl 70 _ [(4, .bool t159)] := hS172.re ⟨rfl, trivial⟩
    clear hK K
    try clear hS86 hS87 hS88 hS89 hS102 hS103 hS127 hS128 hS152 hS153 hS171 hS172
    obtain ⟨a, ha⟩ : ∃ a', a' = a172 := ⟨_, rfl⟩
    rw [← ha] at hS ⊢; clear ha
    refine wp_ret ?_
    have e := Option.some.inj H
    subst e
    repeat (with_reducible first | refine then_ret ?_ | refine inBlock_ret ?_)
    exact c_ret1 hS Try.results5 rfl ⟨_, rfl, g161, rfl, hF⟩

/-- What is left of law24_DepgraphCycleAgrees: about plain values alone. -/
def law24_DepgraphCycleAgrees.Pure : Prop := ∀ (p0 : Int) (p1 : List api_Link), (Lit.int .i64 p0).wf = true → (p1.length ≤ maxLen ∧ ∀ p1' ∈ p1, Wf_api_Link p1') → law24_DepgraphCycleAgrees.f p0 p1 = some true

end Go.Proofs.Ytphgandhncmaoaa.Sim
