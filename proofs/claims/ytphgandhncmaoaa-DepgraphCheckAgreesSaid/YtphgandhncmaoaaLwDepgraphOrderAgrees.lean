/-
  Printed by a program of this session (wip/tools): plain functions with the same answers as the Go functions, and the proofs of it.
-/
import Derived.Test.YtphgandhncmaoaaFn
import Derived.Test.YtphgandhncmaoaaOp
namespace Go.Proofs.Ytphgandhncmaoaa.Sim
open Go
set_option linter.unusedVariables false
set_option linter.unusedSimpArgs false

/-! ### law24_DepgraphOrderAgrees: function 3 -/
def law24_DepgraphOrderAgrees.f (p0 : Int) (p1 : List api_Link) (p2 : Bool) : Option (Bool) := if decide (40 < (p1.length : Int)) = true then ((law24_awake.f ).bind fun r6 => some r6) else ((law24_Graph.f p0 p1 p2).bind fun r14 => (depgraph_Order.f p0 p1).bind fun r29 => (ref24_Order.f p0 p1).bind fun r44 => (depgraph_Order.f r14.1 r14.2).bind fun r59 => (ref24_Order.f r14.1 r14.2).bind fun r74 => (if ((r29.2 == r44.2) && (r59.2 == r74.2)) = true then (help_Equal_int.f r29.1 r44.1).bind fun r108 => some r108 else some false).bind fun t112 => (if t112 = true then (help_Equal_int.f r59.1 r74.1).bind fun r133 => some r133 else some false).bind fun t137 => (if t137 = true then (law24_awake.f ).bind fun r156 => some r156 else some false).bind fun t160 => some t160)
set_option maxRecDepth 100000 in
set_option maxHeartbeats 4000000 in
theorem law24_DepgraphOrderAgrees.calls {p0 : Int} {p1 : List api_Link} {A1 : Option Addr} {cap1 : Nat} {C1 : Nat → Prop} {p2 : Bool} {w : World} {g : Nat → Nat} {out : Bool} (N : Nat) (hp1 : RdS kd_api_Link w g C1 A1 cap1 p1) (hC1 : ∀ c, C1 c → c < N) (H : law24_DepgraphOrderAgrees.f p0 p1 p2 = some out) :
    Calls Try.prog 3 #[.int .i64 p0, .slice A1 p1.length cap1, .bool p2] w (fun e w' => ∃ v, e = .returned v ∧ ∃ (g' : Nat → Nat), v = .bool out ∧ Fr (fun q => N ≤ q) w g w' g') := by
  unfold law24_DepgraphOrderAgrees.f at H
  refine calls_enter Try.func3 rfl Try.ntmps3 rfl (fun a hS => ?_)
  replace hS : Sl 73 a [(0, .int .i64 p0), (1, .slice A1 p1.length cap1), (2, .bool p2)] := hS
  have hF : Fr (fun q => N ≤ q) w g w g := Fr.refl _ _ _
  refine c_pure [(0, .int .i64 p0), (1, .slice A1 p1.length cap1), (2, .bool p2)] (fun R hR => st_val hS rfl rfl rfl (r_assign hS rfl rfl) fun a1 hS1 => wpList_nil (hR _ (hS1.re ⟨rfl, rfl, rfl, trivial⟩))) ?_
  clear hS
  clear a
  intro a hS
  refine wp_seq ?_
  refine c_pure [(0, .int .i64 p0), (1, .slice A1 p1.length cap1), (2, .bool p2), (19, .bool (decide (40 < (p1.length : Int))))] (fun R hR => st_val hS rfl rfl rfl (r_move hS rfl rfl) fun a2 hS2 => st_val hS2 rfl rfl rfl (r_len (e := 34) (sz := 2) (by_ := 16) hS2 rfl rfl (by kernel_rfl)) fun a3 hS3 => st_val hS3 rfl rfl rfl (r_bin hS3 rfl rfl rfl b_gtr) fun a4 hS4 => wpList_nil (hR _ (hS4.re ⟨rfl, rfl, rfl, rfl, trivial⟩))) ?_
  clear hS
  clear a
  intro a hS
  refine c_cond hS rfl (fun hb5 => ?_) (fun hb5 => ?_)
  · replace H := ite_t hb5 H
    obtain ⟨r6, hr7, H⟩ := bind_el H
    refine c_region (fun K hK => ?_)
    refine st_enter hS rfl rfl rfl (r_call hS rfl rfl (by kernel_rfl)) (law24_awake.calls (g := g) (N + 10)   hr7) ?_
    rintro _ a8 w9 ⟨g9, rfl, F9⟩ hS8
    replace hp1 := RdS.fr hp1 F9 (by decide) (fun q (hq : C1 q) (hm : N + 10 ≤ q) => by have := hC1 q hq; omega)
    replace hF := hF.trans F9 (fun c' (hm : N + 10 ≤ c') => by show N ≤ c'; omega)
    refine st_val hS8 rfl rfl rfl (r_assign hS8 rfl rfl) fun a10 hS10 => wpList_nil (hK _ _ ?_)
    replace hS : Sl 73 _ [(6, .bool r6)] := hS10.re ⟨rfl, trivial⟩
    clear hK K
    try clear hS8 hS10
    obtain ⟨a, ha⟩ : ∃ a', a' = a10 := ⟨_, rfl⟩
    rw [← ha] at hS ⊢; clear ha
    refine wp_ret ?_
    have e := Option.some.inj H
    subst e
    repeat (with_reducible first | refine then_ret ?_ | refine inBlock_ret ?_)
    exact c_ret1 hS Try.results3 rfl ⟨_, rfl, g9, rfl, hF⟩
  · replace H := ite_f hb5 H
    refine wp_skip ?_
    change Code.wp _ _ _ _ _
    obtain ⟨r14, hr15, H⟩ := bind_el H
    refine c_region (fun K hK => ?_)
    refine st_val hS rfl rfl rfl (r_move hS rfl rfl) fun a11 hS11 => st_val hS11 rfl rfl rfl (r_move hS11 rfl rfl) fun a12 hS12 => st_val hS12 rfl rfl rfl (r_move hS12 rfl rfl) fun a13 hS13 => ?_
    refine st_enter hS13 rfl rfl rfl (r_call hS13 rfl rfl (by kernel_rfl)) (law24_Graph.calls (C1 := C1) (p0 := p0) (p1 := p1) (p2 := p2) (g := g) (N + 10) (N + 0) hp1 (fun q (hq : C1 q) => by have := hC1 q hq; omega) (by omega) hr15) ?_
    rintro _ a20 w21 ⟨g21, A16, cap17, rfl, h18, F21⟩ hS20
    replace hp1 := RdS.fr hp1 F21 (by decide) (fun q (hq : C1 q) (hm : (N + 0 ≤ q ∧ q < N + 0 + 2) ∨ N + 10 ≤ q) => by have := hC1 q hq; omega)
    replace hF := hF.trans F21 (fun c' (hm : (N + 0 ≤ c' ∧ c' < N + 0 + 2) ∨ N + 10 ≤ c') => by show N ≤ c'; omega)
    refine st_val hS20 rfl rfl rfl (r_move hS20 rfl rfl) fun a22 hS22 => st_val hS22 rfl rfl rfl (r_extract hS22 rfl rfl rfl) fun a23 hS23 => st_val hS23 rfl rfl rfl (r_extract hS23 rfl rfl rfl) fun a24 hS24 => st_val hS24 rfl rfl rfl (r_assign hS24 rfl rfl) fun a25 hS25 => st_val hS25 rfl rfl rfl (r_assign hS25 rfl rfl) fun a26 hS26 => wpList_nil (hK _ _ ?_)
    replace hS : Sl 73 _ [(0, .int .i64 p0), (1, .slice A1 p1.length cap1), (7, .int .i64 r14.1), (8, .slice A16 r14.2.length cap17)] := hS26.re ⟨rfl, rfl, rfl, rfl, trivial⟩
    clear hK K
    try clear hS11 hS12 hS13 hS20 hS22 hS23 hS24 hS25 hS26
    obtain ⟨a, ha⟩ : ∃ a', a' = a26 := ⟨_, rfl⟩
    rw [← ha] at hS ⊢; clear ha
    obtain ⟨r29, hr30, H⟩ := bind_el H
    refine c_region (fun K hK => ?_)
    refine st_val hS rfl rfl rfl (r_move hS rfl rfl) fun a27 hS27 => st_val hS27 rfl rfl rfl (r_move hS27 rfl rfl) fun a28 hS28 => ?_
    refine st_enter hS28 rfl rfl rfl (r_call hS28 rfl rfl (by kernel_rfl)) (depgraph_Order.calls (C1 := C1) (p0 := p0) (p1 := p1) (g := g21) (N + 10) (N + 2) hp1 (fun q (hq : C1 q) => by have := hC1 q hq; omega) (by omega) hr30) ?_
    rintro _ a35 w36 ⟨g36, A31, cap32, rfl, h33, F36⟩ hS35
    replace h18 := OwS.fr h18 F36 (fun c' hc (hm : (N + 2 ≤ c' ∧ c' < N + 2 + 2) ∨ N + 10 ≤ c') => by omega)
    replace hp1 := RdS.fr hp1 F36 (by decide) (fun q (hq : C1 q) (hm : (N + 2 ≤ q ∧ q < N + 2 + 2) ∨ N + 10 ≤ q) => by have := hC1 q hq; omega)
    replace hF := hF.trans F36 (fun c' (hm : (N + 2 ≤ c' ∧ c' < N + 2 + 2) ∨ N + 10 ≤ c') => by show N ≤ c'; omega)
    refine st_val hS35 rfl rfl rfl (r_move hS35 rfl rfl) fun a37 hS37 => st_val hS37 rfl rfl rfl (r_extract hS37 rfl rfl rfl) fun a38 hS38 => st_val hS38 rfl rfl rfl (r_extract hS38 rfl rfl rfl) fun a39 hS39 => st_val hS39 rfl rfl rfl (r_assign hS39 rfl rfl) fun a40 hS40 => st_val hS40 rfl rfl rfl (r_assign hS40 rfl rfl) fun a41 hS41 => wpList_nil (hK _ _ ?_)
    replace hS : Sl 73 _ [(0, .int .i64 p0), (1, .slice A1 p1.length cap1), (7, .int .i64 r14.1), (8, .slice A16 r14.2.length cap17), (9, .slice A31 r29.1.length cap32), (10, .int .i64 r29.2)] := hS41.re ⟨rfl, rfl, rfl, rfl, rfl, rfl, trivial⟩
    clear hK K
    try clear hS27 hS28 hS35 hS37 hS38 hS39 hS40 hS41
    obtain ⟨a, ha⟩ : ∃ a', a' = a41 := ⟨_, rfl⟩
    rw [← ha] at hS ⊢; clear ha
    obtain ⟨r44, hr45, H⟩ := bind_el H
    refine c_region (fun K hK => ?_)
    refine st_val hS rfl rfl rfl (r_move hS rfl rfl) fun a42 hS42 => st_val hS42 rfl rfl rfl (r_move hS42 rfl rfl) fun a43 hS43 => ?_
    refine st_enter hS43 rfl rfl rfl (r_call hS43 rfl rfl (by kernel_rfl)) (ref24_Order.calls (C1 := C1) (p0 := p0) (p1 := p1) (g := g36) (N + 10) (N + 4) hp1 (fun q (hq : C1 q) => by have := hC1 q hq; omega) (by omega) hr45) ?_
    rintro _ a50 w51 ⟨g51, A46, cap47, rfl, h48, F51⟩ hS50
    replace h18 := OwS.fr h18 F51 (fun c' hc (hm : (N + 4 ≤ c' ∧ c' < N + 4 + 2) ∨ N + 10 ≤ c') => by omega)
    replace h33 := OwS.fr h33 F51 (fun c' hc (hm : (N + 4 ≤ c' ∧ c' < N + 4 + 2) ∨ N + 10 ≤ c') => by omega)
    replace hp1 := RdS.fr hp1 F51 (by decide) (fun q (hq : C1 q) (hm : (N + 4 ≤ q ∧ q < N + 4 + 2) ∨ N + 10 ≤ q) => by have := hC1 q hq; omega)
    replace hF := hF.trans F51 (fun c' (hm : (N + 4 ≤ c' ∧ c' < N + 4 + 2) ∨ N + 10 ≤ c') => by show N ≤ c'; omega)
    refine st_val hS50 rfl rfl rfl (r_move hS50 rfl rfl) fun a52 hS52 => st_val hS52 rfl rfl rfl (r_extract hS52 rfl rfl rfl) fun a53 hS53 => st_val hS53 rfl rfl rfl (r_extract hS53 rfl rfl rfl) fun a54 hS54 => st_val hS54 rfl rfl rfl (r_assign hS54 rfl rfl) fun a55 hS55 => st_val hS55 rfl rfl rfl (r_assign hS55 rfl rfl) fun a56 hS56 => wpList_nil (hK _ _ ?_)
    replace hS : Sl 73 _ [(7, .int .i64 r14.1), (8, .slice A16 r14.2.length cap17), (9, .slice A31 r29.1.length cap32), (10, .int .i64 r29.2), (11, .slice A46 r44.1.length cap47), (12, .int .i64 r44.2)] := hS56.re ⟨rfl, rfl, rfl, rfl, rfl, rfl, trivial⟩
    clear hK K
    try clear hS42 hS43 hS50 hS52 hS53 hS54 hS55 hS56
    obtain ⟨a, ha⟩ : ∃ a', a' = a56 := ⟨_, rfl⟩
    rw [← ha] at hS ⊢; clear ha
    obtain ⟨r59, hr60, H⟩ := bind_el H
    refine c_region (fun K hK => ?_)
    refine st_val hS rfl rfl rfl (r_move hS rfl rfl) fun a57 hS57 => st_val hS57 rfl rfl rfl (r_move hS57 rfl rfl) fun a58 hS58 => ?_
    refine st_enter hS58 rfl rfl rfl (r_call hS58 rfl rfl (by kernel_rfl)) (depgraph_Order.calls (C1 := (fun q => q = N + 0)) (p0 := r14.1) (p1 := r14.2) (g := g51) (N + 10) (N + 6) (OwD.rdf (fun _ _ _ _ _ _ h => h) h18) (fun q (hq : q = N + 0) => by omega) (by omega) hr60) ?_
    rintro _ a65 w66 ⟨g66, A61, cap62, rfl, h63, F66⟩ hS65
    replace h18 := OwS.fr h18 F66 (fun c' hc (hm : (N + 6 ≤ c' ∧ c' < N + 6 + 2) ∨ N + 10 ≤ c') => by omega)
    replace h33 := OwS.fr h33 F66 (fun c' hc (hm : (N + 6 ≤ c' ∧ c' < N + 6 + 2) ∨ N + 10 ≤ c') => by omega)
    replace h48 := OwS.fr h48 F66 (fun c' hc (hm : (N + 6 ≤ c' ∧ c' < N + 6 + 2) ∨ N + 10 ≤ c') => by omega)
    replace hF := hF.trans F66 (fun c' (hm : (N + 6 ≤ c' ∧ c' < N + 6 + 2) ∨ N + 10 ≤ c') => by show N ≤ c'; omega)
    refine st_val hS65 rfl rfl rfl (r_move hS65 rfl rfl) fun a67 hS67 => st_val hS67 rfl rfl rfl (r_extract hS67 rfl rfl rfl) fun a68 hS68 => st_val hS68 rfl rfl rfl (r_extract hS68 rfl rfl rfl) fun a69 hS69 => st_val hS69 rfl rfl rfl (r_assign hS69 rfl rfl) fun a70 hS70 => st_val hS70 rfl rfl rfl (r_assign hS70 rfl rfl) fun a71 hS71 => wpList_nil (hK _ _ ?_)
    replace hS : Sl 73 _ [(7, .int .i64 r14.1), (8, .slice A16 r14.2.length cap17), (9, .slice A31 r29.1.length cap32), (10, .int .i64 r29.2), (11, .slice A46 r44.1.length cap47), (12, .int .i64 r44.2), (13, .slice A61 r59.1.length cap62), (14, .int .i64 r59.2)] := hS71.re ⟨rfl, rfl, rfl, rfl, rfl, rfl, rfl, rfl, trivial⟩
    clear hK K
    try clear hS57 hS58 hS65 hS67 hS68 hS69 hS70 hS71
    obtain ⟨a, ha⟩ : ∃ a', a' = a71 := ⟨_, rfl⟩
    rw [← ha] at hS ⊢; clear ha
    obtain ⟨r74, hr75, H⟩ := bind_el H
    refine c_region (fun K hK => ?_)
    refine st_val hS rfl rfl rfl (r_move hS rfl rfl) fun a72 hS72 => st_val hS72 rfl rfl rfl (r_move hS72 rfl rfl) fun a73 hS73 => ?_
    refine st_enter hS73 rfl rfl rfl (r_call hS73 rfl rfl (by kernel_rfl)) (ref24_Order.calls (C1 := (fun q => q = N + 0)) (p0 := r14.1) (p1 := r14.2) (g := g66) (N + 10) (N + 8) (OwD.rdf (fun _ _ _ _ _ _ h => h) h18) (fun q (hq : q = N + 0) => by omega) (by omega) hr75) ?_
    rintro _ a80 w81 ⟨g81, A76, cap77, rfl, h78, F81⟩ hS80
    replace h18 := OwS.fr h18 F81 (fun c' hc (hm : (N + 8 ≤ c' ∧ c' < N + 8 + 2) ∨ N + 10 ≤ c') => by omega)
    replace h33 := OwS.fr h33 F81 (fun c' hc (hm : (N + 8 ≤ c' ∧ c' < N + 8 + 2) ∨ N + 10 ≤ c') => by omega)
    replace h48 := OwS.fr h48 F81 (fun c' hc (hm : (N + 8 ≤ c' ∧ c' < N + 8 + 2) ∨ N + 10 ≤ c') => by omega)
    replace h63 := OwS.fr h63 F81 (fun c' hc (hm : (N + 8 ≤ c' ∧ c' < N + 8 + 2) ∨ N + 10 ≤ c') => by omega)
    replace hF := hF.trans F81 (fun c' (hm : (N + 8 ≤ c' ∧ c' < N + 8 + 2) ∨ N + 10 ≤ c') => by show N ≤ c'; omega)
    refine st_val hS80 rfl rfl rfl (r_move hS80 rfl rfl) fun a82 hS82 => st_val hS82 rfl rfl rfl (r_extract hS82 rfl rfl rfl) fun a83 hS83 => st_val hS83 rfl rfl rfl (r_extract hS83 rfl rfl rfl) fun a84 hS84 => st_val hS84 rfl rfl rfl (r_assign hS84 rfl rfl) fun a85 hS85 => st_val hS85 rfl rfl rfl (r_assign hS85 rfl rfl) fun a86 hS86 => wpList_nil (hK _ _ ?_)
    replace hS : Sl 73 _ [(9, .slice A31 r29.1.length cap32), (10, .int .i64 r29.2), (11, .slice A46 r44.1.length cap47), (12, .int .i64 r44.2), (13, .slice A61 r59.1.length cap62), (14, .int .i64 r59.2), (15, .slice A76 r74.1.length cap77), (16, .int .i64 r74.2)] := hS86.re ⟨rfl, rfl, rfl, rfl, rfl, rfl, rfl, rfl, trivial⟩
    clear hK K
    try clear hS72 hS73 hS80 hS82 hS83 hS84 hS85 hS86
    obtain ⟨a, ha⟩ : ∃ a', a' = a86 := ⟨_, rfl⟩
    rw [← ha] at hS ⊢; clear ha
    obtain ⟨t112, ht113, H⟩ := bind_el H
    obtain ⟨t137, ht138, H⟩ := bind_el H
    obtain ⟨t160, ht161, H⟩ := bind_el H
    refine c_region (fun K hK => ?_)
    refine st_val hS rfl rfl rfl (r_move hS rfl rfl) fun a87 hS87 => st_val hS87 rfl rfl rfl (r_move hS87 rfl rfl) fun a88 hS88 => st_val hS88 rfl rfl rfl (r_bin hS88 rfl rfl rfl b_eql) fun a89 hS89 => st_val hS89 rfl rfl rfl (r_move hS89 rfl rfl) fun a90 hS90 => ?_
    refine g_join (N := 73) 4 [(9, .slice A31 r29.1.length cap32), (11, .slice A46 r44.1.length cap47), (13, .slice A61 r59.1.length cap62), (15, .slice A76 r74.1.length cap77), (59, .bool ((r29.2 == r44.2) && (r59.2 == r74.2)))] ?_ (fun hk => ?_)
    rotate_left
    · rcases Bool.eq_false_or_eq_true ((r29.2 == r44.2)) with hb91 | hb91
      · refine st_valW hS90 (want_on hS90 rfl rfl rfl hb91) rfl rfl (r_move hS90 rfl rfl) fun a95 hS95 => st_valW hS95 (want_on hS95 rfl rfl rfl hb91) rfl rfl (r_move hS95 rfl rfl) fun a96 hS96 => st_valW hS96 (want_on hS96 rfl rfl rfl hb91) rfl rfl (r_bin hS96 rfl rfl rfl b_eql) fun a97 hS97 => st_val hS97 rfl rfl rfl (r_pickT hS97 rfl rfl rfl hb91) fun a98 hS98 => hk _ (hS98.re ⟨rfl, rfl, rfl, rfl, (by rw [hb91]; rfl), trivial⟩)
      · refine st_off hS90 (want_off hS90 rfl rfl rfl hb91) rfl rfl fun a99 hS99 => st_off hS99 (want_off hS99 rfl rfl rfl hb91) rfl rfl fun a100 hS100 => st_off hS100 (want_off hS100 rfl rfl rfl hb91) rfl rfl fun a101 hS101 => st_val hS101 rfl rfl rfl (r_pickF hS101 rfl rfl rfl hb91) fun a102 hS102 => hk _ (hS102.re ⟨rfl, rfl, rfl, rfl, (by rw [hb91]; rfl), trivial⟩)
    intro a103 hS103
    refine st_val hS103 rfl rfl rfl (r_move hS103 rfl rfl) fun a104 hS104 => ?_
    refine g_joinR 4 (fun a w114 => ∃ (g114 : Nat → Nat), Sl 73 a [(13, .slice A61 r59.1.length cap62), (15, .slice A76 r74.1.length cap77), (64, .bool t112)] ∧ OwS (kint .i64) 3 w114 g114 (N + 6) A61 cap62 r59.1 ∧ OwS (kint .i64) 3 w114 g114 (N + 8) A76 cap77 r74.1 ∧ Fr (fun q => N ≤ q) w g w114 g114) ?_ (fun hk => ?_)
    rotate_left
    · rcases Bool.eq_false_or_eq_true (((r29.2 == r44.2) && (r59.2 == r74.2))) with hb105 | hb105
      · have H := ite_t hb105 ht113
        obtain ⟨r117, hr118, H⟩ := bind_el H
        have e121 := Option.some.inj H
        refine st_valW hS104 (want_on hS104 rfl rfl rfl hb105) rfl rfl (r_move hS104 rfl rfl) fun a115 hS115 => st_valW hS115 (want_on hS115 rfl rfl rfl hb105) rfl rfl (r_move hS115 rfl rfl) fun a116 hS116 => ?_
        refine st_enterW hS116 (want_on hS116 rfl rfl rfl hb105) rfl rfl (r_call hS116 rfl rfl (by kernel_rfl)) (help_Equal_int.calls (C0 := (fun q => q = N + 2)) (C1 := (fun q => q = N + 4)) (p0 := r29.1) (p1 := r44.1) (g := g81) (N + 10)  (OwD.rdf (fun _ _ _ _ _ _ h => h) h33) (fun q (hq : q = N + 2) => by omega) (OwD.rdf (fun _ _ _ _ _ _ h => h) h48) (fun q (hq : q = N + 4) => by omega) hr118) ?_
        rintro _ a119 w120 ⟨g120, rfl, F120⟩ hS119
        replace h33 := OwS.fr h33 F120 (fun c' hc (hm : N + 10 ≤ c') => by omega)
        replace h48 := OwS.fr h48 F120 (fun c' hc (hm : N + 10 ≤ c') => by omega)
        replace h63 := OwS.fr h63 F120 (fun c' hc (hm : N + 10 ≤ c') => by omega)
        replace h78 := OwS.fr h78 F120 (fun c' hc (hm : N + 10 ≤ c') => by omega)
        replace hF := hF.trans F120 (fun c' (hm : N + 10 ≤ c') => by show N ≤ c'; omega)
        refine st_val hS119 rfl rfl rfl (r_pickT hS119 rfl rfl rfl hb105) fun a122 hS122 => hk _ _ ?_
        exact ⟨g120, hS122.re ⟨rfl, rfl, (by rw [← e121]; rfl), trivial⟩, h63, h78, hF⟩
      · have H := ite_f hb105 ht113
        have e123 := Option.some.inj H
        refine st_off hS104 (want_off hS104 rfl rfl rfl hb105) rfl rfl fun a124 hS124 => st_off hS124 (want_off hS124 rfl rfl rfl hb105) rfl rfl fun a125 hS125 => st_off hS125 (want_off hS125 rfl rfl rfl hb105) rfl rfl fun a126 hS126 => st_val hS126 rfl rfl rfl (r_pickF hS126 rfl rfl rfl hb105) fun a127 hS127 => hk _ _ ?_
        exact ⟨g81, hS127.re ⟨rfl, rfl, (by rw [← e123]; rfl), trivial⟩, h63, h78, hF⟩
    rintro a128 w114 ⟨g114, hS128, h63, h78, hF⟩
    refine st_val hS128 rfl rfl rfl (r_move hS128 rfl rfl) fun a129 hS129 => ?_
    refine g_joinR 4 (fun a w139 => ∃ (g139 : Nat → Nat), Sl 73 a [(69, .bool t137)] ∧ Fr (fun q => N ≤ q) w g w139 g139) ?_ (fun hk => ?_)
    rotate_left
    · rcases Bool.eq_false_or_eq_true (t112) with hb130 | hb130
      · have H := ite_t hb130 ht138
        obtain ⟨r142, hr143, H⟩ := bind_el H
        have e146 := Option.some.inj H
        refine st_valW hS129 (want_on hS129 rfl rfl rfl hb130) rfl rfl (r_move hS129 rfl rfl) fun a140 hS140 => st_valW hS140 (want_on hS140 rfl rfl rfl hb130) rfl rfl (r_move hS140 rfl rfl) fun a141 hS141 => ?_
        refine st_enterW hS141 (want_on hS141 rfl rfl rfl hb130) rfl rfl (r_call hS141 rfl rfl (by kernel_rfl)) (help_Equal_int.calls (C0 := (fun q => q = N + 6)) (C1 := (fun q => q = N + 8)) (p0 := r59.1) (p1 := r74.1) (g := g114) (N + 10)  (OwD.rdf (fun _ _ _ _ _ _ h => h) h63) (fun q (hq : q = N + 6) => by omega) (OwD.rdf (fun _ _ _ _ _ _ h => h) h78) (fun q (hq : q = N + 8) => by omega) hr143) ?_
        rintro _ a144 w145 ⟨g145, rfl, F145⟩ hS144
        replace h63 := OwS.fr h63 F145 (fun c' hc (hm : N + 10 ≤ c') => by omega)
        replace h78 := OwS.fr h78 F145 (fun c' hc (hm : N + 10 ≤ c') => by omega)
        replace hF := hF.trans F145 (fun c' (hm : N + 10 ≤ c') => by show N ≤ c'; omega)
        refine st_val hS144 rfl rfl rfl (r_pickT hS144 rfl rfl rfl hb130) fun a147 hS147 => hk _ _ ?_
        exact ⟨g145, hS147.re ⟨(by rw [← e146]; rfl), trivial⟩, hF⟩
      · have H := ite_f hb130 ht138
        have e148 := Option.some.inj H
        refine st_off hS129 (want_off hS129 rfl rfl rfl hb130) rfl rfl fun a149 hS149 => st_off hS149 (want_off hS149 rfl rfl rfl hb130) rfl rfl fun a150 hS150 => st_off hS150 (want_off hS150 rfl rfl rfl hb130) rfl rfl fun a151 hS151 => st_val hS151 rfl rfl rfl (r_pickF hS151 rfl rfl rfl hb130) fun a152 hS152 => hk _ _ ?_
        exact ⟨g114, hS152.re ⟨(by rw [← e148]; rfl), trivial⟩, hF⟩
    rintro a153 w139 ⟨g139, hS153, hF⟩
    refine st_val hS153 rfl rfl rfl (r_move hS153 rfl rfl) fun a154 hS154 => ?_
    refine g_joinR 2 (fun a w162 => ∃ (g162 : Nat → Nat), Sl 73 a [(72, .bool t160)] ∧ Fr (fun q => N ≤ q) w g w162 g162) ?_ (fun hk => ?_)
    rotate_left
    · rcases Bool.eq_false_or_eq_true (t137) with hb155 | hb155
      · have H := ite_t hb155 ht161
        obtain ⟨r163, hr164, H⟩ := bind_el H
        have e167 := Option.some.inj H
        refine st_enterW hS154 (want_on hS154 rfl rfl rfl hb155) rfl rfl (r_call hS154 rfl rfl (by kernel_rfl)) (law24_awake.calls (g := g139) (N + 10)   hr164) ?_
        rintro _ a165 w166 ⟨g166, rfl, F166⟩ hS165
        replace hF := hF.trans F166 (fun c' (hm : N + 10 ≤ c') => by show N ≤ c'; omega)
        refine st_val hS165 rfl rfl rfl (r_pickT hS165 rfl rfl rfl hb155) fun a168 hS168 => hk _ _ ?_
        exact ⟨g166, hS168.re ⟨(by rw [← e167]; rfl), trivial⟩, hF⟩
      · have H := ite_f hb155 ht161
        have e169 := Option.some.inj H
        refine st_off hS154 (want_off hS154 rfl rfl rfl hb155) rfl rfl fun a170 hS170 => st_val hS170 rfl rfl rfl (r_pickF hS170 rfl rfl rfl hb155) fun a171 hS171 => hk _ _ ?_
        exact ⟨g139, hS171.re ⟨(by rw [← e169]; rfl), trivial⟩, hF⟩
    rintro a172 w162 ⟨g162, hS172, hF⟩
    refine st_val hS172 rfl rfl rfl (r_assign hS172 rfl rfl) fun a173 hS173 => wpList_nil (hK _ _ ?_)
    replace hS : Sl 73 _ [(6, .bool t160)] := hS173.re ⟨rfl, trivial⟩
    clear hK K
    try clear hS87 hS88 hS89 hS90 hS103 hS104 hS128 hS129 hS153 hS154 hS172 hS173
    obtain ⟨a, ha⟩ : ∃ a', a' = a173 := ⟨_, rfl⟩
    rw [← ha] at hS ⊢; clear ha
    refine wp_ret ?_
    have e := Option.some.inj H
    subst e
    repeat (with_reducible first | refine then_ret ?_ | refine inBlock_ret ?_)
    exact c_ret1 hS Try.results3 rfl ⟨_, rfl, g162, rfl, hF⟩

/-- What is left of law24_DepgraphOrderAgrees: about plain values alone. -/
def law24_DepgraphOrderAgrees.Pure : Prop := ∀ (p0 : Int) (p1 : List api_Link) (p2 : Bool), (Lit.int .i64 p0).wf = true → (p1.length ≤ maxLen ∧ ∀ p1' ∈ p1, Wf_api_Link p1') → law24_DepgraphOrderAgrees.f p0 p1 p2 = some true

end Go.Proofs.Ytphgandhncmaoaa.Sim
