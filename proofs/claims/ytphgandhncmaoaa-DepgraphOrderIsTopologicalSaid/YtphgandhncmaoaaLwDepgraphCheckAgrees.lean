/-
  Printed by a program of this session (wip/tools): plain functions with the same answers as the Go functions, and the proofs of it.
-/
import Derived.Test.YtphgandhncmaoaaFn
import Derived.Test.YtphgandhncmaoaaOp
namespace Go.Proofs.Ytphgandhncmaoaa.Sim
open Go
set_option linter.unusedVariables false
set_option linter.unusedSimpArgs false

/-! ### law24_DepgraphCheckAgrees: function 8 -/
def law24_DepgraphCheckAgrees.f (p0 : Int) (p1 : List api_Link) : Option (Bool) := if decide (40 < (p1.length : Int)) = true then ((law24_awake.f ).bind fun r6 => some r6) else ((law24_Graph.f p0 p1 false).bind fun r13 => (law24_Graph.f p0 p1 true).bind fun r28 => (depgraph_Check.f p0 p1).bind fun r43 => (ref24_Check.f p0 p1).bind fun r49 => (if (r43 == r49) = true then (depgraph_Check.f r13.1 r13.2).bind fun r58 => (ref24_Check.f r13.1 r13.2).bind fun r64 => some (r58 == r64) else some false).bind fun t69 => (if t69 = true then (depgraph_Check.f r28.1 r28.2).bind fun r101 => (ref24_Check.f r28.1 r28.2).bind fun r107 => some (r101 == r107) else some false).bind fun t112 => (if t112 = true then (law24_awake.f ).bind fun r142 => some r142 else some false).bind fun t146 => some t146)
set_option maxRecDepth 100000 in
set_option maxHeartbeats 4000000 in
theorem law24_DepgraphCheckAgrees.calls {p0 : Int} {p1 : List api_Link} {A1 : Option Addr} {cap1 : Nat} {C1 : Nat → Prop} {w : World} {g : Nat → Nat} {out : Bool} (N : Nat) (hp1 : RdS kd_api_Link w g C1 A1 cap1 p1) (hC1 : ∀ c, C1 c → c < N) (H : law24_DepgraphCheckAgrees.f p0 p1 = some out) :
    Calls Try.prog 8 #[.int .i64 p0, .slice A1 p1.length cap1] w (fun e w' => ∃ v, e = .returned v ∧ ∃ (g' : Nat → Nat), v = .bool out ∧ Fr (fun q => N ≤ q) w g w' g') := by
  unfold law24_DepgraphCheckAgrees.f at H
  refine calls_enter Try.func8 rfl Try.ntmps8 rfl (fun a hS => ?_)
  replace hS : Sl 53 a [(0, .int .i64 p0), (1, .slice A1 p1.length cap1)] := hS
  have hF : Fr (fun q => N ≤ q) w g w g := Fr.refl _ _ _
  refine c_pure [(0, .int .i64 p0), (1, .slice A1 p1.length cap1)] (fun R hR => st_val hS rfl rfl rfl (r_assign hS rfl rfl) fun a1 hS1 => wpList_nil (hR _ (hS1.re ⟨rfl, rfl, trivial⟩))) ?_
  clear hS
  clear a
  intro a hS
  refine wp_seq ?_
  refine c_pure [(0, .int .i64 p0), (1, .slice A1 p1.length cap1), (11, .bool (decide (40 < (p1.length : Int))))] (fun R hR => st_val hS rfl rfl rfl (r_move hS rfl rfl) fun a2 hS2 => st_val hS2 rfl rfl rfl (r_len (e := 34) (sz := 2) (by_ := 16) hS2 rfl rfl (by kernel_rfl)) fun a3 hS3 => st_val hS3 rfl rfl rfl (r_bin hS3 rfl rfl rfl b_gtr) fun a4 hS4 => wpList_nil (hR _ (hS4.re ⟨rfl, rfl, rfl, trivial⟩))) ?_
  clear hS
  clear a
  intro a hS
  refine c_cond hS rfl (fun hb5 => ?_) (fun hb5 => ?_)
  · replace H := ite_t hb5 H
    obtain ⟨r6, hr7, H⟩ := bind_el H
    refine c_region (fun K hK => ?_)
    refine st_enter hS rfl rfl rfl (r_call hS rfl rfl (by kernel_rfl)) (law24_awake.calls (g := g) (N + 4)   hr7) ?_
    rintro _ a8 w9 ⟨g9, rfl, F9⟩ hS8
    replace hp1 := RdS.fr hp1 F9 (by decide) (fun q (hq : C1 q) (hm : N + 4 ≤ q) => by have := hC1 q hq; omega)
    replace hF := hF.trans F9 (fun c' (hm : N + 4 ≤ c') => by show N ≤ c'; omega)
    refine st_val hS8 rfl rfl rfl (r_assign hS8 rfl rfl) fun a10 hS10 => wpList_nil (hK _ _ ?_)
    replace hS : Sl 53 _ [(4, .bool r6)] := hS10.re ⟨rfl, trivial⟩
    clear hK K
    try clear hS8 hS10
    obtain ⟨a, ha⟩ : ∃ a', a' = a10 := ⟨_, rfl⟩
    rw [← ha] at hS ⊢; clear ha
    refine wp_ret ?_
    have e := Option.some.inj H
    subst e
    repeat (with_reducible first | refine then_ret ?_ | refine inBlock_ret ?_)
    exact c_ret1 hS Try.results8 rfl ⟨_, rfl, g9, rfl, hF⟩
  · replace H := ite_f hb5 H
    refine wp_skip ?_
    change Code.wp _ _ _ _ _
    obtain ⟨r13, hr14, H⟩ := bind_el H
    refine c_region (fun K hK => ?_)
    refine st_val hS rfl rfl rfl (r_move hS rfl rfl) fun a11 hS11 => st_val hS11 rfl rfl rfl (r_move hS11 rfl rfl) fun a12 hS12 => ?_
    refine st_enter hS12 rfl rfl rfl (r_call hS12 rfl rfl (by kernel_rfl)) (law24_Graph.calls (C1 := C1) (p0 := p0) (p1 := p1) (p2 := false) (g := g) (N + 4) (N + 0) hp1 (fun q (hq : C1 q) => by have := hC1 q hq; omega) (by omega) hr14) ?_
    rintro _ a19 w20 ⟨g20, A15, cap16, rfl, h17, F20⟩ hS19
    replace hp1 := RdS.fr hp1 F20 (by decide) (fun q (hq : C1 q) (hm : (N + 0 ≤ q ∧ q < N + 0 + 2) ∨ N + 4 ≤ q) => by have := hC1 q hq; omega)
    replace hF := hF.trans F20 (fun c' (hm : (N + 0 ≤ c' ∧ c' < N + 0 + 2) ∨ N + 4 ≤ c') => by show N ≤ c'; omega)
    refine st_val hS19 rfl rfl rfl (r_move hS19 rfl rfl) fun a21 hS21 => st_val hS21 rfl rfl rfl (r_extract hS21 rfl rfl rfl) fun a22 hS22 => st_val hS22 rfl rfl rfl (r_extract hS22 rfl rfl rfl) fun a23 hS23 => st_val hS23 rfl rfl rfl (r_assign hS23 rfl rfl) fun a24 hS24 => st_val hS24 rfl rfl rfl (r_assign hS24 rfl rfl) fun a25 hS25 => wpList_nil (hK _ _ ?_)
    replace hS : Sl 53 _ [(0, .int .i64 p0), (1, .slice A1 p1.length cap1), (5, .int .i64 r13.1), (6, .slice A15 r13.2.length cap16)] := hS25.re ⟨rfl, rfl, rfl, rfl, trivial⟩
    clear hK K
    try clear hS11 hS12 hS19 hS21 hS22 hS23 hS24 hS25
    obtain ⟨a, ha⟩ : ∃ a', a' = a25 := ⟨_, rfl⟩
    rw [← ha] at hS ⊢; clear ha
    obtain ⟨r28, hr29, H⟩ := bind_el H
    refine c_region (fun K hK => ?_)
    refine st_val hS rfl rfl rfl (r_move hS rfl rfl) fun a26 hS26 => st_val hS26 rfl rfl rfl (r_move hS26 rfl rfl) fun a27 hS27 => ?_
    refine st_enter hS27 rfl rfl rfl (r_call hS27 rfl rfl (by kernel_rfl)) (law24_Graph.calls (C1 := C1) (p0 := p0) (p1 := p1) (p2 := true) (g := g20) (N + 4) (N + 2) hp1 (fun q (hq : C1 q) => by have := hC1 q hq; omega) (by omega) hr29) ?_
    rintro _ a34 w35 ⟨g35, A30, cap31, rfl, h32, F35⟩ hS34
    replace h17 := OwS.fr h17 F35 (fun c' hc (hm : (N + 2 ≤ c' ∧ c' < N + 2 + 2) ∨ N + 4 ≤ c') => by omega)
    replace hp1 := RdS.fr hp1 F35 (by decide) (fun q (hq : C1 q) (hm : (N + 2 ≤ q ∧ q < N + 2 + 2) ∨ N + 4 ≤ q) => by have := hC1 q hq; omega)
    replace hF := hF.trans F35 (fun c' (hm : (N + 2 ≤ c' ∧ c' < N + 2 + 2) ∨ N + 4 ≤ c') => by show N ≤ c'; omega)
    refine st_val hS34 rfl rfl rfl (r_move hS34 rfl rfl) fun a36 hS36 => st_val hS36 rfl rfl rfl (r_extract hS36 rfl rfl rfl) fun a37 hS37 => st_val hS37 rfl rfl rfl (r_extract hS37 rfl rfl rfl) fun a38 hS38 => st_val hS38 rfl rfl rfl (r_assign hS38 rfl rfl) fun a39 hS39 => st_val hS39 rfl rfl rfl (r_assign hS39 rfl rfl) fun a40 hS40 => wpList_nil (hK _ _ ?_)
    replace hS : Sl 53 _ [(0, .int .i64 p0), (1, .slice A1 p1.length cap1), (5, .int .i64 r13.1), (6, .slice A15 r13.2.length cap16), (7, .int .i64 r28.1), (8, .slice A30 r28.2.length cap31)] := hS40.re ⟨rfl, rfl, rfl, rfl, rfl, rfl, trivial⟩
    clear hK K
    try clear hS26 hS27 hS34 hS36 hS37 hS38 hS39 hS40
    obtain ⟨a, ha⟩ : ∃ a', a' = a40 := ⟨_, rfl⟩
    rw [← ha] at hS ⊢; clear ha
    obtain ⟨r43, hr44, H⟩ := bind_el H
    obtain ⟨r49, hr50, H⟩ := bind_el H
    obtain ⟨t69, ht70, H⟩ := bind_el H
    obtain ⟨t112, ht113, H⟩ := bind_el H
    obtain ⟨t146, ht147, H⟩ := bind_el H
    refine c_region (fun K hK => ?_)
    refine st_val hS rfl rfl rfl (r_move hS rfl rfl) fun a41 hS41 => st_val hS41 rfl rfl rfl (r_move hS41 rfl rfl) fun a42 hS42 => ?_
    refine st_enter hS42 rfl rfl rfl (r_call hS42 rfl rfl (by kernel_rfl)) (depgraph_Check.calls (C1 := C1) (p0 := p0) (p1 := p1) (g := g35) (N + 4)  hp1 (fun q (hq : C1 q) => by have := hC1 q hq; omega) hr44) ?_
    rintro _ a45 w46 ⟨g46, rfl, F46⟩ hS45
    replace h17 := OwS.fr h17 F46 (fun c' hc (hm : N + 4 ≤ c') => by omega)
    replace h32 := OwS.fr h32 F46 (fun c' hc (hm : N + 4 ≤ c') => by omega)
    replace hp1 := RdS.fr hp1 F46 (by decide) (fun q (hq : C1 q) (hm : N + 4 ≤ q) => by have := hC1 q hq; omega)
    replace hF := hF.trans F46 (fun c' (hm : N + 4 ≤ c') => by show N ≤ c'; omega)
    refine st_val hS45 rfl rfl rfl (r_move hS45 rfl rfl) fun a47 hS47 => st_val hS47 rfl rfl rfl (r_move hS47 rfl rfl) fun a48 hS48 => ?_
    refine st_enter hS48 rfl rfl rfl (r_call hS48 rfl rfl (by kernel_rfl)) (ref24_Check.calls (C1 := C1) (p0 := p0) (p1 := p1) (g := g46) (N + 4)  hp1 (fun q (hq : C1 q) => by have := hC1 q hq; omega) hr50) ?_
    rintro _ a51 w52 ⟨g52, rfl, F52⟩ hS51
    replace h17 := OwS.fr h17 F52 (fun c' hc (hm : N + 4 ≤ c') => by omega)
    replace h32 := OwS.fr h32 F52 (fun c' hc (hm : N + 4 ≤ c') => by omega)
    replace hp1 := RdS.fr hp1 F52 (by decide) (fun q (hq : C1 q) (hm : N + 4 ≤ q) => by have := hC1 q hq; omega)
    replace hF := hF.trans F52 (fun c' (hm : N + 4 ≤ c') => by show N ≤ c'; omega)
    refine st_val hS51 rfl rfl rfl (r_bin hS51 rfl rfl rfl b_eql) fun a53 hS53 => st_val hS53 rfl rfl rfl (r_move hS53 rfl rfl) fun a54 hS54 => ?_
    refine g_joinR 8 (fun a w71 => ∃ (g71 : Nat → Nat), Sl 53 a [(7, .int .i64 r28.1), (8, .slice A30 r28.2.length cap31), (40, .bool t69)] ∧ OwS kd_api_Link 34 w71 g71 (N + 2) A30 cap31 r28.2 ∧ Fr (fun q => N ≤ q) w g w71 g71) ?_ (fun hk => ?_)
    rotate_left
    · rcases Bool.eq_false_or_eq_true ((r43 == r49)) with hb55 | hb55
      · have H := ite_t hb55 ht70
        obtain ⟨r74, hr75, H⟩ := bind_el H
        obtain ⟨r80, hr81, H⟩ := bind_el H
        have e85 := Option.some.inj H
        refine st_valW hS54 (want_on hS54 rfl rfl rfl hb55) rfl rfl (r_move hS54 rfl rfl) fun a72 hS72 => st_valW hS72 (want_on hS72 rfl rfl rfl hb55) rfl rfl (r_move hS72 rfl rfl) fun a73 hS73 => ?_
        refine st_enterW hS73 (want_on hS73 rfl rfl rfl hb55) rfl rfl (r_call hS73 rfl rfl (by kernel_rfl)) (depgraph_Check.calls (C1 := (fun q => q = N + 0)) (p0 := r13.1) (p1 := r13.2) (g := g52) (N + 4)  (OwD.rdf (fun _ _ _ _ _ _ h => h) h17) (fun q (hq : q = N + 0) => by omega) hr75) ?_
        rintro _ a76 w77 ⟨g77, rfl, F77⟩ hS76
        replace h17 := OwS.fr h17 F77 (fun c' hc (hm : N + 4 ≤ c') => by omega)
        replace h32 := OwS.fr h32 F77 (fun c' hc (hm : N + 4 ≤ c') => by omega)
        replace hp1 := RdS.fr hp1 F77 (by decide) (fun q (hq : C1 q) (hm : N + 4 ≤ q) => by have := hC1 q hq; omega)
        replace hF := hF.trans F77 (fun c' (hm : N + 4 ≤ c') => by show N ≤ c'; omega)
        refine st_valW hS76 (want_on hS76 rfl rfl rfl hb55) rfl rfl (r_move hS76 rfl rfl) fun a78 hS78 => st_valW hS78 (want_on hS78 rfl rfl rfl hb55) rfl rfl (r_move hS78 rfl rfl) fun a79 hS79 => ?_
        refine st_enterW hS79 (want_on hS79 rfl rfl rfl hb55) rfl rfl (r_call hS79 rfl rfl (by kernel_rfl)) (ref24_Check.calls (C1 := (fun q => q = N + 0)) (p0 := r13.1) (p1 := r13.2) (g := g77) (N + 4)  (OwD.rdf (fun _ _ _ _ _ _ h => h) h17) (fun q (hq : q = N + 0) => by omega) hr81) ?_
        rintro _ a82 w83 ⟨g83, rfl, F83⟩ hS82
        replace h17 := OwS.fr h17 F83 (fun c' hc (hm : N + 4 ≤ c') => by omega)
        replace h32 := OwS.fr h32 F83 (fun c' hc (hm : N + 4 ≤ c') => by omega)
        replace hp1 := RdS.fr hp1 F83 (by decide) (fun q (hq : C1 q) (hm : N + 4 ≤ q) => by have := hC1 q hq; omega)
        replace hF := hF.trans F83 (fun c' (hm : N + 4 ≤ c') => by show N ≤ c'; omega)
        refine st_valW hS82 (want_on hS82 rfl rfl rfl hb55) rfl rfl (r_bin hS82 rfl rfl rfl b_eql) fun a84 hS84 => ?_
        refine st_val hS84 rfl rfl rfl (r_pickT hS84 rfl rfl rfl hb55) fun a86 hS86 => hk _ _ ?_
        exact ⟨g83, hS86.re ⟨rfl, rfl, (by rw [← e85]; rfl), trivial⟩, h32, hF⟩
      · have H := ite_f hb55 ht70
        have e87 := Option.some.inj H
        refine st_off hS54 (want_off hS54 rfl rfl rfl hb55) rfl rfl fun a88 hS88 => st_off hS88 (want_off hS88 rfl rfl rfl hb55) rfl rfl fun a89 hS89 => st_off hS89 (want_off hS89 rfl rfl rfl hb55) rfl rfl fun a90 hS90 => st_off hS90 (want_off hS90 rfl rfl rfl hb55) rfl rfl fun a91 hS91 => st_off hS91 (want_off hS91 rfl rfl rfl hb55) rfl rfl fun a92 hS92 => st_off hS92 (want_off hS92 rfl rfl rfl hb55) rfl rfl fun a93 hS93 => st_off hS93 (want_off hS93 rfl rfl rfl hb55) rfl rfl fun a94 hS94 => st_val hS94 rfl rfl rfl (r_pickF hS94 rfl rfl rfl hb55) fun a95 hS95 => hk _ _ ?_
        exact ⟨g52, hS95.re ⟨rfl, rfl, (by rw [← e87]; rfl), trivial⟩, h32, hF⟩
    rintro a96 w71 ⟨g71, hS96, h32, hF⟩
    refine st_val hS96 rfl rfl rfl (r_move hS96 rfl rfl) fun a97 hS97 => ?_
    refine g_joinR 8 (fun a w114 => ∃ (g114 : Nat → Nat), Sl 53 a [(49, .bool t112)] ∧ Fr (fun q => N ≤ q) w g w114 g114) ?_ (fun hk => ?_)
    rotate_left
    · rcases Bool.eq_false_or_eq_true (t69) with hb98 | hb98
      · have H := ite_t hb98 ht113
        obtain ⟨r117, hr118, H⟩ := bind_el H
        obtain ⟨r123, hr124, H⟩ := bind_el H
        have e128 := Option.some.inj H
        refine st_valW hS97 (want_on hS97 rfl rfl rfl hb98) rfl rfl (r_move hS97 rfl rfl) fun a115 hS115 => st_valW hS115 (want_on hS115 rfl rfl rfl hb98) rfl rfl (r_move hS115 rfl rfl) fun a116 hS116 => ?_
        refine st_enterW hS116 (want_on hS116 rfl rfl rfl hb98) rfl rfl (r_call hS116 rfl rfl (by kernel_rfl)) (depgraph_Check.calls (C1 := (fun q => q = N + 2)) (p0 := r28.1) (p1 := r28.2) (g := g71) (N + 4)  (OwD.rdf (fun _ _ _ _ _ _ h => h) h32) (fun q (hq : q = N + 2) => by omega) hr118) ?_
        rintro _ a119 w120 ⟨g120, rfl, F120⟩ hS119
        replace h32 := OwS.fr h32 F120 (fun c' hc (hm : N + 4 ≤ c') => by omega)
        replace hF := hF.trans F120 (fun c' (hm : N + 4 ≤ c') => by show N ≤ c'; omega)
        refine st_valW hS119 (want_on hS119 rfl rfl rfl hb98) rfl rfl (r_move hS119 rfl rfl) fun a121 hS121 => st_valW hS121 (want_on hS121 rfl rfl rfl hb98) rfl rfl (r_move hS121 rfl rfl) fun a122 hS122 => ?_
        refine st_enterW hS122 (want_on hS122 rfl rfl rfl hb98) rfl rfl (r_call hS122 rfl rfl (by kernel_rfl)) (ref24_Check.calls (C1 := (fun q => q = N + 2)) (p0 := r28.1) (p1 := r28.2) (g := g120) (N + 4)  (OwD.rdf (fun _ _ _ _ _ _ h => h) h32) (fun q (hq : q = N + 2) => by omega) hr124) ?_
        rintro _ a125 w126 ⟨g126, rfl, F126⟩ hS125
        replace h32 := OwS.fr h32 F126 (fun c' hc (hm : N + 4 ≤ c') => by omega)
        replace hF := hF.trans F126 (fun c' (hm : N + 4 ≤ c') => by show N ≤ c'; omega)
        refine st_valW hS125 (want_on hS125 rfl rfl rfl hb98) rfl rfl (r_bin hS125 rfl rfl rfl b_eql) fun a127 hS127 => ?_
        refine st_val hS127 rfl rfl rfl (r_pickT hS127 rfl rfl rfl hb98) fun a129 hS129 => hk _ _ ?_
        exact ⟨g126, hS129.re ⟨(by rw [← e128]; rfl), trivial⟩, hF⟩
      · have H := ite_f hb98 ht113
        have e130 := Option.some.inj H
        refine st_off hS97 (want_off hS97 rfl rfl rfl hb98) rfl rfl fun a131 hS131 => st_off hS131 (want_off hS131 rfl rfl rfl hb98) rfl rfl fun a132 hS132 => st_off hS132 (want_off hS132 rfl rfl rfl hb98) rfl rfl fun a133 hS133 => st_off hS133 (want_off hS133 rfl rfl rfl hb98) rfl rfl fun a134 hS134 => st_off hS134 (want_off hS134 rfl rfl rfl hb98) rfl rfl fun a135 hS135 => st_off hS135 (want_off hS135 rfl rfl rfl hb98) rfl rfl fun a136 hS136 => st_off hS136 (want_off hS136 rfl rfl rfl hb98) rfl rfl fun a137 hS137 => st_val hS137 rfl rfl rfl (r_pickF hS137 rfl rfl rfl hb98) fun a138 hS138 => hk _ _ ?_
        exact ⟨g71, hS138.re ⟨(by rw [← e130]; rfl), trivial⟩, hF⟩
    rintro a139 w114 ⟨g114, hS139, hF⟩
    refine st_val hS139 rfl rfl rfl (r_move hS139 rfl rfl) fun a140 hS140 => ?_
    refine g_joinR 2 (fun a w148 => ∃ (g148 : Nat → Nat), Sl 53 a [(52, .bool t146)] ∧ Fr (fun q => N ≤ q) w g w148 g148) ?_ (fun hk => ?_)
    rotate_left
    · rcases Bool.eq_false_or_eq_true (t112) with hb141 | hb141
      · have H := ite_t hb141 ht147
        obtain ⟨r149, hr150, H⟩ := bind_el H
        have e153 := Option.some.inj H
        refine st_enterW hS140 (want_on hS140 rfl rfl rfl hb141) rfl rfl (r_call hS140 rfl rfl (by kernel_rfl)) (law24_awake.calls (g := g114) (N + 4)   hr150) ?_
        rintro _ a151 w152 ⟨g152, rfl, F152⟩ hS151
        replace hF := hF.trans F152 (fun c' (hm : N + 4 ≤ c') => by show N ≤ c'; omega)
        refine st_val hS151 rfl rfl rfl (r_pickT hS151 rfl rfl rfl hb141) fun a154 hS154 => hk _ _ ?_
        exact ⟨g152, hS154.re ⟨(by rw [← e153]; rfl), trivial⟩, hF⟩
      · have H := ite_f hb141 ht147
        have e155 := Option.some.inj H
        refine st_off hS140 (want_off hS140 rfl rfl rfl hb141) rfl rfl fun a156 hS156 => st_val hS156 rfl rfl rfl (r_pickF hS156 rfl rfl rfl hb141) fun a157 hS157 => hk _ _ ?_
        exact ⟨g114, hS157.re ⟨(by rw [← e155]; rfl), trivial⟩, hF⟩
    rintro a158 w148 ⟨g148, hS158, hF⟩
    refine st_val hS158 rfl rfl rfl (r_assign hS158 rfl rfl) fun a159 hS159 => wpList_nil (hK _ _ ?_)
    replace hS : Sl 53 _ [(4, .bool t146)] := hS159.re ⟨rfl, trivial⟩
    clear hK K
    try clear hS41 hS42 hS45 hS47 hS48 hS51 hS53 hS54 hS96 hS97 hS139 hS140 hS158 hS159
    obtain ⟨a, ha⟩ : ∃ a', a' = a159 := ⟨_, rfl⟩
    rw [← ha] at hS ⊢; clear ha
    refine wp_ret ?_
    have e := Option.some.inj H
    subst e
    repeat (with_reducible first | refine then_ret ?_ | refine inBlock_ret ?_)
    exact c_ret1 hS Try.results8 rfl ⟨_, rfl, g148, rfl, hF⟩

/-- What is left of law24_DepgraphCheckAgrees: about plain values alone. -/
def law24_DepgraphCheckAgrees.Pure : Prop := ∀ (p0 : Int) (p1 : List api_Link), (Lit.int .i64 p0).wf = true → (p1.length ≤ maxLen ∧ ∀ p1' ∈ p1, Wf_api_Link p1') → law24_DepgraphCheckAgrees.f p0 p1 = some true

end Go.Proofs.Ytphgandhncmaoaa.Sim
