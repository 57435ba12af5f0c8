/-
  Printed by a program of this session (wip/tools): plain functions with the same answers as the Go functions, and the proofs of it.
-/
import Derived.Test.YtphgandhncmaoaaFn
import Derived.Test.YtphgandhncmaoaaOp
namespace Go.Proofs.Ytphgandhncmaoaa.Sim
open Go
set_option linter.unusedVariables false
set_option linter.unusedSimpArgs false

/-! ### law24_DepgraphClosureDuality: function 11 -/
def law24_DepgraphClosureDuality.f (p0 : Int) (p1 : List api_Link) (p2 : Int) (p3 : Int) : Option (Bool) := if decide (40 < (p1.length : Int)) = true then ((law24_awake.f ).bind fun r6 => some r6) else ((law24_Graph.f p0 p1 false).bind fun r13 => if (r13.1 == 0) = true then ((law24_awake.f ).bind fun r29 => some r29) else ((help_Mod.f p2 r13.1).bind fun r36 => (help_Mod.f p3 r13.1).bind fun r42 => (depgraph_Suppliers.f r13.1 r13.2 [r36]).bind fun r56 => (depgraph_Consumers.f r13.1 r13.2 [r42]).bind fun r77 => (depgraph_Suppliers.f r13.1 r13.2 r56.1).bind fun r93 => (if (((r56.2 == 0) && (r77.2 == 0)) && (r93.2 == 0)) = true then (law24_contains.f r56.1 r42).bind fun r134 => (law24_contains.f r77.1 r36).bind fun r140 => some (r134 == r140) else some false).bind fun t145 => (if t145 = true then (law24_contains.f r56.1 r36).bind fun r177 => some r177 else some false).bind fun t181 => (if t181 = true then (help_Equal_int.f r93.1 r56.1).bind fun r202 => some r202 else some false).bind fun t206 => (if t206 = true then (law24_awake.f ).bind fun r225 => some r225 else some false).bind fun t229 => some t229))
set_option maxRecDepth 100000 in
set_option maxHeartbeats 4000000 in
theorem law24_DepgraphClosureDuality.calls {p0 : Int} {p1 : List api_Link} {A1 : Option Addr} {cap1 : Nat} {C1 : Nat → Prop} {p2 : Int} {p3 : Int} {w : World} {g : Nat → Nat} {out : Bool} (N : Nat) (hp1 : RdS kd_api_Link w g C1 A1 cap1 p1) (hC1 : ∀ c, C1 c → c < N) (H : law24_DepgraphClosureDuality.f p0 p1 p2 p3 = some out) :
    Calls Try.prog 11 #[.int .i64 p0, .slice A1 p1.length cap1, .int .i64 p2, .int .i64 p3] w (fun e w' => ∃ v, e = .returned v ∧ ∃ (g' : Nat → Nat), v = .bool out ∧ Fr (fun q => N ≤ q) w g w' g') := by
  unfold law24_DepgraphClosureDuality.f at H
  refine calls_enter Try.func11 rfl Try.ntmps11 rfl (fun a hS => ?_)
  replace hS : Sl 93 a [(0, .int .i64 p0), (1, .slice A1 p1.length cap1), (2, .int .i64 p2), (3, .int .i64 p3)] := hS
  have hF : Fr (fun q => N ≤ q) w g w g := Fr.refl _ _ _
  refine c_pure [(0, .int .i64 p0), (1, .slice A1 p1.length cap1), (2, .int .i64 p2), (3, .int .i64 p3)] (fun R hR => st_val hS rfl rfl rfl (r_assign hS rfl rfl) fun a1 hS1 => wpList_nil (hR _ (hS1.re ⟨rfl, rfl, rfl, rfl, trivial⟩))) ?_
  clear hS
  clear a
  intro a hS
  refine wp_seq ?_
  refine c_pure [(0, .int .i64 p0), (1, .slice A1 p1.length cap1), (2, .int .i64 p2), (3, .int .i64 p3), (21, .bool (decide (40 < (p1.length : Int))))] (fun R hR => st_val hS rfl rfl rfl (r_move hS rfl rfl) fun a2 hS2 => st_val hS2 rfl rfl rfl (r_len (e := 34) (sz := 2) (by_ := 16) hS2 rfl rfl (by kernel_rfl)) fun a3 hS3 => st_val hS3 rfl rfl rfl (r_bin hS3 rfl rfl rfl b_gtr) fun a4 hS4 => wpList_nil (hR _ (hS4.re ⟨rfl, rfl, rfl, rfl, rfl, trivial⟩))) ?_
  clear hS
  clear a
  intro a hS
  refine c_cond hS rfl (fun hb5 => ?_) (fun hb5 => ?_)
  · replace H := ite_t hb5 H
    obtain ⟨r6, hr7, H⟩ := bind_el H
    refine c_region (fun K hK => ?_)
    refine st_enter hS rfl rfl rfl (r_call hS rfl rfl (by kernel_rfl)) (law24_awake.calls (g := g) (N + 12)   hr7) ?_
    rintro _ a8 w9 ⟨g9, rfl, F9⟩ hS8
    replace hp1 := RdS.fr hp1 F9 (by decide) (fun q (hq : C1 q) (hm : N + 12 ≤ q) => by have := hC1 q hq; omega)
    replace hF := hF.trans F9 (fun c' (hm : N + 12 ≤ c') => by show N ≤ c'; omega)
    refine st_val hS8 rfl rfl rfl (r_assign hS8 rfl rfl) fun a10 hS10 => wpList_nil (hK _ _ ?_)
    replace hS : Sl 93 _ [(8, .bool r6)] := hS10.re ⟨rfl, trivial⟩
    clear hK K
    try clear hS8 hS10
    obtain ⟨a, ha⟩ : ∃ a', a' = a10 := ⟨_, rfl⟩
    rw [← ha] at hS ⊢; clear ha
    refine wp_ret ?_
    have e := Option.some.inj H
    subst e
    repeat (with_reducible first | refine then_ret ?_ | refine inBlock_ret ?_)
    exact c_ret1 hS Try.results11 rfl ⟨_, rfl, g9, rfl, hF⟩
  · replace H := ite_f hb5 H
    refine wp_skip ?_
    change Code.wp _ _ _ _ _
    obtain ⟨r13, hr14, H⟩ := bind_el H
    refine c_region (fun K hK => ?_)
    refine st_val hS rfl rfl rfl (r_move hS rfl rfl) fun a11 hS11 => st_val hS11 rfl rfl rfl (r_move hS11 rfl rfl) fun a12 hS12 => ?_
    refine st_enter hS12 rfl rfl rfl (r_call hS12 rfl rfl (by kernel_rfl)) (law24_Graph.calls (C1 := C1) (p0 := p0) (p1 := p1) (p2 := false) (g := g) (N + 12) (N + 0) hp1 (fun q (hq : C1 q) => by have := hC1 q hq; omega) (by omega) hr14) ?_
    rintro _ a19 w20 ⟨g20, A15, cap16, rfl, h17, F20⟩ hS19
    replace hp1 := RdS.fr hp1 F20 (by decide) (fun q (hq : C1 q) (hm : (N + 0 ≤ q ∧ q < N + 0 + 2) ∨ N + 12 ≤ q) => by have := hC1 q hq; omega)
    replace hF := hF.trans F20 (fun c' (hm : (N + 0 ≤ c' ∧ c' < N + 0 + 2) ∨ N + 12 ≤ c') => by show N ≤ c'; omega)
    refine st_val hS19 rfl rfl rfl (r_move hS19 rfl rfl) fun a21 hS21 => st_val hS21 rfl rfl rfl (r_extract hS21 rfl rfl rfl) fun a22 hS22 => st_val hS22 rfl rfl rfl (r_extract hS22 rfl rfl rfl) fun a23 hS23 => st_val hS23 rfl rfl rfl (r_assign hS23 rfl rfl) fun a24 hS24 => st_val hS24 rfl rfl rfl (r_assign hS24 rfl rfl) fun a25 hS25 => wpList_nil (hK _ _ ?_)
    replace hS : Sl 93 _ [(2, .int .i64 p2), (3, .int .i64 p3), (9, .int .i64 r13.1), (10, .slice A15 r13.2.length cap16)] := hS25.re ⟨rfl, rfl, rfl, rfl, trivial⟩
    clear hK K
    try clear hS11 hS12 hS19 hS21 hS22 hS23 hS24 hS25
    obtain ⟨a, ha⟩ : ∃ a', a' = a25 := ⟨_, rfl⟩
    rw [← ha] at hS ⊢; clear ha
    refine wp_seq ?_
    refine c_pure [(2, .int .i64 p2), (3, .int .i64 p3), (9, .int .i64 r13.1), (10, .slice A15 r13.2.length cap16), (30, .bool (r13.1 == 0))] (fun R hR => st_val hS rfl rfl rfl (r_move hS rfl rfl) fun a26 hS26 => st_val hS26 rfl rfl rfl (r_bin hS26 rfl rfl rfl b_eql) fun a27 hS27 => wpList_nil (hR _ (hS27.re ⟨rfl, rfl, rfl, rfl, rfl, trivial⟩))) ?_
    clear hS
    clear a
    intro a hS
    refine c_cond hS rfl (fun hb28 => ?_) (fun hb28 => ?_)
    · replace H := ite_t hb28 H
      obtain ⟨r29, hr30, H⟩ := bind_el H
      refine c_region (fun K hK => ?_)
      refine st_enter hS rfl rfl rfl (r_call hS rfl rfl (by kernel_rfl)) (law24_awake.calls (g := g20) (N + 12)   hr30) ?_
      rintro _ a31 w32 ⟨g32, rfl, F32⟩ hS31
      replace h17 := OwS.fr h17 F32 (fun c' hc (hm : N + 12 ≤ c') => by omega)
      replace hF := hF.trans F32 (fun c' (hm : N + 12 ≤ c') => by show N ≤ c'; omega)
      refine st_val hS31 rfl rfl rfl (r_assign hS31 rfl rfl) fun a33 hS33 => wpList_nil (hK _ _ ?_)
      replace hS : Sl 93 _ [(8, .bool r29)] := hS33.re ⟨rfl, trivial⟩
      clear hK K
      try clear hS31 hS33
      obtain ⟨a, ha⟩ : ∃ a', a' = a33 := ⟨_, rfl⟩
      rw [← ha] at hS ⊢; clear ha
      refine wp_ret ?_
      have e := Option.some.inj H
      subst e
      repeat (with_reducible first | refine then_ret ?_ | refine inBlock_ret ?_)
      exact c_ret1 hS Try.results11 rfl ⟨_, rfl, g32, rfl, hF⟩
    · replace H := ite_f hb28 H
      refine wp_skip ?_
      change Code.wp _ _ _ _ _
      obtain ⟨r36, hr37, H⟩ := bind_el H
      obtain ⟨r42, hr43, H⟩ := bind_el H
      refine c_region (fun K hK => ?_)
      refine st_val hS rfl rfl rfl (r_move hS rfl rfl) fun a34 hS34 => st_val hS34 rfl rfl rfl (r_move hS34 rfl rfl) fun a35 hS35 => ?_
      refine st_enter hS35 rfl rfl rfl (r_call hS35 rfl rfl (by kernel_rfl)) (help_Mod.calls (p0 := p2) (p1 := r13.1) (g := g20) (N + 12)   hr37) ?_
      rintro _ a38 w39 ⟨g39, rfl, F39⟩ hS38
      replace h17 := OwS.fr h17 F39 (fun c' hc (hm : N + 12 ≤ c') => by omega)
      replace hF := hF.trans F39 (fun c' (hm : N + 12 ≤ c') => by show N ≤ c'; omega)
      refine st_val hS38 rfl rfl rfl (r_move hS38 rfl rfl) fun a40 hS40 => st_val hS40 rfl rfl rfl (r_move hS40 rfl rfl) fun a41 hS41 => ?_
      refine st_enter hS41 rfl rfl rfl (r_call hS41 rfl rfl (by kernel_rfl)) (help_Mod.calls (p0 := p3) (p1 := r13.1) (g := g39) (N + 12)   hr43) ?_
      rintro _ a44 w45 ⟨g45, rfl, F45⟩ hS44
      replace h17 := OwS.fr h17 F45 (fun c' hc (hm : N + 12 ≤ c') => by omega)
      replace hF := hF.trans F45 (fun c' (hm : N + 12 ≤ c') => by show N ≤ c'; omega)
      refine st_val hS44 rfl rfl rfl (r_assign hS44 rfl rfl) fun a46 hS46 => st_val hS46 rfl rfl rfl (r_assign hS46 rfl rfl) fun a47 hS47 => wpList_nil (hK _ _ ?_)
      replace hS : Sl 93 _ [(9, .int .i64 r13.1), (10, .slice A15 r13.2.length cap16), (11, .int .i64 r36), (12, .int .i64 r42)] := hS47.re ⟨rfl, rfl, rfl, rfl, trivial⟩
      clear hK K
      try clear hS34 hS35 hS38 hS40 hS41 hS44 hS46 hS47
      obtain ⟨a, ha⟩ : ∃ a', a' = a47 := ⟨_, rfl⟩
      rw [← ha] at hS ⊢; clear ha
      obtain ⟨r56, hr57, H⟩ := bind_el H
      refine c_region (fun K hK => ?_)
      refine st_val hS rfl rfl rfl (r_move hS rfl rfl) fun a48 hS48 => st_val hS48 rfl rfl rfl (r_move hS48 rfl rfl) fun a49 hS49 => st_val hS49 rfl rfl rfl (r_move hS49 rfl rfl) fun a50 hS50 => ?_
      refine st_eff hS50 rfl rfl rfl (e_lit (e := 3) (parts := [(0, .int .i64 r36)]) (cs := [.int .i64 r36]) (kint .i64) [r36] (N + 2) g45 hS50 rfl rfl (fun _ => by kernel_rfl) rfl (by decide) (Rows.cons (cs := [.int .i64 r36]) rfl Rows.nil)) ?_
      rintro _ a54 w55 g55 ⟨⟨A51, rfl, h52⟩, F55⟩ hS54
      replace h17 := OwS.fr h17 F55 (fun _ _ h => h)
      replace hF := hF.trans F55 (fun _ h => h.elim)
      refine st_enter hS54 rfl rfl rfl (r_call hS54 rfl rfl (by kernel_rfl)) (depgraph_Suppliers.calls (C1 := (fun q => q = N + 0)) (C2 := (fun q => q = N + 2)) (p0 := r13.1) (p1 := r13.2) (p2 := [r36]) (g := g55) (N + 12) (N + 4) (OwD.rdf (fun _ _ _ _ _ _ h => h) h17) (fun q (hq : q = N + 0) => by omega) (OwD.rdf (fun _ _ _ _ _ _ h => h) h52) (fun q (hq : q = N + 2) => by omega) (by omega) hr57) ?_
      rintro _ a62 w63 ⟨g63, A58, cap59, rfl, h60, F63⟩ hS62
      replace h17 := OwS.fr h17 F63 (fun c' hc (hm : (N + 4 ≤ c' ∧ c' < N + 4 + 2) ∨ N + 12 ≤ c') => by omega)
      replace h52 := OwS.fr h52 F63 (fun c' hc (hm : (N + 4 ≤ c' ∧ c' < N + 4 + 2) ∨ N + 12 ≤ c') => by omega)
      replace hF := hF.trans F63 (fun c' (hm : (N + 4 ≤ c' ∧ c' < N + 4 + 2) ∨ N + 12 ≤ c') => by show N ≤ c'; omega)
      refine st_val hS62 rfl rfl rfl (r_move hS62 rfl rfl) fun a64 hS64 => st_val hS64 rfl rfl rfl (r_extract hS64 rfl rfl rfl) fun a65 hS65 => st_val hS65 rfl rfl rfl (r_extract hS65 rfl rfl rfl) fun a66 hS66 => st_val hS66 rfl rfl rfl (r_assign hS66 rfl rfl) fun a67 hS67 => st_val hS67 rfl rfl rfl (r_assign hS67 rfl rfl) fun a68 hS68 => wpList_nil (hK _ _ ?_)
      replace hS : Sl 93 _ [(9, .int .i64 r13.1), (10, .slice A15 r13.2.length cap16), (11, .int .i64 r36), (12, .int .i64 r42), (13, .slice A58 r56.1.length cap59), (14, .int .i64 r56.2)] := hS68.re ⟨rfl, rfl, rfl, rfl, rfl, rfl, trivial⟩
      clear hK K
      try clear hS48 hS49 hS50 hS54 hS62 hS64 hS65 hS66 hS67 hS68
      obtain ⟨a, ha⟩ : ∃ a', a' = a68 := ⟨_, rfl⟩
      rw [← ha] at hS ⊢; clear ha
      obtain ⟨r77, hr78, H⟩ := bind_el H
      refine c_region (fun K hK => ?_)
      refine st_val hS rfl rfl rfl (r_move hS rfl rfl) fun a69 hS69 => st_val hS69 rfl rfl rfl (r_move hS69 rfl rfl) fun a70 hS70 => st_val hS70 rfl rfl rfl (r_move hS70 rfl rfl) fun a71 hS71 => ?_
      refine st_eff hS71 rfl rfl rfl (e_lit (e := 3) (parts := [(0, .int .i64 r42)]) (cs := [.int .i64 r42]) (kint .i64) [r42] (N + 6) g63 hS71 rfl rfl (fun _ => by kernel_rfl) rfl (by decide) (Rows.cons (cs := [.int .i64 r42]) rfl Rows.nil)) ?_
      rintro _ a75 w76 g76 ⟨⟨A72, rfl, h73⟩, F76⟩ hS75
      replace h17 := OwS.fr h17 F76 (fun _ _ h => h)
      replace h60 := OwS.fr h60 F76 (fun _ _ h => h)
      replace hF := hF.trans F76 (fun _ h => h.elim)
      refine st_enter hS75 rfl rfl rfl (r_call hS75 rfl rfl (by kernel_rfl)) (depgraph_Consumers.calls (C1 := (fun q => q = N + 0)) (C2 := (fun q => q = N + 6)) (p0 := r13.1) (p1 := r13.2) (p2 := [r42]) (g := g76) (N + 12) (N + 8) (OwD.rdf (fun _ _ _ _ _ _ h => h) h17) (fun q (hq : q = N + 0) => by omega) (OwD.rdf (fun _ _ _ _ _ _ h => h) h73) (fun q (hq : q = N + 6) => by omega) (by omega) hr78) ?_
      rintro _ a83 w84 ⟨g84, A79, cap80, rfl, h81, F84⟩ hS83
      replace h17 := OwS.fr h17 F84 (fun c' hc (hm : (N + 8 ≤ c' ∧ c' < N + 8 + 2) ∨ N + 12 ≤ c') => by omega)
      replace h60 := OwS.fr h60 F84 (fun c' hc (hm : (N + 8 ≤ c' ∧ c' < N + 8 + 2) ∨ N + 12 ≤ c') => by omega)
      replace h73 := OwS.fr h73 F84 (fun c' hc (hm : (N + 8 ≤ c' ∧ c' < N + 8 + 2) ∨ N + 12 ≤ c') => by omega)
      replace hF := hF.trans F84 (fun c' (hm : (N + 8 ≤ c' ∧ c' < N + 8 + 2) ∨ N + 12 ≤ c') => by show N ≤ c'; omega)
      refine st_val hS83 rfl rfl rfl (r_move hS83 rfl rfl) fun a85 hS85 => st_val hS85 rfl rfl rfl (r_extract hS85 rfl rfl rfl) fun a86 hS86 => st_val hS86 rfl rfl rfl (r_extract hS86 rfl rfl rfl) fun a87 hS87 => st_val hS87 rfl rfl rfl (r_assign hS87 rfl rfl) fun a88 hS88 => st_val hS88 rfl rfl rfl (r_assign hS88 rfl rfl) fun a89 hS89 => wpList_nil (hK _ _ ?_)
      replace hS : Sl 93 _ [(9, .int .i64 r13.1), (10, .slice A15 r13.2.length cap16), (11, .int .i64 r36), (12, .int .i64 r42), (13, .slice A58 r56.1.length cap59), (14, .int .i64 r56.2), (15, .slice A79 r77.1.length cap80), (16, .int .i64 r77.2)] := hS89.re ⟨rfl, rfl, rfl, rfl, rfl, rfl, rfl, rfl, trivial⟩
      clear hK K
      try clear hS69 hS70 hS71 hS75 hS83 hS85 hS86 hS87 hS88 hS89
      obtain ⟨a, ha⟩ : ∃ a', a' = a89 := ⟨_, rfl⟩
      rw [← ha] at hS ⊢; clear ha
      obtain ⟨r93, hr94, H⟩ := bind_el H
      refine c_region (fun K hK => ?_)
      refine st_val hS rfl rfl rfl (r_move hS rfl rfl) fun a90 hS90 => st_val hS90 rfl rfl rfl (r_move hS90 rfl rfl) fun a91 hS91 => st_val hS91 rfl rfl rfl (r_move hS91 rfl rfl) fun a92 hS92 => ?_
      refine st_enter hS92 rfl rfl rfl (r_call hS92 rfl rfl (by kernel_rfl)) (depgraph_Suppliers.calls (C1 := (fun q => q = N + 0)) (C2 := (fun q => q = N + 4)) (p0 := r13.1) (p1 := r13.2) (p2 := r56.1) (g := g84) (N + 12) (N + 10) (OwD.rdf (fun _ _ _ _ _ _ h => h) h17) (fun q (hq : q = N + 0) => by omega) (OwD.rdf (fun _ _ _ _ _ _ h => h) h60) (fun q (hq : q = N + 4) => by omega) (by omega) hr94) ?_
      rintro _ a99 w100 ⟨g100, A95, cap96, rfl, h97, F100⟩ hS99
      replace h17 := OwS.fr h17 F100 (fun c' hc (hm : (N + 10 ≤ c' ∧ c' < N + 10 + 2) ∨ N + 12 ≤ c') => by omega)
      replace h60 := OwS.fr h60 F100 (fun c' hc (hm : (N + 10 ≤ c' ∧ c' < N + 10 + 2) ∨ N + 12 ≤ c') => by omega)
      replace h81 := OwS.fr h81 F100 (fun c' hc (hm : (N + 10 ≤ c' ∧ c' < N + 10 + 2) ∨ N + 12 ≤ c') => by omega)
      replace hF := hF.trans F100 (fun c' (hm : (N + 10 ≤ c' ∧ c' < N + 10 + 2) ∨ N + 12 ≤ c') => by show N ≤ c'; omega)
      refine st_val hS99 rfl rfl rfl (r_move hS99 rfl rfl) fun a101 hS101 => st_val hS101 rfl rfl rfl (r_extract hS101 rfl rfl rfl) fun a102 hS102 => st_val hS102 rfl rfl rfl (r_extract hS102 rfl rfl rfl) fun a103 hS103 => st_val hS103 rfl rfl rfl (r_assign hS103 rfl rfl) fun a104 hS104 => st_val hS104 rfl rfl rfl (r_assign hS104 rfl rfl) fun a105 hS105 => wpList_nil (hK _ _ ?_)
      replace hS : Sl 93 _ [(11, .int .i64 r36), (12, .int .i64 r42), (13, .slice A58 r56.1.length cap59), (14, .int .i64 r56.2), (15, .slice A79 r77.1.length cap80), (16, .int .i64 r77.2), (17, .slice A95 r93.1.length cap96), (18, .int .i64 r93.2)] := hS105.re ⟨rfl, rfl, rfl, rfl, rfl, rfl, rfl, rfl, trivial⟩
      clear hK K
      try clear hS90 hS91 hS92 hS99 hS101 hS102 hS103 hS104 hS105
      obtain ⟨a, ha⟩ : ∃ a', a' = a105 := ⟨_, rfl⟩
      rw [← ha] at hS ⊢; clear ha
      obtain ⟨t145, ht146, H⟩ := bind_el H
      obtain ⟨t181, ht182, H⟩ := bind_el H
      obtain ⟨t206, ht207, H⟩ := bind_el H
      obtain ⟨t229, ht230, H⟩ := bind_el H
      refine c_region (fun K hK => ?_)
      refine st_val hS rfl rfl rfl (r_move hS rfl rfl) fun a106 hS106 => st_val hS106 rfl rfl rfl (r_bin hS106 rfl rfl rfl b_eql) fun a107 hS107 => st_val hS107 rfl rfl rfl (r_move hS107 rfl rfl) fun a108 hS108 => ?_
      refine g_join (N := 93) 3 [(11, .int .i64 r36), (12, .int .i64 r42), (13, .slice A58 r56.1.length cap59), (15, .slice A79 r77.1.length cap80), (17, .slice A95 r93.1.length cap96), (18, .int .i64 r93.2), (66, .bool ((r56.2 == 0) && (r77.2 == 0)))] ?_ (fun hk => ?_)
      rotate_left
      · rcases Bool.eq_false_or_eq_true ((r56.2 == 0)) with hb109 | hb109
        · refine st_valW hS108 (want_on hS108 rfl rfl rfl hb109) rfl rfl (r_move hS108 rfl rfl) fun a112 hS112 => st_valW hS112 (want_on hS112 rfl rfl rfl hb109) rfl rfl (r_bin hS112 rfl rfl rfl b_eql) fun a113 hS113 => st_val hS113 rfl rfl rfl (r_pickT hS113 rfl rfl rfl hb109) fun a114 hS114 => hk _ (hS114.re ⟨rfl, rfl, rfl, rfl, rfl, rfl, (by rw [hb109]; rfl), trivial⟩)
        · refine st_off hS108 (want_off hS108 rfl rfl rfl hb109) rfl rfl fun a115 hS115 => st_off hS115 (want_off hS115 rfl rfl rfl hb109) rfl rfl fun a116 hS116 => st_val hS116 rfl rfl rfl (r_pickF hS116 rfl rfl rfl hb109) fun a117 hS117 => hk _ (hS117.re ⟨rfl, rfl, rfl, rfl, rfl, rfl, (by rw [hb109]; rfl), trivial⟩)
      intro a118 hS118
      refine st_val hS118 rfl rfl rfl (r_move hS118 rfl rfl) fun a119 hS119 => ?_
      refine g_join (N := 93) 3 [(11, .int .i64 r36), (12, .int .i64 r42), (13, .slice A58 r56.1.length cap59), (15, .slice A79 r77.1.length cap80), (17, .slice A95 r93.1.length cap96), (70, .bool (((r56.2 == 0) && (r77.2 == 0)) && (r93.2 == 0)))] ?_ (fun hk => ?_)
      rotate_left
      · rcases Bool.eq_false_or_eq_true (((r56.2 == 0) && (r77.2 == 0))) with hb120 | hb120
        · refine st_valW hS119 (want_on hS119 rfl rfl rfl hb120) rfl rfl (r_move hS119 rfl rfl) fun a123 hS123 => st_valW hS123 (want_on hS123 rfl rfl rfl hb120) rfl rfl (r_bin hS123 rfl rfl rfl b_eql) fun a124 hS124 => st_val hS124 rfl rfl rfl (r_pickT hS124 rfl rfl rfl hb120) fun a125 hS125 => hk _ (hS125.re ⟨rfl, rfl, rfl, rfl, rfl, (by rw [hb120]; rfl), trivial⟩)
        · refine st_off hS119 (want_off hS119 rfl rfl rfl hb120) rfl rfl fun a126 hS126 => st_off hS126 (want_off hS126 rfl rfl rfl hb120) rfl rfl fun a127 hS127 => st_val hS127 rfl rfl rfl (r_pickF hS127 rfl rfl rfl hb120) fun a128 hS128 => hk _ (hS128.re ⟨rfl, rfl, rfl, rfl, rfl, (by rw [hb120]; rfl), trivial⟩)
      intro a129 hS129
      refine st_val hS129 rfl rfl rfl (r_move hS129 rfl rfl) fun a130 hS130 => ?_
      refine g_joinR 8 (fun a w147 => ∃ (g147 : Nat → Nat), Sl 93 a [(11, .int .i64 r36), (13, .slice A58 r56.1.length cap59), (17, .slice A95 r93.1.length cap96), (79, .bool t145)] ∧ OwS (kint .i64) 3 w147 g147 (N + 4) A58 cap59 r56.1 ∧ OwS (kint .i64) 3 w147 g147 (N + 10) A95 cap96 r93.1 ∧ Fr (fun q => N ≤ q) w g w147 g147) ?_ (fun hk => ?_)
      rotate_left
      · rcases Bool.eq_false_or_eq_true ((((r56.2 == 0) && (r77.2 == 0)) && (r93.2 == 0))) with hb131 | hb131
        · have H := ite_t hb131 ht146
          obtain ⟨r150, hr151, H⟩ := bind_el H
          obtain ⟨r156, hr157, H⟩ := bind_el H
          have e161 := Option.some.inj H
          refine st_valW hS130 (want_on hS130 rfl rfl rfl hb131) rfl rfl (r_move hS130 rfl rfl) fun a148 hS148 => st_valW hS148 (want_on hS148 rfl rfl rfl hb131) rfl rfl (r_move hS148 rfl rfl) fun a149 hS149 => ?_
          refine st_enterW hS149 (want_on hS149 rfl rfl rfl hb131) rfl rfl (r_call hS149 rfl rfl (by kernel_rfl)) (law24_contains.calls (C0 := (fun q => q = N + 4)) (p0 := r56.1) (p1 := r42) (g := g100) (N + 12)  (OwD.rdf (fun _ _ _ _ _ _ h => h) h60) (fun q (hq : q = N + 4) => by omega) hr151) ?_
          rintro _ a152 w153 ⟨g153, rfl, F153⟩ hS152
          replace h60 := OwS.fr h60 F153 (fun c' hc (hm : N + 12 ≤ c') => by omega)
          replace h81 := OwS.fr h81 F153 (fun c' hc (hm : N + 12 ≤ c') => by omega)
          replace h97 := OwS.fr h97 F153 (fun c' hc (hm : N + 12 ≤ c') => by omega)
          replace hF := hF.trans F153 (fun c' (hm : N + 12 ≤ c') => by show N ≤ c'; omega)
          refine st_valW hS152 (want_on hS152 rfl rfl rfl hb131) rfl rfl (r_move hS152 rfl rfl) fun a154 hS154 => st_valW hS154 (want_on hS154 rfl rfl rfl hb131) rfl rfl (r_move hS154 rfl rfl) fun a155 hS155 => ?_
          refine st_enterW hS155 (want_on hS155 rfl rfl rfl hb131) rfl rfl (r_call hS155 rfl rfl (by kernel_rfl)) (law24_contains.calls (C0 := (fun q => q = N + 8)) (p0 := r77.1) (p1 := r36) (g := g153) (N + 12)  (OwD.rdf (fun _ _ _ _ _ _ h => h) h81) (fun q (hq : q = N + 8) => by omega) hr157) ?_
          rintro _ a158 w159 ⟨g159, rfl, F159⟩ hS158
          replace h60 := OwS.fr h60 F159 (fun c' hc (hm : N + 12 ≤ c') => by omega)
          replace h81 := OwS.fr h81 F159 (fun c' hc (hm : N + 12 ≤ c') => by omega)
          replace h97 := OwS.fr h97 F159 (fun c' hc (hm : N + 12 ≤ c') => by omega)
          replace hF := hF.trans F159 (fun c' (hm : N + 12 ≤ c') => by show N ≤ c'; omega)
          refine st_valW hS158 (want_on hS158 rfl rfl rfl hb131) rfl rfl (r_binB hS158 rfl rfl rfl (b_eqlB (by kernel_rfl))) fun a160 hS160 => ?_
          refine st_val hS160 rfl rfl rfl (r_pickT hS160 rfl rfl rfl hb131) fun a162 hS162 => hk _ _ ?_
          exact ⟨g159, hS162.re ⟨rfl, rfl, rfl, (by rw [← e161]; rfl), trivial⟩, h60, h97, hF⟩
        · have H := ite_f hb131 ht146
          have e163 := Option.some.inj H
          refine st_off hS130 (want_off hS130 rfl rfl rfl hb131) rfl rfl fun a164 hS164 => st_off hS164 (want_off hS164 rfl rfl rfl hb131) rfl rfl fun a165 hS165 => st_off hS165 (want_off hS165 rfl rfl rfl hb131) rfl rfl fun a166 hS166 => st_off hS166 (want_off hS166 rfl rfl rfl hb131) rfl rfl fun a167 hS167 => st_off hS167 (want_off hS167 rfl rfl rfl hb131) rfl rfl fun a168 hS168 => st_off hS168 (want_off hS168 rfl rfl rfl hb131) rfl rfl fun a169 hS169 => st_off hS169 (want_off hS169 rfl rfl rfl hb131) rfl rfl fun a170 hS170 => st_val hS170 rfl rfl rfl (r_pickF hS170 rfl rfl rfl hb131) fun a171 hS171 => hk _ _ ?_
          exact ⟨g100, hS171.re ⟨rfl, rfl, rfl, (by rw [← e163]; rfl), trivial⟩, h60, h97, hF⟩
      rintro a172 w147 ⟨g147, hS172, h60, h97, hF⟩
      refine st_val hS172 rfl rfl rfl (r_move hS172 rfl rfl) fun a173 hS173 => ?_
      refine g_joinR 4 (fun a w183 => ∃ (g183 : Nat → Nat), Sl 93 a [(13, .slice A58 r56.1.length cap59), (17, .slice A95 r93.1.length cap96), (84, .bool t181)] ∧ OwS (kint .i64) 3 w183 g183 (N + 4) A58 cap59 r56.1 ∧ OwS (kint .i64) 3 w183 g183 (N + 10) A95 cap96 r93.1 ∧ Fr (fun q => N ≤ q) w g w183 g183) ?_ (fun hk => ?_)
      rotate_left
      · rcases Bool.eq_false_or_eq_true (t145) with hb174 | hb174
        · have H := ite_t hb174 ht182
          obtain ⟨r186, hr187, H⟩ := bind_el H
          have e190 := Option.some.inj H
          refine st_valW hS173 (want_on hS173 rfl rfl rfl hb174) rfl rfl (r_move hS173 rfl rfl) fun a184 hS184 => st_valW hS184 (want_on hS184 rfl rfl rfl hb174) rfl rfl (r_move hS184 rfl rfl) fun a185 hS185 => ?_
          refine st_enterW hS185 (want_on hS185 rfl rfl rfl hb174) rfl rfl (r_call hS185 rfl rfl (by kernel_rfl)) (law24_contains.calls (C0 := (fun q => q = N + 4)) (p0 := r56.1) (p1 := r36) (g := g147) (N + 12)  (OwD.rdf (fun _ _ _ _ _ _ h => h) h60) (fun q (hq : q = N + 4) => by omega) hr187) ?_
          rintro _ a188 w189 ⟨g189, rfl, F189⟩ hS188
          replace h60 := OwS.fr h60 F189 (fun c' hc (hm : N + 12 ≤ c') => by omega)
          replace h97 := OwS.fr h97 F189 (fun c' hc (hm : N + 12 ≤ c') => by omega)
          replace hF := hF.trans F189 (fun c' (hm : N + 12 ≤ c') => by show N ≤ c'; omega)
          refine st_val hS188 rfl rfl rfl (r_pickT hS188 rfl rfl rfl hb174) fun a191 hS191 => hk _ _ ?_
          exact ⟨g189, hS191.re ⟨rfl, rfl, (by rw [← e190]; rfl), trivial⟩, h60, h97, hF⟩
        · have H := ite_f hb174 ht182
          have e192 := Option.some.inj H
          refine st_off hS173 (want_off hS173 rfl rfl rfl hb174) rfl rfl fun a193 hS193 => st_off hS193 (want_off hS193 rfl rfl rfl hb174) rfl rfl fun a194 hS194 => st_off hS194 (want_off hS194 rfl rfl rfl hb174) rfl rfl fun a195 hS195 => st_val hS195 rfl rfl rfl (r_pickF hS195 rfl rfl rfl hb174) fun a196 hS196 => hk _ _ ?_
          exact ⟨g147, hS196.re ⟨rfl, rfl, (by rw [← e192]; rfl), trivial⟩, h60, h97, hF⟩
      rintro a197 w183 ⟨g183, hS197, h60, h97, hF⟩
      refine st_val hS197 rfl rfl rfl (r_move hS197 rfl rfl) fun a198 hS198 => ?_
      refine g_joinR 4 (fun a w208 => ∃ (g208 : Nat → Nat), Sl 93 a [(89, .bool t206)] ∧ Fr (fun q => N ≤ q) w g w208 g208) ?_ (fun hk => ?_)
      rotate_left
      · rcases Bool.eq_false_or_eq_true (t181) with hb199 | hb199
        · have H := ite_t hb199 ht207
          obtain ⟨r211, hr212, H⟩ := bind_el H
          have e215 := Option.some.inj H
          refine st_valW hS198 (want_on hS198 rfl rfl rfl hb199) rfl rfl (r_move hS198 rfl rfl) fun a209 hS209 => st_valW hS209 (want_on hS209 rfl rfl rfl hb199) rfl rfl (r_move hS209 rfl rfl) fun a210 hS210 => ?_
          refine st_enterW hS210 (want_on hS210 rfl rfl rfl hb199) rfl rfl (r_call hS210 rfl rfl (by kernel_rfl)) (help_Equal_int.calls (C0 := (fun q => q = N + 10)) (C1 := (fun q => q = N + 4)) (p0 := r93.1) (p1 := r56.1) (g := g183) (N + 12)  (OwD.rdf (fun _ _ _ _ _ _ h => h) h97) (fun q (hq : q = N + 10) => by omega) (OwD.rdf (fun _ _ _ _ _ _ h => h) h60) (fun q (hq : q = N + 4) => by omega) hr212) ?_
          rintro _ a213 w214 ⟨g214, rfl, F214⟩ hS213
          replace h60 := OwS.fr h60 F214 (fun c' hc (hm : N + 12 ≤ c') => by omega)
          replace h97 := OwS.fr h97 F214 (fun c' hc (hm : N + 12 ≤ c') => by omega)
          replace hF := hF.trans F214 (fun c' (hm : N + 12 ≤ c') => by show N ≤ c'; omega)
          refine st_val hS213 rfl rfl rfl (r_pickT hS213 rfl rfl rfl hb199) fun a216 hS216 => hk _ _ ?_
          exact ⟨g214, hS216.re ⟨(by rw [← e215]; rfl), trivial⟩, hF⟩
        · have H := ite_f hb199 ht207
          have e217 := Option.some.inj H
          refine st_off hS198 (want_off hS198 rfl rfl rfl hb199) rfl rfl fun a218 hS218 => st_off hS218 (want_off hS218 rfl rfl rfl hb199) rfl rfl fun a219 hS219 => st_off hS219 (want_off hS219 rfl rfl rfl hb199) rfl rfl fun a220 hS220 => st_val hS220 rfl rfl rfl (r_pickF hS220 rfl rfl rfl hb199) fun a221 hS221 => hk _ _ ?_
          exact ⟨g183, hS221.re ⟨(by rw [← e217]; rfl), trivial⟩, hF⟩
      rintro a222 w208 ⟨g208, hS222, hF⟩
      refine st_val hS222 rfl rfl rfl (r_move hS222 rfl rfl) fun a223 hS223 => ?_
      refine g_joinR 2 (fun a w231 => ∃ (g231 : Nat → Nat), Sl 93 a [(92, .bool t229)] ∧ Fr (fun q => N ≤ q) w g w231 g231) ?_ (fun hk => ?_)
      rotate_left
      · rcases Bool.eq_false_or_eq_true (t206) with hb224 | hb224
        · have H := ite_t hb224 ht230
          obtain ⟨r232, hr233, H⟩ := bind_el H
          have e236 := Option.some.inj H
          refine st_enterW hS223 (want_on hS223 rfl rfl rfl hb224) rfl rfl (r_call hS223 rfl rfl (by kernel_rfl)) (law24_awake.calls (g := g208) (N + 12)   hr233) ?_
          rintro _ a234 w235 ⟨g235, rfl, F235⟩ hS234
          replace hF := hF.trans F235 (fun c' (hm : N + 12 ≤ c') => by show N ≤ c'; omega)
          refine st_val hS234 rfl rfl rfl (r_pickT hS234 rfl rfl rfl hb224) fun a237 hS237 => hk _ _ ?_
          exact ⟨g235, hS237.re ⟨(by rw [← e236]; rfl), trivial⟩, hF⟩
        · have H := ite_f hb224 ht230
          have e238 := Option.some.inj H
          refine st_off hS223 (want_off hS223 rfl rfl rfl hb224) rfl rfl fun a239 hS239 => st_val hS239 rfl rfl rfl (r_pickF hS239 rfl rfl rfl hb224) fun a240 hS240 => hk _ _ ?_
          exact ⟨g208, hS240.re ⟨(by rw [← e238]; rfl), trivial⟩, hF⟩
      rintro a241 w231 ⟨g231, hS241, hF⟩
      refine st_val hS241 rfl rfl rfl (r_assign hS241 rfl rfl) fun a242 hS242 => wpList_nil (hK _ _ ?_)
      replace hS : Sl 93 _ [(8, .bool t229)] := hS242.re ⟨rfl, trivial⟩
      clear hK K
      try clear hS106 hS107 hS108 hS118 hS119 hS129 hS130 hS172 hS173 hS197 hS198 hS222 hS223 hS241 hS242
      obtain ⟨a, ha⟩ : ∃ a', a' = a242 := ⟨_, rfl⟩
      rw [← ha] at hS ⊢; clear ha
      refine wp_ret ?_
      have e := Option.some.inj H
      subst e
      repeat (with_reducible first | refine then_ret ?_ | refine inBlock_ret ?_)
      exact c_ret1 hS Try.results11 rfl ⟨_, rfl, g231, rfl, hF⟩

/-- What is left of law24_DepgraphClosureDuality: about plain values alone. -/
def law24_DepgraphClosureDuality.Pure : Prop := ∀ (p0 : Int) (p1 : List api_Link) (p2 : Int) (p3 : Int), (Lit.int .i64 p0).wf = true → (p1.length ≤ maxLen ∧ ∀ p1' ∈ p1, Wf_api_Link p1') → (Lit.int .i64 p2).wf = true → (Lit.int .i64 p3).wf = true → law24_DepgraphClosureDuality.f p0 p1 p2 p3 = some true

end Go.Proofs.Ytphgandhncmaoaa.Sim
