/-
  Printed by a program of this session (wip/tools): plain functions with the same answers as the Go functions, and the proofs of it.
-/
import Derived.Test.YtphgandhncmaoaaFn
import Derived.Test.YtphgandhncmaoaaOp
namespace Go.Proofs.Ytphgandhncmaoaa.Sim
open Go
set_option linter.unusedVariables false
set_option linter.unusedSimpArgs false

/-! ### law24_DepgraphOrderOrCycle: function 6 -/
def law24_DepgraphOrderOrCycle.l1 (r43 : (List Int) × Int) (m0_0 : Int) (x140 : Int) : Nat → Int → Option (Fl (Fl (Bool) (Unit)) (Unit))
  | 0, _ => none
  | k168 + 1, m1_0 => if decide (m1_0 < m0_0) = true then ((idx r43.1 m1_0).bind fun x180 => if (x140 == x180) = true then (some (.out (.out false))) else (law24_DepgraphOrderOrCycle.l1 r43 m0_0 x140 k168 (wi (m1_0 + 1)))) else (some (.nxt ()))
def law24_DepgraphOrderOrCycle.l0 (r13 : Int × (List api_Link)) (r43 : (List Int) × Int) : Nat → Int → Option (Fl (Bool) (Unit))
  | 0, _ => none
  | k130 + 1, m0_0 => if decide (m0_0 < (r43.1.length : Int)) = true then (((idx r43.1 m0_0).bind fun x140 => if (r43.1.length : Int) = 0 then none else (idx r43.1 (Int.tmod (wi (m0_0 + 1)) (r43.1.length : Int))).bind fun x143 => (law24_linked.f r13.2 x140 x143).bind fun r145 => if (!r145) = true then (some (.out (.out false))) else (law24_DepgraphOrderOrCycle.l1 r43 m0_0 x140 FUEL 0) : Option (Fl (Fl (Bool) (Unit)) (Unit))).bind fun o138 => o138.go fun _ => law24_DepgraphOrderOrCycle.l0 r13 r43 k130 (wi (m0_0 + 1))) else (some (.nxt ()))
def law24_DepgraphOrderOrCycle.f (p0 : Int) (p1 : List api_Link) : Option (Bool) := if decide (40 < (p1.length : Int)) = true then ((law24_awake.f ).bind fun r6 => some r6) else ((law24_Graph.f p0 p1 false).bind fun r13 => (depgraph_Order.f r13.1 r13.2).bind fun r28 => (depgraph_Cycle.f r13.1 r13.2).bind fun r43 => if (r28.2 == 0) = true then ((if ((r43.2 == 6) && ((r43.1.length : Int) == 0)) = true then (law24_awake.f ).bind fun r77 => some r77 else some false).bind fun t81 => some t81) else (if (((r28.2 != 18) || (r43.2 != 0)) || ((r43.1.length : Int) == 0)) = true then (some false) else ((law24_DepgraphOrderOrCycle.l0 r13 r43 FUEL 0 : Option (Fl (Bool) (Unit))).bind fun o126 => o126.go fun _ => (law24_awake.f ).bind fun r193 => some r193)))
set_option maxRecDepth 100000 in
set_option maxHeartbeats 4000000 in
theorem law24_DepgraphOrderOrCycle.calls {p0 : Int} {p1 : List api_Link} {A1 : Option Addr} {cap1 : Nat} {C1 : Nat → Prop} {w : World} {g : Nat → Nat} {out : Bool} (N : Nat) (hp1 : RdS kd_api_Link w g C1 A1 cap1 p1) (hC1 : ∀ c, C1 c → c < N) (H : law24_DepgraphOrderOrCycle.f p0 p1 = some out) :
    Calls Try.prog 6 #[.int .i64 p0, .slice A1 p1.length cap1] w (fun e w' => ∃ v, e = .returned v ∧ ∃ (g' : Nat → Nat), v = .bool out ∧ Fr (fun q => N ≤ q) w g w' g') := by
  unfold law24_DepgraphOrderOrCycle.f at H
  refine calls_enter Try.func6 rfl Try.ntmps6 rfl (fun a hS => ?_)
  replace hS : Sl 94 a [(0, .int .i64 p0), (1, .slice A1 p1.length cap1)] := hS
  have hF : Fr (fun q => N ≤ q) w g w g := Fr.refl _ _ _
  refine c_pure [(0, .int .i64 p0), (1, .slice A1 p1.length cap1)] (fun R hR => st_val hS rfl rfl rfl (r_assign hS rfl rfl) fun a1 hS1 => wpList_nil (hR _ (hS1.re ⟨rfl, rfl, trivial⟩))) ?_
  clear hS
  clear a
  intro a hS
  refine wp_seq ?_
  refine c_pure [(0, .int .i64 p0), (1, .slice A1 p1.length cap1), (15, .bool (decide (40 < (p1.length : Int))))] (fun R hR => st_val hS rfl rfl rfl (r_move hS rfl rfl) fun a2 hS2 => st_val hS2 rfl rfl rfl (r_len (e := 34) (sz := 2) (by_ := 16) hS2 rfl rfl (by kernel_rfl)) fun a3 hS3 => st_val hS3 rfl rfl rfl (r_bin hS3 rfl rfl rfl b_gtr) fun a4 hS4 => wpList_nil (hR _ (hS4.re ⟨rfl, rfl, rfl, trivial⟩))) ?_
  clear hS
  clear a
  intro a hS
  refine c_cond hS rfl (fun hb5 => ?_) (fun hb5 => ?_)
  · replace H := ite_t hb5 H
    obtain ⟨r6, hr7, H⟩ := bind_el H
    refine c_region (fun K hK => ?_)
    refine st_enter hS rfl rfl rfl (r_call hS rfl rfl (by kernel_rfl)) (law24_awake.calls (g := g) (N + 6)   hr7) ?_
    rintro _ a8 w9 ⟨g9, rfl, F9⟩ hS8
    replace hp1 := RdS.fr hp1 F9 (by decide) (fun q (hq : C1 q) (hm : N + 6 ≤ q) => by have := hC1 q hq; omega)
    replace hF := hF.trans F9 (fun c' (hm : N + 6 ≤ c') => by show N ≤ c'; omega)
    refine st_val hS8 rfl rfl rfl (r_assign hS8 rfl rfl) fun a10 hS10 => wpList_nil (hK _ _ ?_)
    replace hS : Sl 94 _ [(4, .bool r6)] := hS10.re ⟨rfl, trivial⟩
    clear hK K
    try clear hS8 hS10
    obtain ⟨a, ha⟩ : ∃ a', a' = a10 := ⟨_, rfl⟩
    rw [← ha] at hS ⊢; clear ha
    refine wp_ret ?_
    have e := Option.some.inj H
    subst e
    repeat (with_reducible first | refine then_ret ?_ | refine inBlock_ret ?_)
    exact c_ret1 hS Try.results6 rfl ⟨_, rfl, g9, rfl, hF⟩
  · replace H := ite_f hb5 H
    refine wp_skip ?_
    change Code.wp _ _ _ _ _
    obtain ⟨r13, hr14, H⟩ := bind_el H
    refine c_region (fun K hK => ?_)
    refine st_val hS rfl rfl rfl (r_move hS rfl rfl) fun a11 hS11 => st_val hS11 rfl rfl rfl (r_move hS11 rfl rfl) fun a12 hS12 => ?_
    refine st_enter hS12 rfl rfl rfl (r_call hS12 rfl rfl (by kernel_rfl)) (law24_Graph.calls (C1 := C1) (p0 := p0) (p1 := p1) (p2 := false) (g := g) (N + 6) (N + 0) hp1 (fun q (hq : C1 q) => by have := hC1 q hq; omega) (by omega) hr14) ?_
    rintro _ a19 w20 ⟨g20, A15, cap16, rfl, h17, F20⟩ hS19
    replace hp1 := RdS.fr hp1 F20 (by decide) (fun q (hq : C1 q) (hm : (N + 0 ≤ q ∧ q < N + 0 + 2) ∨ N + 6 ≤ q) => by have := hC1 q hq; omega)
    replace hF := hF.trans F20 (fun c' (hm : (N + 0 ≤ c' ∧ c' < N + 0 + 2) ∨ N + 6 ≤ c') => by show N ≤ c'; omega)
    refine st_val hS19 rfl rfl rfl (r_move hS19 rfl rfl) fun a21 hS21 => st_val hS21 rfl rfl rfl (r_extract hS21 rfl rfl rfl) fun a22 hS22 => st_val hS22 rfl rfl rfl (r_extract hS22 rfl rfl rfl) fun a23 hS23 => st_val hS23 rfl rfl rfl (r_assign hS23 rfl rfl) fun a24 hS24 => st_val hS24 rfl rfl rfl (r_assign hS24 rfl rfl) fun a25 hS25 => wpList_nil (hK _ _ ?_)
    replace hS : Sl 94 _ [(5, .int .i64 r13.1), (6, .slice A15 r13.2.length cap16)] := hS25.re ⟨rfl, rfl, trivial⟩
    clear hK K
    try clear hS11 hS12 hS19 hS21 hS22 hS23 hS24 hS25
    obtain ⟨a, ha⟩ : ∃ a', a' = a25 := ⟨_, rfl⟩
    rw [← ha] at hS ⊢; clear ha
    obtain ⟨r28, hr29, H⟩ := bind_el H
    refine c_region (fun K hK => ?_)
    refine st_val hS rfl rfl rfl (r_move hS rfl rfl) fun a26 hS26 => st_val hS26 rfl rfl rfl (r_move hS26 rfl rfl) fun a27 hS27 => ?_
    refine st_enter hS27 rfl rfl rfl (r_call hS27 rfl rfl (by kernel_rfl)) (depgraph_Order.calls (C1 := (fun q => q = N + 0)) (p0 := r13.1) (p1 := r13.2) (g := g20) (N + 6) (N + 2) (OwD.rdf (fun _ _ _ _ _ _ h => h) h17) (fun q (hq : q = N + 0) => by omega) (by omega) hr29) ?_
    rintro _ a34 w35 ⟨g35, A30, cap31, rfl, h32, F35⟩ hS34
    replace h17 := OwS.fr h17 F35 (fun c' hc (hm : (N + 2 ≤ c' ∧ c' < N + 2 + 2) ∨ N + 6 ≤ c') => by omega)
    replace hF := hF.trans F35 (fun c' (hm : (N + 2 ≤ c' ∧ c' < N + 2 + 2) ∨ N + 6 ≤ c') => by show N ≤ c'; omega)
    refine st_val hS34 rfl rfl rfl (r_move hS34 rfl rfl) fun a36 hS36 => st_val hS36 rfl rfl rfl (r_extract hS36 rfl rfl rfl) fun a37 hS37 => st_val hS37 rfl rfl rfl (r_extract hS37 rfl rfl rfl) fun a38 hS38 => st_val hS38 rfl rfl rfl (r_assign hS38 rfl rfl) fun a39 hS39 => st_val hS39 rfl rfl rfl (r_assign hS39 rfl rfl) fun a40 hS40 => wpList_nil (hK _ _ ?_)
    replace hS : Sl 94 _ [(5, .int .i64 r13.1), (6, .slice A15 r13.2.length cap16), (8, .int .i64 r28.2)] := hS40.re ⟨rfl, rfl, rfl, trivial⟩
    clear hK K
    try clear hS26 hS27 hS34 hS36 hS37 hS38 hS39 hS40
    obtain ⟨a, ha⟩ : ∃ a', a' = a40 := ⟨_, rfl⟩
    rw [← ha] at hS ⊢; clear ha
    obtain ⟨r43, hr44, H⟩ := bind_el H
    refine c_region (fun K hK => ?_)
    refine st_val hS rfl rfl rfl (r_move hS rfl rfl) fun a41 hS41 => st_val hS41 rfl rfl rfl (r_move hS41 rfl rfl) fun a42 hS42 => ?_
    refine st_enter hS42 rfl rfl rfl (r_call hS42 rfl rfl (by kernel_rfl)) (depgraph_Cycle.calls (C1 := (fun q => q = N + 0)) (p0 := r13.1) (p1 := r13.2) (g := g35) (N + 6) (N + 4) (OwD.rdf (fun _ _ _ _ _ _ h => h) h17) (fun q (hq : q = N + 0) => by omega) (by omega) hr44) ?_
    rintro _ a49 w50 ⟨g50, A45, cap46, rfl, h47, F50⟩ hS49
    replace h17 := OwS.fr h17 F50 (fun c' hc (hm : (N + 4 ≤ c' ∧ c' < N + 4 + 2) ∨ N + 6 ≤ c') => by omega)
    replace hF := hF.trans F50 (fun c' (hm : (N + 4 ≤ c' ∧ c' < N + 4 + 2) ∨ N + 6 ≤ c') => by show N ≤ c'; omega)
    refine st_val hS49 rfl rfl rfl (r_move hS49 rfl rfl) fun a51 hS51 => st_val hS51 rfl rfl rfl (r_extract hS51 rfl rfl rfl) fun a52 hS52 => st_val hS52 rfl rfl rfl (r_extract hS52 rfl rfl rfl) fun a53 hS53 => st_val hS53 rfl rfl rfl (r_assign hS53 rfl rfl) fun a54 hS54 => st_val hS54 rfl rfl rfl (r_assign hS54 rfl rfl) fun a55 hS55 => wpList_nil (hK _ _ ?_)
    replace hS : Sl 94 _ [(6, .slice A15 r13.2.length cap16), (8, .int .i64 r28.2), (9, .slice A45 r43.1.length cap46), (10, .int .i64 r43.2)] := hS55.re ⟨rfl, rfl, rfl, rfl, trivial⟩
    clear hK K
    try clear hS41 hS42 hS49 hS51 hS52 hS53 hS54 hS55
    obtain ⟨a, ha⟩ : ∃ a', a' = a55 := ⟨_, rfl⟩
    rw [← ha] at hS ⊢; clear ha
    refine wp_seq ?_
    refine c_pure [(6, .slice A15 r13.2.length cap16), (8, .int .i64 r28.2), (9, .slice A45 r43.1.length cap46), (10, .int .i64 r43.2), (36, .bool (r28.2 == 0))] (fun R hR => st_val hS rfl rfl rfl (r_move hS rfl rfl) fun a56 hS56 => st_val hS56 rfl rfl rfl (r_bin hS56 rfl rfl rfl b_eql) fun a57 hS57 => wpList_nil (hR _ (hS57.re ⟨rfl, rfl, rfl, rfl, rfl, trivial⟩))) ?_
    clear hS
    clear a
    intro a hS
    refine c_cond hS rfl (fun hb58 => ?_) (fun hb58 => ?_)
    · replace H := ite_t hb58 H
      obtain ⟨t81, ht82, H⟩ := bind_el H
      refine c_region (fun K hK => ?_)
      refine st_val hS rfl rfl rfl (r_move hS rfl rfl) fun a59 hS59 => st_val hS59 rfl rfl rfl (r_bin hS59 rfl rfl rfl b_eql) fun a60 hS60 => st_val hS60 rfl rfl rfl (r_move hS60 rfl rfl) fun a61 hS61 => ?_
      refine g_join (N := 94) 4 [(43, .bool ((r43.2 == 6) && ((r43.1.length : Int) == 0)))] ?_ (fun hk => ?_)
      rotate_left
      · rcases Bool.eq_false_or_eq_true ((r43.2 == 6)) with hb62 | hb62
        · refine st_valW hS61 (want_on hS61 rfl rfl rfl hb62) rfl rfl (r_move hS61 rfl rfl) fun a66 hS66 => st_valW hS66 (want_on hS66 rfl rfl rfl hb62) rfl rfl (r_len (e := 3) (sz := 1) (by_ := 8) hS66 rfl rfl (by kernel_rfl)) fun a67 hS67 => st_valW hS67 (want_on hS67 rfl rfl rfl hb62) rfl rfl (r_bin hS67 rfl rfl rfl b_eql) fun a68 hS68 => st_val hS68 rfl rfl rfl (r_pickT hS68 rfl rfl rfl hb62) fun a69 hS69 => hk _ (hS69.re ⟨(by rw [hb62]; rfl), trivial⟩)
        · refine st_off hS61 (want_off hS61 rfl rfl rfl hb62) rfl rfl fun a70 hS70 => st_off hS70 (want_off hS70 rfl rfl rfl hb62) rfl rfl fun a71 hS71 => st_off hS71 (want_off hS71 rfl rfl rfl hb62) rfl rfl fun a72 hS72 => st_val hS72 rfl rfl rfl (r_pickF hS72 rfl rfl rfl hb62) fun a73 hS73 => hk _ (hS73.re ⟨(by rw [hb62]; rfl), trivial⟩)
      intro a74 hS74
      refine st_val hS74 rfl rfl rfl (r_move hS74 rfl rfl) fun a75 hS75 => ?_
      refine g_joinR 2 (fun a w83 => ∃ (g83 : Nat → Nat), Sl 94 a [(46, .bool t81)] ∧ Fr (fun q => N ≤ q) w g w83 g83) ?_ (fun hk => ?_)
      rotate_left
      · rcases Bool.eq_false_or_eq_true (((r43.2 == 6) && ((r43.1.length : Int) == 0))) with hb76 | hb76
        · have H := ite_t hb76 ht82
          obtain ⟨r84, hr85, H⟩ := bind_el H
          have e88 := Option.some.inj H
          refine st_enterW hS75 (want_on hS75 rfl rfl rfl hb76) rfl rfl (r_call hS75 rfl rfl (by kernel_rfl)) (law24_awake.calls (g := g50) (N + 6)   hr85) ?_
          rintro _ a86 w87 ⟨g87, rfl, F87⟩ hS86
          replace h17 := OwS.fr h17 F87 (fun c' hc (hm : N + 6 ≤ c') => by omega)
          replace h47 := OwS.fr h47 F87 (fun c' hc (hm : N + 6 ≤ c') => by omega)
          replace hF := hF.trans F87 (fun c' (hm : N + 6 ≤ c') => by show N ≤ c'; omega)
          refine st_val hS86 rfl rfl rfl (r_pickT hS86 rfl rfl rfl hb76) fun a89 hS89 => hk _ _ ?_
          exact ⟨g87, hS89.re ⟨(by rw [← e88]; rfl), trivial⟩, hF⟩
        · have H := ite_f hb76 ht82
          have e90 := Option.some.inj H
          refine st_off hS75 (want_off hS75 rfl rfl rfl hb76) rfl rfl fun a91 hS91 => st_val hS91 rfl rfl rfl (r_pickF hS91 rfl rfl rfl hb76) fun a92 hS92 => hk _ _ ?_
          exact ⟨g50, hS92.re ⟨(by rw [← e90]; rfl), trivial⟩, hF⟩
      rintro a93 w83 ⟨g83, hS93, hF⟩
      refine st_val hS93 rfl rfl rfl (r_assign hS93 rfl rfl) fun a94 hS94 => wpList_nil (hK _ _ ?_)
      replace hS : Sl 94 _ [(4, .bool t81)] := hS94.re ⟨rfl, trivial⟩
      clear hK K
      try clear hS59 hS60 hS61 hS74 hS75 hS93 hS94
      obtain ⟨a, ha⟩ : ∃ a', a' = a94 := ⟨_, rfl⟩
      rw [← ha] at hS ⊢; clear ha
      refine wp_ret ?_
      have e := Option.some.inj H
      subst e
      repeat (with_reducible first | refine then_ret ?_ | refine inBlock_ret ?_)
      exact c_ret1 hS Try.results6 rfl ⟨_, rfl, g83, rfl, hF⟩
    · replace H := ite_f hb58 H
      refine wp_skip ?_
      change Code.wp _ _ _ _ _
      refine wp_seq ?_
      refine c_region (fun K hK => ?_)
      refine st_val hS rfl rfl rfl (r_move hS rfl rfl) fun a95 hS95 => st_val hS95 rfl rfl rfl (r_bin hS95 rfl rfl rfl b_neq) fun a96 hS96 => st_val hS96 rfl rfl rfl (r_move hS96 rfl rfl) fun a97 hS97 => ?_
      refine g_join (N := 94) 3 [(6, .slice A15 r13.2.length cap16), (9, .slice A45 r43.1.length cap46), (52, .bool ((r28.2 != 18) || (r43.2 != 0)))] ?_ (fun hk => ?_)
      rotate_left
      · rcases Bool.eq_false_or_eq_true ((r28.2 != 18)) with hb98 | hb98
        · refine st_off hS97 (want_off hS97 rfl rfl rfl hb98) rfl rfl fun a101 hS101 => st_off hS101 (want_off hS101 rfl rfl rfl hb98) rfl rfl fun a102 hS102 => st_val hS102 rfl rfl rfl (r_pickT hS102 rfl rfl rfl hb98) fun a103 hS103 => hk _ (hS103.re ⟨rfl, rfl, (by rw [hb98]; rfl), trivial⟩)
        · refine st_valW hS97 (want_on hS97 rfl rfl rfl hb98) rfl rfl (r_move hS97 rfl rfl) fun a104 hS104 => st_valW hS104 (want_on hS104 rfl rfl rfl hb98) rfl rfl (r_bin hS104 rfl rfl rfl b_neq) fun a105 hS105 => st_val hS105 rfl rfl rfl (r_pickF hS105 rfl rfl rfl hb98) fun a106 hS106 => hk _ (hS106.re ⟨rfl, rfl, (by rw [hb98]; rfl), trivial⟩)
      intro a107 hS107
      refine st_val hS107 rfl rfl rfl (r_move hS107 rfl rfl) fun a108 hS108 => ?_
      refine g_join (N := 94) 4 [(6, .slice A15 r13.2.length cap16), (9, .slice A45 r43.1.length cap46), (57, .bool (((r28.2 != 18) || (r43.2 != 0)) || ((r43.1.length : Int) == 0)))] ?_ (fun hk => ?_)
      rotate_left
      · rcases Bool.eq_false_or_eq_true (((r28.2 != 18) || (r43.2 != 0))) with hb109 | hb109
        · refine st_off hS108 (want_off hS108 rfl rfl rfl hb109) rfl rfl fun a113 hS113 => st_off hS113 (want_off hS113 rfl rfl rfl hb109) rfl rfl fun a114 hS114 => st_off hS114 (want_off hS114 rfl rfl rfl hb109) rfl rfl fun a115 hS115 => st_val hS115 rfl rfl rfl (r_pickT hS115 rfl rfl rfl hb109) fun a116 hS116 => hk _ (hS116.re ⟨rfl, rfl, (by rw [hb109]; rfl), trivial⟩)
        · refine st_valW hS108 (want_on hS108 rfl rfl rfl hb109) rfl rfl (r_move hS108 rfl rfl) fun a117 hS117 => st_valW hS117 (want_on hS117 rfl rfl rfl hb109) rfl rfl (r_len (e := 3) (sz := 1) (by_ := 8) hS117 rfl rfl (by kernel_rfl)) fun a118 hS118 => st_valW hS118 (want_on hS118 rfl rfl rfl hb109) rfl rfl (r_bin hS118 rfl rfl rfl b_eql) fun a119 hS119 => st_val hS119 rfl rfl rfl (r_pickF hS119 rfl rfl rfl hb109) fun a120 hS120 => hk _ (hS120.re ⟨rfl, rfl, (by rw [hb109]; rfl), trivial⟩)
      intro a121 hS121
      refine wpList_nil (hK _ _ ?_)
      replace hS : Sl 94 _ [(6, .slice A15 r13.2.length cap16), (9, .slice A45 r43.1.length cap46), (57, .bool (((r28.2 != 18) || (r43.2 != 0)) || ((r43.1.length : Int) == 0)))] := hS121.re ⟨rfl, rfl, rfl, trivial⟩
      clear hK K
      try clear hS95 hS96 hS97 hS107 hS108 hS121
      obtain ⟨a, ha⟩ : ∃ a', a' = a121 := ⟨_, rfl⟩
      rw [← ha] at hS ⊢; clear ha
      refine c_cond hS rfl (fun hb122 => ?_) (fun hb122 => ?_)
      · replace H := ite_t hb122 H
        refine c_pure [(4, .bool false)] (fun R hR => st_val hS rfl rfl rfl (r_assign hS rfl rfl) fun a123 hS123 => wpList_nil (hR _ (hS123.re ⟨rfl, trivial⟩))) ?_
        clear hS
        clear a
        intro a hS
        refine wp_ret ?_
        have e := Option.some.inj H
        subst e
        repeat (with_reducible first | refine then_ret ?_ | refine inBlock_ret ?_)
        exact c_ret1 hS Try.results6 rfl ⟨_, rfl, g50, rfl, hF⟩
      · replace H := ite_f hb122 H
        refine wp_skip ?_
        change Code.wp _ _ _ _ _
        obtain ⟨o126, H, Hl127⟩ := bind_el H
        refine c_cut (fun a w124 => ∃ (g124 : Nat → Nat), o126 = .nxt () ∧ Sl 94 a [] ∧ Fr (fun q => N ≤ q) w g w124 g124) ?_ ?_
        · refine c_pure [(6, .slice A15 r13.2.length cap16), (9, .slice A45 r43.1.length cap46), (11, .int .i64 0)] (fun R hR => st_val hS rfl rfl rfl (r_assign hS rfl rfl) fun a128 hS128 => wpList_nil (hR _ (hS128.re ⟨rfl, rfl, rfl, trivial⟩))) ?_
          clear hS
          clear a
          intro a hS
          refine wp_block ?_
          refine wp_loop_ghost (fun kq => fun a w129 => ∃ (m0_0 : Int), ∃ (g129 : Nat → Nat), law24_DepgraphOrderOrCycle.l0 r13 r43 kq m0_0 = some o126 ∧ Sl 94 a [(6, .slice A15 r13.2.length cap16), (9, .slice A45 r43.1.length cap46), (11, .int .i64 m0_0)] ∧ OwS kd_api_Link 34 w129 g129 (N + 0) A15 cap16 r13.2 ∧ OwS (kint .i64) 3 w129 g129 (N + 4) A45 cap46 r43.1 ∧ Fr (fun q => N ≤ q) w g w129 g129) FUEL ?_ ?_
          · exact ⟨0, g50, H, hS.re ⟨rfl, rfl, rfl, trivial⟩, h17, h47, hF⟩
          · clear H
            clear h17 h47 hF
            clear hS
            rintro k130 a w129 ⟨m0_0, g129, hpre0, hS, h17, h47, hF⟩
            have H := hpre0
            clear hpre0
            cases k130 with
            | zero => exact absurd H (by simp [law24_DepgraphOrderOrCycle.l0])
            | succ k130 =>
              rw [law24_DepgraphOrderOrCycle.l0] at H
              refine wp_seq ?_
              refine c_pure [(6, .slice A15 r13.2.length cap16), (9, .slice A45 r43.1.length cap46), (11, .int .i64 m0_0), (61, .bool (decide (m0_0 < (r43.1.length : Int))))] (fun R hR => st_val hS rfl rfl rfl (r_move hS rfl rfl) fun a131 hS131 => st_val hS131 rfl rfl rfl (r_move hS131 rfl rfl) fun a132 hS132 => st_val hS132 rfl rfl rfl (r_len (e := 3) (sz := 1) (by_ := 8) hS132 rfl rfl (by kernel_rfl)) fun a133 hS133 => st_val hS133 rfl rfl rfl (r_bin hS133 rfl rfl rfl b_lss) fun a134 hS134 => wpList_nil (hR _ (hS134.re ⟨rfl, rfl, rfl, rfl, trivial⟩))) ?_
              clear hS
              clear a
              intro a hS
              refine c_cond hS rfl (fun hb135 => ?_) (fun hb135 => ?_)
              · replace H := ite_t hb135 H
                refine wp_skip ?_
                change Code.wp _ _ _ _ _
                obtain ⟨o138, H, Hl139⟩ := bind_el H
                refine c_cut (fun a w136 => ∃ (g136 : Nat → Nat), o138 = .nxt () ∧ Sl 94 a [(6, .slice A15 r13.2.length cap16), (9, .slice A45 r43.1.length cap46), (11, .int .i64 m0_0)] ∧ OwS kd_api_Link 34 w136 g136 (N + 0) A15 cap16 r13.2 ∧ OwS (kint .i64) 3 w136 g136 (N + 4) A45 cap46 r43.1 ∧ Fr (fun q => N ≤ q) w g w136 g136) ?_ ?_
                · refine wp_block ?_
                  refine wp_seq ?_
                  obtain ⟨x140, hx141, H⟩ := bind_el H
                  obtain ⟨hq142, H⟩ := nz_el H
                  obtain ⟨x143, hx144, H⟩ := bind_el H
                  obtain ⟨r145, hr146, H⟩ := bind_el H
                  refine c_draw (fun K hK => d_start (fun q => N + 6 ≤ q) g129 [] 15 #[false, false, false, false, false, false, false, false, false, false, false, false, false, false, false] (by kernel_rfl) rfl rfl (fun w147 hw147 => ?_))
                  have F147 : Fr (fun _ => False) w129 g129 w147 g129 := by rw [hw147]; exact Fr.drew _ _ _
                  replace h17 := OwS.fr h17 F147 (fun _ _ h => h)
                  replace h47 := OwS.fr h47 F147 (fun _ _ h => h)
                  replace hF := hF.trans F147 (fun _ h => h.elim)
                  have hC : Fr (fun q => N + 6 ≤ q) w147 g129 w147 g129 := Fr.refl _ _ _
                  refine d_pure hS 0 #[true, false, false, false, false, false, false, false, false, false, false, false, false, false, false] rfl rfl rfl rfl (by kernel_rfl) (fun _ _ _ h => h) (fun _ => (r_move hS rfl rfl)) fun a148 hS148 => d_pure hS148 1 #[true, true, false, false, false, false, false, false, false, false, false, false, false, false, false] rfl rfl rfl rfl (by kernel_rfl) (fun _ _ _ h => h) (fun _ => (r_move hS148 rfl rfl)) fun a149 hS149 => d_pure hS149 2 #[true, true, true, false, false, false, false, false, false, false, false, false, false, false, false] rfl rfl rfl rfl (by kernel_rfl) (fun _ _ _ h => h) (fun _ => (r_move hS149 rfl rfl)) fun a150 hS150 => d_pure hS150 3 #[true, true, true, true, false, false, false, false, false, false, false, false, false, false, false] rfl rfl rfl rfl (by kernel_rfl) (fun _ _ _ h => h) (fun _ => (r_index (e := 3) (sz := 1) (by_ := 8) hS150 rfl rfl rfl (by kernel_rfl) (RdS.some_ (OwS.rd h47) hx141) (idx_lo hx141) (idx_hi hx141))) fun a151 hS151 => d_take hS151 4 #[true, true, true, true, true, false, false, false, false, false, false, false, false, false, false] rfl rfl rfl rfl (by kernel_rfl) (fun _ _ _ h => h) ⟨_, hC⟩ (fun w' g' Fz => (r_load1 (n := 1) hS151 rfl rfl (by kernel_rfl) (RdS.cell (i := m0_0) (sz := 1) (j := 0) (OwS.rd (OwS.fr h47 Fz (fun c' hc (hm : N + 6 ≤ c') => by omega))) hx141 rfl))) fun a152 hS152 => d_pure hS152 5 #[true, true, true, true, true, true, false, false, false, false, false, false, false, false, false] rfl rfl rfl rfl (by kernel_rfl) (fun _ _ _ h => h) (fun _ => (r_move hS152 rfl rfl)) fun a153 hS153 => d_pure hS153 6 #[true, true, true, true, true, true, true, false, false, false, false, false, false, false, false] rfl rfl rfl rfl (by kernel_rfl) (fun _ _ _ h => h) (fun _ => (r_move hS153 rfl rfl)) fun a154 hS154 => d_pure hS154 7 #[true, true, true, true, true, true, true, true, false, false, false, false, false, false, false] rfl rfl rfl rfl (by kernel_rfl) (fun _ _ _ h => h) (fun _ => (r_bin hS154 rfl rfl rfl b_add)) fun a155 hS155 => d_pure hS155 8 #[true, true, true, true, true, true, true, true, true, false, false, false, false, false, false] rfl rfl rfl rfl (by kernel_rfl) (fun _ _ _ h => h) (fun _ => (r_move hS155 rfl rfl)) fun a156 hS156 => d_pure hS156 9 #[true, true, true, true, true, true, true, true, true, true, false, false, false, false, false] rfl rfl rfl rfl (by kernel_rfl) (fun _ _ _ h => h) (fun _ => (r_len (e := 3) (sz := 1) (by_ := 8) hS156 rfl rfl (by kernel_rfl))) fun a157 hS157 => d_pure hS157 10 #[true, true, true, true, true, true, true, true, true, true, true, false, false, false, false] rfl rfl rfl rfl (by kernel_rfl) (fun _ _ _ h => h) (fun _ => (r_bin hS157 rfl rfl rfl (b_rem hq142))) fun a158 hS158 => d_pure hS158 11 #[true, true, true, true, true, true, true, true, true, true, true, true, false, false, false] rfl rfl rfl rfl (by kernel_rfl) (fun _ _ _ h => h) (fun _ => (r_index (e := 3) (sz := 1) (by_ := 8) hS158 rfl rfl rfl (by kernel_rfl) (RdS.some_ (OwS.rd h47) hx144) (idx_lo hx144) (idx_hi hx144))) fun a159 hS159 => d_take hS159 12 #[true, true, true, true, true, true, true, true, true, true, true, true, true, false, false] rfl rfl rfl rfl (by kernel_rfl) (fun _ _ _ h => h) ⟨_, hC⟩ (fun w' g' Fz => (r_load1 (n := 1) hS159 rfl rfl (by kernel_rfl) (RdS.cell (i := (Int.tmod (wi (m0_0 + 1)) (r43.1.length : Int))) (sz := 1) (j := 0) (OwS.rd (OwS.fr h47 Fz (fun c' hc (hm : N + 6 ≤ c') => by omega))) hx144 rfl))) fun a160 hS160 => ?_
                  refine d_one 13 #[true, true, true, true, true, true, true, true, true, true, true, true, true, true, false] rfl (by kernel_rfl) (arm_call hS160 rfl rfl rfl (r_call hS160 rfl rfl (by kernel_rfl)) (law24_linked.calls (C0 := (fun q => q = N + 0)) (p0 := r13.2) (p1 := x140) (p2 := x143) (g := g129) (N + 6)  (OwD.rdf (fun _ _ _ _ _ _ h => h) h17) (fun q (hq : q = N + 0) => by omega) hr146) (fun _ _ ⟨g', _, Fz⟩ _ => ⟨g', hC.trans Fz (fun c' (hm : N + 6 ≤ c') => by show N + 6 ≤ c'; omega)⟩) ?_)
                  rintro _ a161 w162 ⟨g162, rfl, F162⟩ hS161
                  have hC162 := hC.trans F162 (fun c' (hm : N + 6 ≤ c') => by show N + 6 ≤ c'; omega)
                  replace h17 := OwS.fr h17 F162 (fun c' hc (hm : N + 6 ≤ c') => by omega)
                  replace h47 := OwS.fr h47 F162 (fun c' hc (hm : N + 6 ≤ c') => by omega)
                  replace hF := hF.trans F162 (fun c' (hm : N + 6 ≤ c') => by show N ≤ c'; omega)
                  refine d_pure hS161 14 #[true, true, true, true, true, true, true, true, true, true, true, true, true, true, true] rfl rfl rfl rfl (by kernel_rfl) (fun _ _ _ h => h) (fun _ => (r_not hS161 rfl rfl)) fun a163 hS163 => d_done (by kernel_rfl) (hK _ _ ?_)
                  replace hS : Sl 94 _ [(6, .slice A15 r13.2.length cap16), (9, .slice A45 r43.1.length cap46), (11, .int .i64 m0_0), (78, .bool (!r145))] := hS163.re ⟨rfl, rfl, rfl, rfl, trivial⟩
                  clear hK K hC
                  try clear hS148 hS149 hS150 hS151 hS152 hS153 hS154 hS155 hS156 hS157 hS158 hS159 hS160 hS161 hS163
                  obtain ⟨a, ha⟩ : ∃ a', a' = a163 := ⟨_, rfl⟩
                  rw [← ha] at hS ⊢; clear ha
                  refine c_cond hS rfl (fun hb164 => ?_) (fun hb164 => ?_)
                  · replace H := ite_t hb164 H
                    refine c_pure [(4, .bool false)] (fun R hR => st_val hS rfl rfl rfl (r_assign hS rfl rfl) fun a165 hS165 => wpList_nil (hR _ (hS165.re ⟨rfl, trivial⟩))) ?_
                    clear hS
                    clear a
                    intro a hS
                    refine wp_ret ?_
                    have e := Option.some.inj H
                    subst e
                    replace H := Fl.go_out Hl139
                    have e := Option.some.inj H
                    subst e
                    replace H := Fl.go_out Hl127
                    have e := Option.some.inj H
                    subst e
                    repeat (with_reducible first | refine then_ret ?_ | refine inBlock_ret ?_)
                    exact c_ret1 hS Try.results6 rfl ⟨_, rfl, g162, rfl, hF⟩
                  · replace H := ite_f hb164 H
                    refine wp_skip ?_
                    change Code.wp _ _ _ _ _
                    refine c_pure [(6, .slice A15 r13.2.length cap16), (9, .slice A45 r43.1.length cap46), (11, .int .i64 m0_0), (12, .int .i64 0)] (fun R hR => st_val hS rfl rfl rfl (r_assign hS rfl rfl) fun a166 hS166 => wpList_nil (hR _ (hS166.re ⟨rfl, rfl, rfl, rfl, trivial⟩))) ?_
                    clear hS
                    clear a
                    intro a hS
                    refine wp_block ?_
                    refine wp_loop_ghost (fun kq => fun a w167 => ∃ (m1_0 : Int), ∃ (g167 : Nat → Nat), law24_DepgraphOrderOrCycle.l1 r43 m0_0 x140 kq m1_0 = some o138 ∧ Sl 94 a [(6, .slice A15 r13.2.length cap16), (9, .slice A45 r43.1.length cap46), (11, .int .i64 m0_0), (12, .int .i64 m1_0)] ∧ OwS kd_api_Link 34 w167 g167 (N + 0) A15 cap16 r13.2 ∧ OwS (kint .i64) 3 w167 g167 (N + 4) A45 cap46 r43.1 ∧ Fr (fun q => N ≤ q) w g w167 g167) FUEL ?_ ?_
                    · exact ⟨0, g162, H, hS.re ⟨rfl, rfl, rfl, rfl, trivial⟩, h17, h47, hF⟩
                    · clear H
                      clear h17 h47 hF
                      clear hS
                      rintro k168 a w167 ⟨m1_0, g167, hpre0, hS, h17, h47, hF⟩
                      have H := hpre0
                      clear hpre0
                      cases k168 with
                      | zero => exact absurd H (by simp [law24_DepgraphOrderOrCycle.l1])
                      | succ k168 =>
                        rw [law24_DepgraphOrderOrCycle.l1] at H
                        refine wp_seq ?_
                        refine c_pure [(6, .slice A15 r13.2.length cap16), (9, .slice A45 r43.1.length cap46), (11, .int .i64 m0_0), (12, .int .i64 m1_0), (81, .bool (decide (m1_0 < m0_0)))] (fun R hR => st_val hS rfl rfl rfl (r_move hS rfl rfl) fun a169 hS169 => st_val hS169 rfl rfl rfl (r_move hS169 rfl rfl) fun a170 hS170 => st_val hS170 rfl rfl rfl (r_bin hS170 rfl rfl rfl b_lss) fun a171 hS171 => wpList_nil (hR _ (hS171.re ⟨rfl, rfl, rfl, rfl, rfl, trivial⟩))) ?_
                        clear hS
                        clear a
                        intro a hS
                        refine c_cond hS rfl (fun hb172 => ?_) (fun hb172 => ?_)
                        · replace H := ite_t hb172 H
                          refine wp_skip ?_
                          change Code.wp _ _ _ _ _
                          refine wp_seq ?_
                          refine wp_block ?_
                          obtain ⟨x180, hx181, H⟩ := bind_el H
                          refine c_draw (fun K hK => d_start (fun q => False) g167 [] 9 #[false, false, false, false, false, false, false, false, false] (by kernel_rfl) rfl rfl (fun w173 hw173 => ?_))
                          have F173 : Fr (fun _ => False) w167 g167 w173 g167 := by rw [hw173]; exact Fr.drew _ _ _
                          replace h17 := OwS.fr h17 F173 (fun _ _ h => h)
                          replace h47 := OwS.fr h47 F173 (fun _ _ h => h)
                          replace hF := hF.trans F173 (fun _ h => h.elim)
                          have hC : Fr (fun q => False) w173 g167 w173 g167 := Fr.refl _ _ _
                          refine d_pure hS 0 #[true, false, false, false, false, false, false, false, false] rfl rfl rfl rfl (by kernel_rfl) (fun _ _ _ h => h) (fun _ => (r_move hS rfl rfl)) fun a174 hS174 => d_pure hS174 1 #[true, true, false, false, false, false, false, false, false] rfl rfl rfl rfl (by kernel_rfl) (fun _ _ _ h => h) (fun _ => (r_move hS174 rfl rfl)) fun a175 hS175 => d_pure hS175 2 #[true, true, true, false, false, false, false, false, false] rfl rfl rfl rfl (by kernel_rfl) (fun _ _ _ h => h) (fun _ => (r_index (e := 3) (sz := 1) (by_ := 8) hS175 rfl rfl rfl (by kernel_rfl) (RdS.some_ (OwS.rd h47) hx141) (idx_lo hx141) (idx_hi hx141))) fun a176 hS176 => d_take hS176 3 #[true, true, true, true, false, false, false, false, false] rfl rfl rfl rfl (by kernel_rfl) (fun _ _ _ h => h) ⟨_, hC⟩ (fun w' g' Fz => (r_load1 (n := 1) hS176 rfl rfl (by kernel_rfl) (RdS.cell (i := m0_0) (sz := 1) (j := 0) (OwS.rd (OwS.fr h47 Fz (fun _ _ h => h))) hx141 rfl))) fun a177 hS177 => d_pure hS177 4 #[true, true, true, true, true, false, false, false, false] rfl rfl rfl rfl (by kernel_rfl) (fun _ _ _ h => h) (fun _ => (r_move hS177 rfl rfl)) fun a178 hS178 => d_pure hS178 5 #[true, true, true, true, true, true, false, false, false] rfl rfl rfl rfl (by kernel_rfl) (fun _ _ _ h => h) (fun _ => (r_move hS178 rfl rfl)) fun a179 hS179 => d_pure hS179 6 #[true, true, true, true, true, true, true, false, false] rfl rfl rfl rfl (by kernel_rfl) (fun _ _ _ h => h) (fun _ => (r_index (e := 3) (sz := 1) (by_ := 8) hS179 rfl rfl rfl (by kernel_rfl) (RdS.some_ (OwS.rd h47) hx181) (idx_lo hx181) (idx_hi hx181))) fun a182 hS182 => d_take hS182 7 #[true, true, true, true, true, true, true, true, false] rfl rfl rfl rfl (by kernel_rfl) (fun _ _ _ h => h) ⟨_, hC⟩ (fun w' g' Fz => (r_load1 (n := 1) hS182 rfl rfl (by kernel_rfl) (RdS.cell (i := m1_0) (sz := 1) (j := 0) (OwS.rd (OwS.fr h47 Fz (fun _ _ h => h))) hx181 rfl))) fun a183 hS183 => d_pure hS183 8 #[true, true, true, true, true, true, true, true, true] rfl rfl rfl rfl (by kernel_rfl) (fun _ _ _ h => h) (fun _ => (r_bin hS183 rfl rfl rfl b_eql)) fun a184 hS184 => d_done (by kernel_rfl) (hK _ _ ?_)
                          replace hS : Sl 94 _ [(6, .slice A15 r13.2.length cap16), (9, .slice A45 r43.1.length cap46), (11, .int .i64 m0_0), (12, .int .i64 m1_0), (92, .bool (x140 == x180))] := hS184.re ⟨rfl, rfl, rfl, rfl, rfl, trivial⟩
                          clear hK K hC
                          try clear hS174 hS175 hS176 hS177 hS178 hS179 hS182 hS183 hS184
                          obtain ⟨a, ha⟩ : ∃ a', a' = a184 := ⟨_, rfl⟩
                          rw [← ha] at hS ⊢; clear ha
                          refine c_cond hS rfl (fun hb185 => ?_) (fun hb185 => ?_)
                          · replace H := ite_t hb185 H
                            refine c_pure [(4, .bool false)] (fun R hR => st_val hS rfl rfl rfl (r_assign hS rfl rfl) fun a186 hS186 => wpList_nil (hR _ (hS186.re ⟨rfl, trivial⟩))) ?_
                            clear hS
                            clear a
                            intro a hS
                            refine wp_ret ?_
                            have e := Option.some.inj H
                            subst e
                            replace H := Fl.go_out Hl139
                            have e := Option.some.inj H
                            subst e
                            replace H := Fl.go_out Hl127
                            have e := Option.some.inj H
                            subst e
                            repeat (with_reducible first | refine then_ret ?_ | refine inBlock_ret ?_)
                            exact c_ret1 hS Try.results6 rfl ⟨_, rfl, g167, rfl, hF⟩
                          · replace H := ite_f hb185 H
                            refine wp_skip ?_
                            change Code.wp _ _ _ _ _
                            refine c_pure1 [(6, .slice A15 r13.2.length cap16), (9, .slice A45 r43.1.length cap46), (11, .int .i64 m0_0), (12, .int .i64 (wi (m1_0 + 1)))] (fun R hR => st_val hS rfl rfl rfl (r_move hS rfl rfl) fun a187 hS187 => st_val hS187 rfl rfl rfl (r_bin hS187 rfl rfl rfl b_add) fun a188 hS188 => st_val hS188 rfl rfl rfl (r_assign hS188 rfl rfl) fun a189 hS189 => wpList_nil (hR _ (hS189.re ⟨rfl, rfl, rfl, rfl, trivial⟩))) ?_
                            clear hS
                            clear a
                            intro a hS
                            refine ⟨k168, Nat.lt_succ_self _, ?_⟩
                            exact ⟨wi (m1_0 + 1), g167, H, hS.re ⟨rfl, rfl, rfl, rfl, trivial⟩, h17, h47, hF⟩
                        · replace H := ite_f hb172 H
                          refine wp_exit ?_
                          have e := Option.some.inj H
                          exact ⟨g167, e.symm, hS.re ⟨rfl, rfl, rfl, trivial⟩, h17, h47, hF⟩
                · clear H
                  clear h17 h47 hF
                  clear hS
                  rintro a w136 ⟨g136, hpre0, hS, h17, h47, hF⟩
                  subst hpre0
                  have H := Fl.go_nxt Hl139
                  clear Hl139
                  refine c_pure1 [(6, .slice A15 r13.2.length cap16), (9, .slice A45 r43.1.length cap46), (11, .int .i64 (wi (m0_0 + 1)))] (fun R hR => st_val hS rfl rfl rfl (r_move hS rfl rfl) fun a190 hS190 => st_val hS190 rfl rfl rfl (r_bin hS190 rfl rfl rfl b_add) fun a191 hS191 => st_val hS191 rfl rfl rfl (r_assign hS191 rfl rfl) fun a192 hS192 => wpList_nil (hR _ (hS192.re ⟨rfl, rfl, rfl, trivial⟩))) ?_
                  clear hS
                  clear a
                  intro a hS
                  refine ⟨k130, Nat.lt_succ_self _, ?_⟩
                  exact ⟨wi (m0_0 + 1), g136, H, hS.re ⟨rfl, rfl, rfl, trivial⟩, h17, h47, hF⟩
              · replace H := ite_f hb135 H
                refine wp_exit ?_
                have e := Option.some.inj H
                exact ⟨g129, e.symm, hS.re trivial, hF⟩
        · clear H
          clear h17 h47 hF
          clear hS
          rintro a w124 ⟨g124, hpre0, hS, hF⟩
          subst hpre0
          have H := Fl.go_nxt Hl127
          clear Hl127
          obtain ⟨r193, hr194, H⟩ := bind_el H
          refine c_region (fun K hK => ?_)
          refine st_enter hS rfl rfl rfl (r_call hS rfl rfl (by kernel_rfl)) (law24_awake.calls (g := g124) (N + 6)   hr194) ?_
          rintro _ a195 w196 ⟨g196, rfl, F196⟩ hS195
          replace hF := hF.trans F196 (fun c' (hm : N + 6 ≤ c') => by show N ≤ c'; omega)
          refine st_val hS195 rfl rfl rfl (r_assign hS195 rfl rfl) fun a197 hS197 => wpList_nil (hK _ _ ?_)
          replace hS : Sl 94 _ [(4, .bool r193)] := hS197.re ⟨rfl, trivial⟩
          clear hK K
          try clear hS195 hS197
          obtain ⟨a, ha⟩ : ∃ a', a' = a197 := ⟨_, rfl⟩
          rw [← ha] at hS ⊢; clear ha
          refine wp_ret ?_
          have e := Option.some.inj H
          subst e
          repeat (with_reducible first | refine then_ret ?_ | refine inBlock_ret ?_)
          exact c_ret1 hS Try.results6 rfl ⟨_, rfl, g196, rfl, hF⟩

/-- What is left of law24_DepgraphOrderOrCycle: about plain values alone. -/
def law24_DepgraphOrderOrCycle.Pure : Prop := ∀ (p0 : Int) (p1 : List api_Link), (Lit.int .i64 p0).wf = true → (p1.length ≤ maxLen ∧ ∀ p1' ∈ p1, Wf_api_Link p1') → law24_DepgraphOrderOrCycle.f p0 p1 = some true

end Go.Proofs.Ytphgandhncmaoaa.Sim
