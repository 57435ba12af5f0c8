/-
  Printed by a program of this session (wip/tools): plain functions with the same answers as the Go functions, and the proofs of it.
-/
import Derived.Test.YtphgandhncmaoaaFn
import Derived.Test.YtphgandhncmaoaaOp
namespace Go.Proofs.Ytphgandhncmaoaa.Sim
open Go
set_option linter.unusedVariables false
set_option linter.unusedSimpArgs false

/-! ### law24_DepgraphLevelsAgree: function 7 -/
def law24_DepgraphLevelsAgree.l1 (r14 : Int × (List api_Link)) (r29 : (List Int) × Int) (m0_0 : Int) (x152 : Int) : Nat → Bool → Int → Option (Fl (Fl (Fl (Bool) (Unit)) (Unit)) (Bool))
  | 0, _, _ => none
  | k164 + 1, m1_0, m1_1 => if decide (m1_1 < (r14.2.length : Int)) = true then (((idx r14.2 m1_1).bind fun x176 => if (x176.Consumer == m0_0) = true then ((idx r29.1 x176.Supplier).bind fun x191 => if decide (x152 ≤ x191) = true then (some (.out (.out (.out (.out false))))) else (some (.nxt (m1_0 || (x191 == (wi (x152 - 1))))))) else (some (.nxt m1_0)) : Option (Fl (Fl (Fl (Fl (Bool) (Unit)) (Unit)) (Bool)) (Bool))).bind fun o172 => o172.go fun v171 => law24_DepgraphLevelsAgree.l1 r14 r29 m0_0 x152 k164 v171 (wi (m1_1 + 1))) else (some (.nxt m1_0))
def law24_DepgraphLevelsAgree.l0 (r14 : Int × (List api_Link)) (r29 : (List Int) × Int) : Nat → Int → Option (Fl (Bool) (Unit))
  | 0, _ => none
  | k140 + 1, m0_0 => if decide (m0_0 < (r29.1.length : Int)) = true then (((idx r29.1 m0_0).bind fun x152 => (law24_DepgraphLevelsAgree.l1 r14 r29 m0_0 x152 FUEL (x152 == 0) 0 : Option (Fl (Fl (Fl (Bool) (Unit)) (Unit)) (Bool))).bind fun o160 => o160.go fun v159 => if (!v159) = true then (some (.out (.out false))) else (some (.nxt ())) : Option (Fl (Fl (Bool) (Unit)) (Unit))).bind fun o148 => o148.go fun _ => law24_DepgraphLevelsAgree.l0 r14 r29 k140 (wi (m0_0 + 1))) else (some (.nxt ()))
def law24_DepgraphLevelsAgree.f (p0 : Int) (p1 : List api_Link) (p2 : Bool) : Option (Bool) := if decide (40 < (p1.length : Int)) = true then ((law24_awake.f ).bind fun r6 => some r6) else ((law24_Graph.f p0 p1 p2).bind fun r14 => (depgraph_Levels.f r14.1 r14.2).bind fun r29 => (ref24_Levels.f r14.1 r14.2).bind fun r44 => (depgraph_Levels.f p0 p1).bind fun r59 => (ref24_Levels.f p0 p1).bind fun r74 => (if ((r29.2 != r44.2) || (r59.2 != r74.2)) = true then some true else (help_Equal_int.f r29.1 r44.1).bind fun r108 => some (!r108)).bind fun t113 => if t113 = true then (some false) else ((law24_DepgraphLevelsAgree.l0 r14 r29 FUEL 0 : Option (Fl (Bool) (Unit))).bind fun o136 => o136.go fun _ => (law24_awake.f ).bind fun r262 => some r262))
set_option maxRecDepth 100000 in
set_option maxHeartbeats 4000000 in
theorem law24_DepgraphLevelsAgree.calls {p0 : Int} {p1 : List api_Link} {A1 : Option Addr} {cap1 : Nat} {C1 : Nat → Prop} {p2 : Bool} {w : World} {g : Nat → Nat} {out : Bool} (N : Nat) (hp1 : RdS kd_api_Link w g C1 A1 cap1 p1) (hC1 : ∀ c, C1 c → c < N) (H : law24_DepgraphLevelsAgree.f p0 p1 p2 = some out) :
    Calls Try.prog 7 #[.int .i64 p0, .slice A1 p1.length cap1, .bool p2] w (fun e w' => ∃ v, e = .returned v ∧ ∃ (g' : Nat → Nat), v = .bool out ∧ Fr (fun q => N ≤ q) w g w' g') := by
  unfold law24_DepgraphLevelsAgree.f at H
  refine calls_enter Try.func7 rfl Try.ntmps7 rfl (fun a hS => ?_)
  replace hS : Sl 126 a [(0, .int .i64 p0), (1, .slice A1 p1.length cap1), (2, .bool p2)] := hS
  have hF : Fr (fun q => N ≤ q) w g w g := Fr.refl _ _ _
  refine c_pure [(0, .int .i64 p0), (1, .slice A1 p1.length cap1), (2, .bool p2)] (fun R hR => st_val hS rfl rfl rfl (r_assign hS rfl rfl) fun a1 hS1 => wpList_nil (hR _ (hS1.re ⟨rfl, rfl, rfl, trivial⟩))) ?_
  clear hS
  clear a
  intro a hS
  refine wp_seq ?_
  refine c_pure [(0, .int .i64 p0), (1, .slice A1 p1.length cap1), (2, .bool p2), (22, .bool (decide (40 < (p1.length : Int))))] (fun R hR => st_val hS rfl rfl rfl (r_move hS rfl rfl) fun a2 hS2 => st_val hS2 rfl rfl rfl (r_len (e := 34) (sz := 2) (by_ := 16) hS2 rfl rfl (by kernel_rfl)) fun a3 hS3 => st_val hS3 rfl rfl rfl (r_bin hS3 rfl rfl rfl b_gtr) fun a4 hS4 => wpList_nil (hR _ (hS4.re ⟨rfl, rfl, rfl, rfl, trivial⟩))) ?_
  clear hS
  clear a
  intro a hS
  refine c_cond hS rfl (fun hb5 => ?_) (fun hb5 => ?_)
  · replace H := ite_t hb5 H
    obtain ⟨r6, hr7, H⟩ := bind_el H
    refine c_region (fun K hK => ?_)
    refine st_enter hS rfl rfl rfl (r_call hS rfl rfl (by kernel_rfl)) (law24_awake.calls (g := g) (N + 10)   hr7) ?_
    rintro _ a8 w9 ⟨g9, rfl, F9⟩ hS8
    replace hp1 := RdS.fr hp1 F9 (by decide) (fun q (hq : C1 q) (hm : N + 10 ≤ q) => by have := hC1 q hq; omega)
    replace hF := hF.trans F9 (fun c' (hm : N + 10 ≤ c') => by show N ≤ c'; omega)
    refine st_val hS8 rfl rfl rfl (r_assign hS8 rfl rfl) fun a10 hS10 => wpList_nil (hK _ _ ?_)
    replace hS : Sl 126 _ [(6, .bool r6)] := hS10.re ⟨rfl, trivial⟩
    clear hK K
    try clear hS8 hS10
    obtain ⟨a, ha⟩ : ∃ a', a' = a10 := ⟨_, rfl⟩
    rw [← ha] at hS ⊢; clear ha
    refine wp_ret ?_
    have e := Option.some.inj H
    subst e
    repeat (with_reducible first | refine then_ret ?_ | refine inBlock_ret ?_)
    exact c_ret1 hS Try.results7 rfl ⟨_, rfl, g9, rfl, hF⟩
  · replace H := ite_f hb5 H
    refine wp_skip ?_
    change Code.wp _ _ _ _ _
    obtain ⟨r14, hr15, H⟩ := bind_el H
    refine c_region (fun K hK => ?_)
    refine st_val hS rfl rfl rfl (r_move hS rfl rfl) fun a11 hS11 => st_val hS11 rfl rfl rfl (r_move hS11 rfl rfl) fun a12 hS12 => st_val hS12 rfl rfl rfl (r_move hS12 rfl rfl) fun a13 hS13 => ?_
    refine st_enter hS13 rfl rfl rfl (r_call hS13 rfl rfl (by kernel_rfl)) (law24_Graph.calls (C1 := C1) (p0 := p0) (p1 := p1) (p2 := p2) (g := g) (N + 10) (N + 0) hp1 (fun q (hq : C1 q) => by have := hC1 q hq; omega) (by omega) hr15) ?_
    rintro _ a20 w21 ⟨g21, A16, cap17, rfl, h18, F21⟩ hS20
    replace hp1 := RdS.fr hp1 F21 (by decide) (fun q (hq : C1 q) (hm : (N + 0 ≤ q ∧ q < N + 0 + 2) ∨ N + 10 ≤ q) => by have := hC1 q hq; omega)
    replace hF := hF.trans F21 (fun c' (hm : (N + 0 ≤ c' ∧ c' < N + 0 + 2) ∨ N + 10 ≤ c') => by show N ≤ c'; omega)
    refine st_val hS20 rfl rfl rfl (r_move hS20 rfl rfl) fun a22 hS22 => st_val hS22 rfl rfl rfl (r_extract hS22 rfl rfl rfl) fun a23 hS23 => st_val hS23 rfl rfl rfl (r_extract hS23 rfl rfl rfl) fun a24 hS24 => st_val hS24 rfl rfl rfl (r_assign hS24 rfl rfl) fun a25 hS25 => st_val hS25 rfl rfl rfl (r_assign hS25 rfl rfl) fun a26 hS26 => wpList_nil (hK _ _ ?_)
    replace hS : Sl 126 _ [(0, .int .i64 p0), (1, .slice A1 p1.length cap1), (7, .int .i64 r14.1), (8, .slice A16 r14.2.length cap17)] := hS26.re ⟨rfl, rfl, rfl, rfl, trivial⟩
    clear hK K
    try clear hS11 hS12 hS13 hS20 hS22 hS23 hS24 hS25 hS26
    obtain ⟨a, ha⟩ : ∃ a', a' = a26 := ⟨_, rfl⟩
    rw [← ha] at hS ⊢; clear ha
    obtain ⟨r29, hr30, H⟩ := bind_el H
    refine c_region (fun K hK => ?_)
    refine st_val hS rfl rfl rfl (r_move hS rfl rfl) fun a27 hS27 => st_val hS27 rfl rfl rfl (r_move hS27 rfl rfl) fun a28 hS28 => ?_
    refine st_enter hS28 rfl rfl rfl (r_call hS28 rfl rfl (by kernel_rfl)) (depgraph_Levels.calls (C1 := (fun q => q = N + 0)) (p0 := r14.1) (p1 := r14.2) (g := g21) (N + 10) (N + 2) (OwD.rdf (fun _ _ _ _ _ _ h => h) h18) (fun q (hq : q = N + 0) => by omega) (by omega) hr30) ?_
    rintro _ a35 w36 ⟨g36, A31, cap32, rfl, h33, F36⟩ hS35
    replace h18 := OwS.fr h18 F36 (fun c' hc (hm : (N + 2 ≤ c' ∧ c' < N + 2 + 2) ∨ N + 10 ≤ c') => by omega)
    replace hp1 := RdS.fr hp1 F36 (by decide) (fun q (hq : C1 q) (hm : (N + 2 ≤ q ∧ q < N + 2 + 2) ∨ N + 10 ≤ q) => by have := hC1 q hq; omega)
    replace hF := hF.trans F36 (fun c' (hm : (N + 2 ≤ c' ∧ c' < N + 2 + 2) ∨ N + 10 ≤ c') => by show N ≤ c'; omega)
    refine st_val hS35 rfl rfl rfl (r_move hS35 rfl rfl) fun a37 hS37 => st_val hS37 rfl rfl rfl (r_extract hS37 rfl rfl rfl) fun a38 hS38 => st_val hS38 rfl rfl rfl (r_extract hS38 rfl rfl rfl) fun a39 hS39 => st_val hS39 rfl rfl rfl (r_assign hS39 rfl rfl) fun a40 hS40 => st_val hS40 rfl rfl rfl (r_assign hS40 rfl rfl) fun a41 hS41 => wpList_nil (hK _ _ ?_)
    replace hS : Sl 126 _ [(0, .int .i64 p0), (1, .slice A1 p1.length cap1), (7, .int .i64 r14.1), (8, .slice A16 r14.2.length cap17), (9, .slice A31 r29.1.length cap32), (10, .int .i64 r29.2)] := hS41.re ⟨rfl, rfl, rfl, rfl, rfl, rfl, trivial⟩
    clear hK K
    try clear hS27 hS28 hS35 hS37 hS38 hS39 hS40 hS41
    obtain ⟨a, ha⟩ : ∃ a', a' = a41 := ⟨_, rfl⟩
    rw [← ha] at hS ⊢; clear ha
    obtain ⟨r44, hr45, H⟩ := bind_el H
    refine c_region (fun K hK => ?_)
    refine st_val hS rfl rfl rfl (r_move hS rfl rfl) fun a42 hS42 => st_val hS42 rfl rfl rfl (r_move hS42 rfl rfl) fun a43 hS43 => ?_
    refine st_enter hS43 rfl rfl rfl (r_call hS43 rfl rfl (by kernel_rfl)) (ref24_Levels.calls (C1 := (fun q => q = N + 0)) (p0 := r14.1) (p1 := r14.2) (g := g36) (N + 10) (N + 4) (OwD.rdf (fun _ _ _ _ _ _ h => h) h18) (fun q (hq : q = N + 0) => by omega) (by omega) hr45) ?_
    rintro _ a50 w51 ⟨g51, A46, cap47, rfl, h48, F51⟩ hS50
    replace h18 := OwS.fr h18 F51 (fun c' hc (hm : (N + 4 ≤ c' ∧ c' < N + 4 + 2) ∨ N + 10 ≤ c') => by omega)
    replace h33 := OwS.fr h33 F51 (fun c' hc (hm : (N + 4 ≤ c' ∧ c' < N + 4 + 2) ∨ N + 10 ≤ c') => by omega)
    replace hp1 := RdS.fr hp1 F51 (by decide) (fun q (hq : C1 q) (hm : (N + 4 ≤ q ∧ q < N + 4 + 2) ∨ N + 10 ≤ q) => by have := hC1 q hq; omega)
    replace hF := hF.trans F51 (fun c' (hm : (N + 4 ≤ c' ∧ c' < N + 4 + 2) ∨ N + 10 ≤ c') => by show N ≤ c'; omega)
    refine st_val hS50 rfl rfl rfl (r_move hS50 rfl rfl) fun a52 hS52 => st_val hS52 rfl rfl rfl (r_extract hS52 rfl rfl rfl) fun a53 hS53 => st_val hS53 rfl rfl rfl (r_extract hS53 rfl rfl rfl) fun a54 hS54 => st_val hS54 rfl rfl rfl (r_assign hS54 rfl rfl) fun a55 hS55 => st_val hS55 rfl rfl rfl (r_assign hS55 rfl rfl) fun a56 hS56 => wpList_nil (hK _ _ ?_)
    replace hS : Sl 126 _ [(0, .int .i64 p0), (1, .slice A1 p1.length cap1), (8, .slice A16 r14.2.length cap17), (9, .slice A31 r29.1.length cap32), (10, .int .i64 r29.2), (11, .slice A46 r44.1.length cap47), (12, .int .i64 r44.2)] := hS56.re ⟨rfl, rfl, rfl, rfl, rfl, rfl, rfl, trivial⟩
    clear hK K
    try clear hS42 hS43 hS50 hS52 hS53 hS54 hS55 hS56
    obtain ⟨a, ha⟩ : ∃ a', a' = a56 := ⟨_, rfl⟩
    rw [← ha] at hS ⊢; clear ha
    obtain ⟨r59, hr60, H⟩ := bind_el H
    refine c_region (fun K hK => ?_)
    refine st_val hS rfl rfl rfl (r_move hS rfl rfl) fun a57 hS57 => st_val hS57 rfl rfl rfl (r_move hS57 rfl rfl) fun a58 hS58 => ?_
    refine st_enter hS58 rfl rfl rfl (r_call hS58 rfl rfl (by kernel_rfl)) (depgraph_Levels.calls (C1 := C1) (p0 := p0) (p1 := p1) (g := g51) (N + 10) (N + 6) hp1 (fun q (hq : C1 q) => by have := hC1 q hq; omega) (by omega) hr60) ?_
    rintro _ a65 w66 ⟨g66, A61, cap62, rfl, h63, F66⟩ hS65
    replace h18 := OwS.fr h18 F66 (fun c' hc (hm : (N + 6 ≤ c' ∧ c' < N + 6 + 2) ∨ N + 10 ≤ c') => by omega)
    replace h33 := OwS.fr h33 F66 (fun c' hc (hm : (N + 6 ≤ c' ∧ c' < N + 6 + 2) ∨ N + 10 ≤ c') => by omega)
    replace h48 := OwS.fr h48 F66 (fun c' hc (hm : (N + 6 ≤ c' ∧ c' < N + 6 + 2) ∨ N + 10 ≤ c') => by omega)
    replace hp1 := RdS.fr hp1 F66 (by decide) (fun q (hq : C1 q) (hm : (N + 6 ≤ q ∧ q < N + 6 + 2) ∨ N + 10 ≤ q) => by have := hC1 q hq; omega)
    replace hF := hF.trans F66 (fun c' (hm : (N + 6 ≤ c' ∧ c' < N + 6 + 2) ∨ N + 10 ≤ c') => by show N ≤ c'; omega)
    refine st_val hS65 rfl rfl rfl (r_move hS65 rfl rfl) fun a67 hS67 => st_val hS67 rfl rfl rfl (r_extract hS67 rfl rfl rfl) fun a68 hS68 => st_val hS68 rfl rfl rfl (r_extract hS68 rfl rfl rfl) fun a69 hS69 => st_val hS69 rfl rfl rfl (r_assign hS69 rfl rfl) fun a70 hS70 => st_val hS70 rfl rfl rfl (r_assign hS70 rfl rfl) fun a71 hS71 => wpList_nil (hK _ _ ?_)
    replace hS : Sl 126 _ [(0, .int .i64 p0), (1, .slice A1 p1.length cap1), (8, .slice A16 r14.2.length cap17), (9, .slice A31 r29.1.length cap32), (10, .int .i64 r29.2), (11, .slice A46 r44.1.length cap47), (12, .int .i64 r44.2), (14, .int .i64 r59.2)] := hS71.re ⟨rfl, rfl, rfl, rfl, rfl, rfl, rfl, rfl, trivial⟩
    clear hK K
    try clear hS57 hS58 hS65 hS67 hS68 hS69 hS70 hS71
    obtain ⟨a, ha⟩ : ∃ a', a' = a71 := ⟨_, rfl⟩
    rw [← ha] at hS ⊢; clear ha
    obtain ⟨r74, hr75, H⟩ := bind_el H
    refine c_region (fun K hK => ?_)
    refine st_val hS rfl rfl rfl (r_move hS rfl rfl) fun a72 hS72 => st_val hS72 rfl rfl rfl (r_move hS72 rfl rfl) fun a73 hS73 => ?_
    refine st_enter hS73 rfl rfl rfl (r_call hS73 rfl rfl (by kernel_rfl)) (ref24_Levels.calls (C1 := C1) (p0 := p0) (p1 := p1) (g := g66) (N + 10) (N + 8) hp1 (fun q (hq : C1 q) => by have := hC1 q hq; omega) (by omega) hr75) ?_
    rintro _ a80 w81 ⟨g81, A76, cap77, rfl, h78, F81⟩ hS80
    replace h18 := OwS.fr h18 F81 (fun c' hc (hm : (N + 8 ≤ c' ∧ c' < N + 8 + 2) ∨ N + 10 ≤ c') => by omega)
    replace h33 := OwS.fr h33 F81 (fun c' hc (hm : (N + 8 ≤ c' ∧ c' < N + 8 + 2) ∨ N + 10 ≤ c') => by omega)
    replace h48 := OwS.fr h48 F81 (fun c' hc (hm : (N + 8 ≤ c' ∧ c' < N + 8 + 2) ∨ N + 10 ≤ c') => by omega)
    replace hp1 := RdS.fr hp1 F81 (by decide) (fun q (hq : C1 q) (hm : (N + 8 ≤ q ∧ q < N + 8 + 2) ∨ N + 10 ≤ q) => by have := hC1 q hq; omega)
    replace hF := hF.trans F81 (fun c' (hm : (N + 8 ≤ c' ∧ c' < N + 8 + 2) ∨ N + 10 ≤ c') => by show N ≤ c'; omega)
    refine st_val hS80 rfl rfl rfl (r_move hS80 rfl rfl) fun a82 hS82 => st_val hS82 rfl rfl rfl (r_extract hS82 rfl rfl rfl) fun a83 hS83 => st_val hS83 rfl rfl rfl (r_extract hS83 rfl rfl rfl) fun a84 hS84 => st_val hS84 rfl rfl rfl (r_assign hS84 rfl rfl) fun a85 hS85 => st_val hS85 rfl rfl rfl (r_assign hS85 rfl rfl) fun a86 hS86 => wpList_nil (hK _ _ ?_)
    replace hS : Sl 126 _ [(8, .slice A16 r14.2.length cap17), (9, .slice A31 r29.1.length cap32), (10, .int .i64 r29.2), (11, .slice A46 r44.1.length cap47), (12, .int .i64 r44.2), (14, .int .i64 r59.2), (16, .int .i64 r74.2)] := hS86.re ⟨rfl, rfl, rfl, rfl, rfl, rfl, rfl, trivial⟩
    clear hK K
    try clear hS72 hS73 hS80 hS82 hS83 hS84 hS85 hS86
    obtain ⟨a, ha⟩ : ∃ a', a' = a86 := ⟨_, rfl⟩
    rw [← ha] at hS ⊢; clear ha
    refine wp_seq ?_
    obtain ⟨t113, ht114, H⟩ := bind_el H
    refine c_region (fun K hK => ?_)
    refine st_val hS rfl rfl rfl (r_move hS rfl rfl) fun a87 hS87 => st_val hS87 rfl rfl rfl (r_move hS87 rfl rfl) fun a88 hS88 => st_val hS88 rfl rfl rfl (r_bin hS88 rfl rfl rfl b_neq) fun a89 hS89 => st_val hS89 rfl rfl rfl (r_move hS89 rfl rfl) fun a90 hS90 => ?_
    refine g_join (N := 126) 4 [(8, .slice A16 r14.2.length cap17), (9, .slice A31 r29.1.length cap32), (11, .slice A46 r44.1.length cap47), (62, .bool ((r29.2 != r44.2) || (r59.2 != r74.2)))] ?_ (fun hk => ?_)
    rotate_left
    · rcases Bool.eq_false_or_eq_true ((r29.2 != r44.2)) with hb91 | hb91
      · refine st_off hS90 (want_off hS90 rfl rfl rfl hb91) rfl rfl fun a95 hS95 => st_off hS95 (want_off hS95 rfl rfl rfl hb91) rfl rfl fun a96 hS96 => st_off hS96 (want_off hS96 rfl rfl rfl hb91) rfl rfl fun a97 hS97 => st_val hS97 rfl rfl rfl (r_pickT hS97 rfl rfl rfl hb91) fun a98 hS98 => hk _ (hS98.re ⟨rfl, rfl, rfl, (by rw [hb91]; rfl), trivial⟩)
      · refine st_valW hS90 (want_on hS90 rfl rfl rfl hb91) rfl rfl (r_move hS90 rfl rfl) fun a99 hS99 => st_valW hS99 (want_on hS99 rfl rfl rfl hb91) rfl rfl (r_move hS99 rfl rfl) fun a100 hS100 => st_valW hS100 (want_on hS100 rfl rfl rfl hb91) rfl rfl (r_bin hS100 rfl rfl rfl b_neq) fun a101 hS101 => st_val hS101 rfl rfl rfl (r_pickF hS101 rfl rfl rfl hb91) fun a102 hS102 => hk _ (hS102.re ⟨rfl, rfl, rfl, (by rw [hb91]; rfl), trivial⟩)
    intro a103 hS103
    refine st_val hS103 rfl rfl rfl (r_move hS103 rfl rfl) fun a104 hS104 => ?_
    refine g_joinR 5 (fun a w115 => ∃ (g115 : Nat → Nat), Sl 126 a [(8, .slice A16 r14.2.length cap17), (9, .slice A31 r29.1.length cap32), (68, .bool t113)] ∧ OwS kd_api_Link 34 w115 g115 (N + 0) A16 cap17 r14.2 ∧ OwS (kint .i64) 3 w115 g115 (N + 2) A31 cap32 r29.1 ∧ Fr (fun q => N ≤ q) w g w115 g115) ?_ (fun hk => ?_)
    rotate_left
    · rcases Bool.eq_false_or_eq_true (((r29.2 != r44.2) || (r59.2 != r74.2))) with hb105 | hb105
      · have H := ite_t hb105 ht114
        have e116 := Option.some.inj H
        refine st_off hS104 (want_off hS104 rfl rfl rfl hb105) rfl rfl fun a117 hS117 => st_off hS117 (want_off hS117 rfl rfl rfl hb105) rfl rfl fun a118 hS118 => st_off hS118 (want_off hS118 rfl rfl rfl hb105) rfl rfl fun a119 hS119 => st_off hS119 (want_off hS119 rfl rfl rfl hb105) rfl rfl fun a120 hS120 => st_val hS120 rfl rfl rfl (r_pickT hS120 rfl rfl rfl hb105) fun a121 hS121 => hk _ _ ?_
        exact ⟨g81, hS121.re ⟨rfl, rfl, (by rw [← e116]; rfl), trivial⟩, h18, h33, hF⟩
      · have H := ite_f hb105 ht114
        obtain ⟨r124, hr125, H⟩ := bind_el H
        have e129 := Option.some.inj H
        refine st_valW hS104 (want_on hS104 rfl rfl rfl hb105) rfl rfl (r_move hS104 rfl rfl) fun a122 hS122 => st_valW hS122 (want_on hS122 rfl rfl rfl hb105) rfl rfl (r_move hS122 rfl rfl) fun a123 hS123 => ?_
        refine st_enterW hS123 (want_on hS123 rfl rfl rfl hb105) rfl rfl (r_call hS123 rfl rfl (by kernel_rfl)) (help_Equal_int.calls (C0 := (fun q => q = N + 2)) (C1 := (fun q => q = N + 4)) (p0 := r29.1) (p1 := r44.1) (g := g81) (N + 10)  (OwD.rdf (fun _ _ _ _ _ _ h => h) h33) (fun q (hq : q = N + 2) => by omega) (OwD.rdf (fun _ _ _ _ _ _ h => h) h48) (fun q (hq : q = N + 4) => by omega) hr125) ?_
        rintro _ a126 w127 ⟨g127, rfl, F127⟩ hS126
        replace h18 := OwS.fr h18 F127 (fun c' hc (hm : N + 10 ≤ c') => by omega)
        replace h33 := OwS.fr h33 F127 (fun c' hc (hm : N + 10 ≤ c') => by omega)
        replace h48 := OwS.fr h48 F127 (fun c' hc (hm : N + 10 ≤ c') => by omega)
        replace hF := hF.trans F127 (fun c' (hm : N + 10 ≤ c') => by show N ≤ c'; omega)
        refine st_valW hS126 (want_on hS126 rfl rfl rfl hb105) rfl rfl (r_not hS126 rfl rfl) fun a128 hS128 => ?_
        refine st_val hS128 rfl rfl rfl (r_pickF hS128 rfl rfl rfl hb105) fun a130 hS130 => hk _ _ ?_
        exact ⟨g127, hS130.re ⟨rfl, rfl, (by rw [← e129]; rfl), trivial⟩, h18, h33, hF⟩
    rintro a131 w115 ⟨g115, hS131, h18, h33, hF⟩
    refine wpList_nil (hK _ _ ?_)
    replace hS : Sl 126 _ [(8, .slice A16 r14.2.length cap17), (9, .slice A31 r29.1.length cap32), (68, .bool t113)] := hS131.re ⟨rfl, rfl, rfl, trivial⟩
    clear hK K
    try clear hS87 hS88 hS89 hS90 hS103 hS104 hS131
    obtain ⟨a, ha⟩ : ∃ a', a' = a131 := ⟨_, rfl⟩
    rw [← ha] at hS ⊢; clear ha
    refine c_cond hS rfl (fun hb132 => ?_) (fun hb132 => ?_)
    · replace H := ite_t hb132 H
      refine c_pure [(6, .bool false)] (fun R hR => st_val hS rfl rfl rfl (r_assign hS rfl rfl) fun a133 hS133 => wpList_nil (hR _ (hS133.re ⟨rfl, trivial⟩))) ?_
      clear hS
      clear a
      intro a hS
      refine wp_ret ?_
      have e := Option.some.inj H
      subst e
      repeat (with_reducible first | refine then_ret ?_ | refine inBlock_ret ?_)
      exact c_ret1 hS Try.results7 rfl ⟨_, rfl, g115, rfl, hF⟩
    · replace H := ite_f hb132 H
      refine wp_skip ?_
      change Code.wp _ _ _ _ _
      obtain ⟨o136, H, Hl137⟩ := bind_el H
      refine c_cut (fun a w134 => ∃ (g134 : Nat → Nat), o136 = .nxt () ∧ Sl 126 a [] ∧ Fr (fun q => N ≤ q) w g w134 g134) ?_ ?_
      · refine c_pure [(8, .slice A16 r14.2.length cap17), (9, .slice A31 r29.1.length cap32), (17, .int .i64 0)] (fun R hR => st_val hS rfl rfl rfl (r_assign hS rfl rfl) fun a138 hS138 => wpList_nil (hR _ (hS138.re ⟨rfl, rfl, rfl, trivial⟩))) ?_
        clear hS
        clear a
        intro a hS
        refine wp_block ?_
        refine wp_loop_ghost (fun kq => fun a w139 => ∃ (m0_0 : Int), ∃ (g139 : Nat → Nat), law24_DepgraphLevelsAgree.l0 r14 r29 kq m0_0 = some o136 ∧ Sl 126 a [(8, .slice A16 r14.2.length cap17), (9, .slice A31 r29.1.length cap32), (17, .int .i64 m0_0)] ∧ OwS kd_api_Link 34 w139 g139 (N + 0) A16 cap17 r14.2 ∧ OwS (kint .i64) 3 w139 g139 (N + 2) A31 cap32 r29.1 ∧ Fr (fun q => N ≤ q) w g w139 g139) FUEL ?_ ?_
        · exact ⟨0, g115, H, hS.re ⟨rfl, rfl, rfl, trivial⟩, h18, h33, hF⟩
        · clear H
          clear h18 h33 hF
          clear hS
          rintro k140 a w139 ⟨m0_0, g139, hpre0, hS, h18, h33, hF⟩
          have H := hpre0
          clear hpre0
          cases k140 with
          | zero => exact absurd H (by simp [law24_DepgraphLevelsAgree.l0])
          | succ k140 =>
            rw [law24_DepgraphLevelsAgree.l0] at H
            refine wp_seq ?_
            refine c_pure [(8, .slice A16 r14.2.length cap17), (9, .slice A31 r29.1.length cap32), (17, .int .i64 m0_0), (72, .bool (decide (m0_0 < (r29.1.length : Int))))] (fun R hR => st_val hS rfl rfl rfl (r_move hS rfl rfl) fun a141 hS141 => st_val hS141 rfl rfl rfl (r_move hS141 rfl rfl) fun a142 hS142 => st_val hS142 rfl rfl rfl (r_len (e := 3) (sz := 1) (by_ := 8) hS142 rfl rfl (by kernel_rfl)) fun a143 hS143 => st_val hS143 rfl rfl rfl (r_bin hS143 rfl rfl rfl b_lss) fun a144 hS144 => wpList_nil (hR _ (hS144.re ⟨rfl, rfl, rfl, rfl, trivial⟩))) ?_
            clear hS
            clear a
            intro a hS
            refine c_cond hS rfl (fun hb145 => ?_) (fun hb145 => ?_)
            · replace H := ite_t hb145 H
              refine wp_skip ?_
              change Code.wp _ _ _ _ _
              obtain ⟨o148, H, Hl149⟩ := bind_el H
              refine c_cut (fun a w146 => ∃ (g146 : Nat → Nat), o148 = .nxt () ∧ Sl 126 a [(8, .slice A16 r14.2.length cap17), (9, .slice A31 r29.1.length cap32), (17, .int .i64 m0_0)] ∧ OwS kd_api_Link 34 w146 g146 (N + 0) A16 cap17 r14.2 ∧ OwS (kint .i64) 3 w146 g146 (N + 2) A31 cap32 r29.1 ∧ Fr (fun q => N ≤ q) w g w146 g146) ?_ ?_
              · refine wp_block ?_
                obtain ⟨x152, hx153, H⟩ := bind_el H
                refine c_pure [(8, .slice A16 r14.2.length cap17), (9, .slice A31 r29.1.length cap32), (17, .int .i64 m0_0), (18, .bool (x152 == 0))] (fun R hR => st_val hS rfl rfl rfl (r_move hS rfl rfl) fun a150 hS150 => st_val hS150 rfl rfl rfl (r_move hS150 rfl rfl) fun a151 hS151 => st_val hS151 rfl rfl rfl (r_index (e := 3) (sz := 1) (by_ := 8) hS151 rfl rfl rfl (by kernel_rfl) (RdS.some_ (OwS.rd h33) hx153) (idx_lo hx153) (idx_hi hx153)) fun a154 hS154 => st_val hS154 rfl rfl rfl (r_load1 (n := 1) hS154 rfl rfl (by kernel_rfl) (RdS.cell (i := m0_0) (sz := 1) (j := 0) (OwS.rd h33) hx153 rfl)) fun a155 hS155 => st_val hS155 rfl rfl rfl (r_bin hS155 rfl rfl rfl b_eql) fun a156 hS156 => st_val hS156 rfl rfl rfl (r_assign hS156 rfl rfl) fun a157 hS157 => wpList_nil (hR _ (hS157.re ⟨rfl, rfl, rfl, rfl, trivial⟩))) ?_
                clear hS
                clear a
                intro a hS
                obtain ⟨o160, H, Hl161⟩ := bind_el H
                refine c_cut (fun a w158 => ∃ (v159 : Bool), ∃ (g158 : Nat → Nat), o160 = .nxt v159 ∧ Sl 126 a [(8, .slice A16 r14.2.length cap17), (9, .slice A31 r29.1.length cap32), (17, .int .i64 m0_0), (18, .bool v159)] ∧ OwS kd_api_Link 34 w158 g158 (N + 0) A16 cap17 r14.2 ∧ OwS (kint .i64) 3 w158 g158 (N + 2) A31 cap32 r29.1 ∧ Fr (fun q => N ≤ q) w g w158 g158) ?_ ?_
                · refine c_pure [(8, .slice A16 r14.2.length cap17), (9, .slice A31 r29.1.length cap32), (17, .int .i64 m0_0), (18, .bool (x152 == 0)), (19, .int .i64 0)] (fun R hR => st_val hS rfl rfl rfl (r_assign hS rfl rfl) fun a162 hS162 => wpList_nil (hR _ (hS162.re ⟨rfl, rfl, rfl, rfl, rfl, trivial⟩))) ?_
                  clear hS
                  clear a
                  intro a hS
                  refine wp_block ?_
                  refine wp_loop_ghost (fun kq => fun a w163 => ∃ (m1_0 : Bool), ∃ (m1_1 : Int), ∃ (g163 : Nat → Nat), law24_DepgraphLevelsAgree.l1 r14 r29 m0_0 x152 kq m1_0 m1_1 = some o160 ∧ Sl 126 a [(8, .slice A16 r14.2.length cap17), (9, .slice A31 r29.1.length cap32), (17, .int .i64 m0_0), (18, .bool m1_0), (19, .int .i64 m1_1)] ∧ OwS kd_api_Link 34 w163 g163 (N + 0) A16 cap17 r14.2 ∧ OwS (kint .i64) 3 w163 g163 (N + 2) A31 cap32 r29.1 ∧ Fr (fun q => N ≤ q) w g w163 g163) FUEL ?_ ?_
                  · exact ⟨(x152 == 0), 0, g139, H, hS.re ⟨rfl, rfl, rfl, rfl, rfl, trivial⟩, h18, h33, hF⟩
                  · clear H
                    clear h18 h33 hF
                    clear hS
                    rintro k164 a w163 ⟨m1_0, m1_1, g163, hpre0, hS, h18, h33, hF⟩
                    have H := hpre0
                    clear hpre0
                    cases k164 with
                    | zero => exact absurd H (by simp [law24_DepgraphLevelsAgree.l1])
                    | succ k164 =>
                      rw [law24_DepgraphLevelsAgree.l1] at H
                      refine wp_seq ?_
                      refine c_pure [(8, .slice A16 r14.2.length cap17), (9, .slice A31 r29.1.length cap32), (17, .int .i64 m0_0), (18, .bool m1_0), (19, .int .i64 m1_1), (83, .bool (decide (m1_1 < (r14.2.length : Int))))] (fun R hR => st_val hS rfl rfl rfl (r_move hS rfl rfl) fun a165 hS165 => st_val hS165 rfl rfl rfl (r_move hS165 rfl rfl) fun a166 hS166 => st_val hS166 rfl rfl rfl (r_len (e := 34) (sz := 2) (by_ := 16) hS166 rfl rfl (by kernel_rfl)) fun a167 hS167 => st_val hS167 rfl rfl rfl (r_bin hS167 rfl rfl rfl b_lss) fun a168 hS168 => wpList_nil (hR _ (hS168.re ⟨rfl, rfl, rfl, rfl, rfl, rfl, trivial⟩))) ?_
                      clear hS
                      clear a
                      intro a hS
                      refine c_cond hS rfl (fun hb169 => ?_) (fun hb169 => ?_)
                      · replace H := ite_t hb169 H
                        refine wp_skip ?_
                        change Code.wp _ _ _ _ _
                        obtain ⟨o172, H, Hl173⟩ := bind_el H
                        refine c_cut (fun a w170 => ∃ (v171 : Bool), ∃ (g170 : Nat → Nat), o172 = .nxt v171 ∧ Sl 126 a [(8, .slice A16 r14.2.length cap17), (9, .slice A31 r29.1.length cap32), (17, .int .i64 m0_0), (18, .bool v171), (19, .int .i64 m1_1)] ∧ OwS kd_api_Link 34 w170 g170 (N + 0) A16 cap17 r14.2 ∧ OwS (kint .i64) 3 w170 g170 (N + 2) A31 cap32 r29.1 ∧ Fr (fun q => N ≤ q) w g w170 g170) ?_ ?_
                        · refine wp_block ?_
                          obtain ⟨x176, hx177, H⟩ := bind_el H
                          refine c_pure [(8, .slice A16 r14.2.length cap17), (9, .slice A31 r29.1.length cap32), (17, .int .i64 m0_0), (18, .bool m1_0), (19, .int .i64 m1_1), (92, .bool (x176.Consumer == m0_0))] (fun R hR => st_val hS rfl rfl rfl (r_move hS rfl rfl) fun a174 hS174 => st_val hS174 rfl rfl rfl (r_move hS174 rfl rfl) fun a175 hS175 => st_val hS175 rfl rfl rfl (r_index (e := 34) (sz := 2) (by_ := 16) hS175 rfl rfl rfl (by kernel_rfl) (RdS.some_ (OwS.rd h18) hx177) (idx_lo hx177) (idx_hi hx177)) fun a178 hS178 => st_val hS178 rfl rfl rfl (r_fieldE (off := 0) hS178 rfl rfl (by kernel_rfl)) fun a179 hS179 => st_val hS179 rfl rfl rfl (r_load1 (n := 1) hS179 rfl rfl (by kernel_rfl) (RdS.cell (i := m1_1) (sz := 2) (j := 0) (OwS.rd h18) hx177 rfl)) fun a180 hS180 => st_val hS180 rfl rfl rfl (r_move hS180 rfl rfl) fun a181 hS181 => st_val hS181 rfl rfl rfl (r_bin hS181 rfl rfl rfl b_eql) fun a182 hS182 => wpList_nil (hR _ (hS182.re ⟨rfl, rfl, rfl, rfl, rfl, rfl, trivial⟩))) ?_
                          clear hS
                          clear a
                          intro a hS
                          refine c_cond hS rfl (fun hb183 => ?_) (fun hb183 => ?_)
                          · replace H := ite_t hb183 H
                            refine wp_seq ?_
                            obtain ⟨x191, hx192, H⟩ := bind_el H
                            refine c_draw (fun K hK => d_start (fun q => False) g163 [] 13 #[false, false, false, false, false, false, false, false, false, false, false, false, false] (by kernel_rfl) rfl rfl (fun w184 hw184 => ?_))
                            have F184 : Fr (fun _ => False) w163 g163 w184 g163 := by rw [hw184]; exact Fr.drew _ _ _
                            replace h18 := OwS.fr h18 F184 (fun _ _ h => h)
                            replace h33 := OwS.fr h33 F184 (fun _ _ h => h)
                            replace hF := hF.trans F184 (fun _ h => h.elim)
                            have hC : Fr (fun q => False) w184 g163 w184 g163 := Fr.refl _ _ _
                            refine d_pure hS 0 #[true, false, false, false, false, false, false, false, false, false, false, false, false] rfl rfl rfl rfl (by kernel_rfl) (fun _ _ _ h => h) (fun _ => (r_move hS rfl rfl)) fun a185 hS185 => d_pure hS185 1 #[true, true, false, false, false, false, false, false, false, false, false, false, false] rfl rfl rfl rfl (by kernel_rfl) (fun _ _ _ h => h) (fun _ => (r_move hS185 rfl rfl)) fun a186 hS186 => d_pure hS186 2 #[true, true, true, false, false, false, false, false, false, false, false, false, false] rfl rfl rfl rfl (by kernel_rfl) (fun _ _ _ h => h) (fun _ => (r_move hS186 rfl rfl)) fun a187 hS187 => d_pure hS187 3 #[true, true, true, true, false, false, false, false, false, false, false, false, false] rfl rfl rfl rfl (by kernel_rfl) (fun _ _ _ h => h) (fun _ => (r_index (e := 34) (sz := 2) (by_ := 16) hS187 rfl rfl rfl (by kernel_rfl) (RdS.some_ (OwS.rd h18) hx177) (idx_lo hx177) (idx_hi hx177))) fun a188 hS188 => d_pure hS188 4 #[true, true, true, true, true, false, false, false, false, false, false, false, false] rfl rfl rfl rfl (by kernel_rfl) (fun _ _ _ h => h) (fun _ => (r_fieldE (off := 1) hS188 rfl rfl (by kernel_rfl))) fun a189 hS189 => d_take hS189 5 #[true, true, true, true, true, true, false, false, false, false, false, false, false] rfl rfl rfl rfl (by kernel_rfl) (fun _ _ _ h => h) ⟨_, hC⟩ (fun w' g' Fz => (r_load1 (n := 1) hS189 rfl rfl (by kernel_rfl) (RdS.cell (i := m1_1) (sz := 2) (j := 1) (OwS.rd (OwS.fr h18 Fz (fun _ _ h => h))) hx177 rfl))) fun a190 hS190 => d_pure hS190 6 #[true, true, true, true, true, true, true, false, false, false, false, false, false] rfl rfl rfl rfl (by kernel_rfl) (fun _ _ _ h => h) (fun _ => (r_index (e := 3) (sz := 1) (by_ := 8) hS190 rfl rfl rfl (by kernel_rfl) (RdS.some_ (OwS.rd h33) hx192) (idx_lo hx192) (idx_hi hx192))) fun a193 hS193 => d_take hS193 7 #[true, true, true, true, true, true, true, true, false, false, false, false, false] rfl rfl rfl rfl (by kernel_rfl) (fun _ _ _ h => h) ⟨_, hC⟩ (fun w' g' Fz => (r_load1 (n := 1) hS193 rfl rfl (by kernel_rfl) (RdS.cell (i := x176.Supplier) (sz := 1) (j := 0) (OwS.rd (OwS.fr h33 Fz (fun _ _ h => h))) hx192 rfl))) fun a194 hS194 => d_pure hS194 8 #[true, true, true, true, true, true, true, true, true, false, false, false, false] rfl rfl rfl rfl (by kernel_rfl) (fun _ _ _ h => h) (fun _ => (r_move hS194 rfl rfl)) fun a195 hS195 => d_pure hS195 9 #[true, true, true, true, true, true, true, true, true, true, false, false, false] rfl rfl rfl rfl (by kernel_rfl) (fun _ _ _ h => h) (fun _ => (r_move hS195 rfl rfl)) fun a196 hS196 => d_pure hS196 10 #[true, true, true, true, true, true, true, true, true, true, true, false, false] rfl rfl rfl rfl (by kernel_rfl) (fun _ _ _ h => h) (fun _ => (r_index (e := 3) (sz := 1) (by_ := 8) hS196 rfl rfl rfl (by kernel_rfl) (RdS.some_ (OwS.rd h33) hx153) (idx_lo hx153) (idx_hi hx153))) fun a197 hS197 => d_take hS197 11 #[true, true, true, true, true, true, true, true, true, true, true, true, false] rfl rfl rfl rfl (by kernel_rfl) (fun _ _ _ h => h) ⟨_, hC⟩ (fun w' g' Fz => (r_load1 (n := 1) hS197 rfl rfl (by kernel_rfl) (RdS.cell (i := m0_0) (sz := 1) (j := 0) (OwS.rd (OwS.fr h33 Fz (fun _ _ h => h))) hx153 rfl))) fun a198 hS198 => d_pure hS198 12 #[true, true, true, true, true, true, true, true, true, true, true, true, true] rfl rfl rfl rfl (by kernel_rfl) (fun _ _ _ h => h) (fun _ => (r_bin hS198 rfl rfl rfl b_geq)) fun a199 hS199 => d_done (by kernel_rfl) (hK _ _ ?_)
                            replace hS : Sl 126 _ [(8, .slice A16 r14.2.length cap17), (9, .slice A31 r29.1.length cap32), (17, .int .i64 m0_0), (18, .bool m1_0), (19, .int .i64 m1_1), (105, .bool (decide (x152 ≤ x191)))] := hS199.re ⟨rfl, rfl, rfl, rfl, rfl, rfl, trivial⟩
                            clear hK K hC
                            try clear hS185 hS186 hS187 hS188 hS189 hS190 hS193 hS194 hS195 hS196 hS197 hS198 hS199
                            obtain ⟨a, ha⟩ : ∃ a', a' = a199 := ⟨_, rfl⟩
                            rw [← ha] at hS ⊢; clear ha
                            refine c_cond hS rfl (fun hb200 => ?_) (fun hb200 => ?_)
                            · replace H := ite_t hb200 H
                              refine c_pure [(6, .bool false)] (fun R hR => st_val hS rfl rfl rfl (r_assign hS rfl rfl) fun a201 hS201 => wpList_nil (hR _ (hS201.re ⟨rfl, trivial⟩))) ?_
                              clear hS
                              clear a
                              intro a hS
                              refine wp_ret ?_
                              have e := Option.some.inj H
                              subst e
                              replace H := Fl.go_out Hl173
                              have e := Option.some.inj H
                              subst e
                              replace H := Fl.go_out Hl161
                              have e := Option.some.inj H
                              subst e
                              replace H := Fl.go_out Hl149
                              have e := Option.some.inj H
                              subst e
                              replace H := Fl.go_out Hl137
                              have e := Option.some.inj H
                              subst e
                              repeat (with_reducible first | refine then_ret ?_ | refine inBlock_ret ?_)
                              exact c_ret1 hS Try.results7 rfl ⟨_, rfl, g163, rfl, hF⟩
                            · replace H := ite_f hb200 H
                              refine wp_skip ?_
                              change Code.wp _ _ _ _ _
                              refine c_draw1 (fun K hK => d_start (fun q => False) g163 [] 18 #[false, false, false, false, false, false, false, false, false, false, false, false, false, false, false, false, false, false] (by kernel_rfl) rfl rfl (fun w202 hw202 => ?_))
                              have F202 : Fr (fun _ => False) w184 g163 w202 g163 := by rw [hw202]; exact Fr.drew _ _ _
                              replace h18 := OwS.fr h18 F202 (fun _ _ h => h)
                              replace h33 := OwS.fr h33 F202 (fun _ _ h => h)
                              replace hF := hF.trans F202 (fun _ h => h.elim)
                              have hC : Fr (fun q => False) w202 g163 w202 g163 := Fr.refl _ _ _
                              refine d_pure hS 0 #[true, false, false, false, false, false, false, false, false, false, false, false, false, false, false, false, false, false] rfl rfl rfl rfl (by kernel_rfl) (fun _ _ _ h => h) (fun _ => (r_move hS rfl rfl)) fun a203 hS203 => d_pure hS203 1 #[true, true, false, false, false, false, false, false, false, false, false, false, false, false, false, false, false, false] rfl rfl rfl rfl (by kernel_rfl) (fun _ _ _ h => h) (fun _ => (r_move hS203 rfl rfl)) fun a204 hS204 => ?_
                              refine d_join (N := 126) 1 #[true, true, true, true, true, true, true, true, true, true, true, true, true, true, true, true, true, false] [(8, .slice A16 r14.2.length cap17), (9, .slice A31 r29.1.length cap32), (17, .int .i64 m0_0), (18, .bool m1_0), (19, .int .i64 m1_1), (122, .bool (m1_0 || (x191 == (wi (x152 - 1)))))] ?_ (fun hk => ?_)
                              rotate_left
                              · rcases Bool.eq_false_or_eq_true (m1_0) with hb205 | hb205
                                · refine d_off hS204 2 #[true, true, true, false, false, false, false, false, false, false, false, false, false, false, false, false, false, false] rfl (want_off hS204 rfl rfl rfl hb205) rfl rfl (by kernel_rfl) (fun _ _ _ h => h) fun a220 hS220 => d_off hS220 3 #[true, true, true, true, false, false, false, false, false, false, false, false, false, false, false, false, false, false] rfl (want_off hS220 rfl rfl rfl hb205) rfl rfl (by kernel_rfl) (fun _ _ _ h => h) fun a221 hS221 => d_off hS221 4 #[true, true, true, true, true, false, false, false, false, false, false, false, false, false, false, false, false, false] rfl (want_off hS221 rfl rfl rfl hb205) rfl rfl (by kernel_rfl) (fun _ _ _ h => h) fun a222 hS222 => d_off hS222 5 #[true, true, true, true, true, true, false, false, false, false, false, false, false, false, false, false, false, false] rfl (want_off hS222 rfl rfl rfl hb205) rfl rfl (by kernel_rfl) (fun _ _ _ h => h) fun a223 hS223 => d_off hS223 6 #[true, true, true, true, true, true, true, false, false, false, false, false, false, false, false, false, false, false] rfl (want_off hS223 rfl rfl rfl hb205) rfl rfl (by kernel_rfl) (fun _ _ _ h => h) fun a224 hS224 => d_off hS224 7 #[true, true, true, true, true, true, true, true, false, false, false, false, false, false, false, false, false, false] rfl (want_off hS224 rfl rfl rfl hb205) rfl rfl (by kernel_rfl) (fun _ _ _ h => h) fun a225 hS225 => d_off hS225 8 #[true, true, true, true, true, true, true, true, true, false, false, false, false, false, false, false, false, false] rfl (want_off hS225 rfl rfl rfl hb205) rfl rfl (by kernel_rfl) (fun _ _ _ h => h) fun a226 hS226 => d_off hS226 9 #[true, true, true, true, true, true, true, true, true, true, false, false, false, false, false, false, false, false] rfl (want_off hS226 rfl rfl rfl hb205) rfl rfl (by kernel_rfl) (fun _ _ _ h => h) fun a227 hS227 => d_off hS227 10 #[true, true, true, true, true, true, true, true, true, true, true, false, false, false, false, false, false, false] rfl (want_off hS227 rfl rfl rfl hb205) rfl rfl (by kernel_rfl) (fun _ _ _ h => h) fun a228 hS228 => d_off hS228 11 #[true, true, true, true, true, true, true, true, true, true, true, true, false, false, false, false, false, false] rfl (want_off hS228 rfl rfl rfl hb205) rfl rfl (by kernel_rfl) (fun _ _ _ h => h) fun a229 hS229 => d_off hS229 12 #[true, true, true, true, true, true, true, true, true, true, true, true, true, false, false, false, false, false] rfl (want_off hS229 rfl rfl rfl hb205) rfl rfl (by kernel_rfl) (fun _ _ _ h => h) fun a230 hS230 => d_off hS230 13 #[true, true, true, true, true, true, true, true, true, true, true, true, true, true, false, false, false, false] rfl (want_off hS230 rfl rfl rfl hb205) rfl rfl (by kernel_rfl) (fun _ _ _ h => h) fun a231 hS231 => d_off hS231 14 #[true, true, true, true, true, true, true, true, true, true, true, true, true, true, true, false, false, false] rfl (want_off hS231 rfl rfl rfl hb205) rfl rfl (by kernel_rfl) (fun _ _ _ h => h) fun a232 hS232 => d_off hS232 15 #[true, true, true, true, true, true, true, true, true, true, true, true, true, true, true, true, false, false] rfl (want_off hS232 rfl rfl rfl hb205) rfl rfl (by kernel_rfl) (fun _ _ _ h => h) fun a233 hS233 => d_pure hS233 16 #[true, true, true, true, true, true, true, true, true, true, true, true, true, true, true, true, true, false] rfl rfl rfl rfl (by kernel_rfl) (fun _ _ _ h => h) (fun _ => (r_pickT hS233 rfl rfl rfl hb205)) fun a234 hS234 => hk _ (hS234.re ⟨rfl, rfl, rfl, rfl, rfl, (by rw [hb205]; rfl), trivial⟩)
                                · refine d_pureW hS204 2 #[true, true, true, false, false, false, false, false, false, false, false, false, false, false, false, false, false, false] rfl (want_on hS204 rfl rfl rfl hb205) rfl rfl (by kernel_rfl) (fun _ _ _ h => h) (fun _ => (r_move hS204 rfl rfl)) fun a235 hS235 => d_pureW hS235 3 #[true, true, true, true, false, false, false, false, false, false, false, false, false, false, false, false, false, false] rfl (want_on hS235 rfl rfl rfl hb205) rfl rfl (by kernel_rfl) (fun _ _ _ h => h) (fun _ => (r_move hS235 rfl rfl)) fun a236 hS236 => d_pureW hS236 4 #[true, true, true, true, true, false, false, false, false, false, false, false, false, false, false, false, false, false] rfl (want_on hS236 rfl rfl rfl hb205) rfl rfl (by kernel_rfl) (fun _ _ _ h => h) (fun _ => (r_move hS236 rfl rfl)) fun a237 hS237 => d_pureW hS237 5 #[true, true, true, true, true, true, false, false, false, false, false, false, false, false, false, false, false, false] rfl (want_on hS237 rfl rfl rfl hb205) rfl rfl (by kernel_rfl) (fun _ _ _ h => h) (fun _ => (r_index (e := 34) (sz := 2) (by_ := 16) hS237 rfl rfl rfl (by kernel_rfl) (RdS.some_ (OwS.rd h18) hx177) (idx_lo hx177) (idx_hi hx177))) fun a238 hS238 => d_pureW hS238 6 #[true, true, true, true, true, true, true, false, false, false, false, false, false, false, false, false, false, false] rfl (want_on hS238 rfl rfl rfl hb205) rfl rfl (by kernel_rfl) (fun _ _ _ h => h) (fun _ => (r_fieldE (off := 1) hS238 rfl rfl (by kernel_rfl))) fun a239 hS239 => d_takeW hS239 7 #[true, true, true, true, true, true, true, true, false, false, false, false, false, false, false, false, false, false] rfl (want_on hS239 rfl rfl rfl hb205) rfl rfl (by kernel_rfl) (fun _ _ _ h => h) ⟨_, hC⟩ (fun w' g' Fz => (r_load1 (n := 1) hS239 rfl rfl (by kernel_rfl) (RdS.cell (i := m1_1) (sz := 2) (j := 1) (OwS.rd (OwS.fr h18 Fz (fun _ _ h => h))) hx177 rfl))) fun a240 hS240 => d_pureW hS240 8 #[true, true, true, true, true, true, true, true, true, false, false, false, false, false, false, false, false, false] rfl (want_on hS240 rfl rfl rfl hb205) rfl rfl (by kernel_rfl) (fun _ _ _ h => h) (fun _ => (r_index (e := 3) (sz := 1) (by_ := 8) hS240 rfl rfl rfl (by kernel_rfl) (RdS.some_ (OwS.rd h33) hx192) (idx_lo hx192) (idx_hi hx192))) fun a241 hS241 => d_takeW hS241 9 #[true, true, true, true, true, true, true, true, true, true, false, false, false, false, false, false, false, false] rfl (want_on hS241 rfl rfl rfl hb205) rfl rfl (by kernel_rfl) (fun _ _ _ h => h) ⟨_, hC⟩ (fun w' g' Fz => (r_load1 (n := 1) hS241 rfl rfl (by kernel_rfl) (RdS.cell (i := x176.Supplier) (sz := 1) (j := 0) (OwS.rd (OwS.fr h33 Fz (fun _ _ h => h))) hx192 rfl))) fun a242 hS242 => d_pureW hS242 10 #[true, true, true, true, true, true, true, true, true, true, true, false, false, false, false, false, false, false] rfl (want_on hS242 rfl rfl rfl hb205) rfl rfl (by kernel_rfl) (fun _ _ _ h => h) (fun _ => (r_move hS242 rfl rfl)) fun a243 hS243 => d_pureW hS243 11 #[true, true, true, true, true, true, true, true, true, true, true, true, false, false, false, false, false, false] rfl (want_on hS243 rfl rfl rfl hb205) rfl rfl (by kernel_rfl) (fun _ _ _ h => h) (fun _ => (r_move hS243 rfl rfl)) fun a244 hS244 => d_pureW hS244 12 #[true, true, true, true, true, true, true, true, true, true, true, true, true, false, false, false, false, false] rfl (want_on hS244 rfl rfl rfl hb205) rfl rfl (by kernel_rfl) (fun _ _ _ h => h) (fun _ => (r_index (e := 3) (sz := 1) (by_ := 8) hS244 rfl rfl rfl (by kernel_rfl) (RdS.some_ (OwS.rd h33) hx153) (idx_lo hx153) (idx_hi hx153))) fun a245 hS245 => d_takeW hS245 13 #[true, true, true, true, true, true, true, true, true, true, true, true, true, true, false, false, false, false] rfl (want_on hS245 rfl rfl rfl hb205) rfl rfl (by kernel_rfl) (fun _ _ _ h => h) ⟨_, hC⟩ (fun w' g' Fz => (r_load1 (n := 1) hS245 rfl rfl (by kernel_rfl) (RdS.cell (i := m0_0) (sz := 1) (j := 0) (OwS.rd (OwS.fr h33 Fz (fun _ _ h => h))) hx153 rfl))) fun a246 hS246 => d_pureW hS246 14 #[true, true, true, true, true, true, true, true, true, true, true, true, true, true, true, false, false, false] rfl (want_on hS246 rfl rfl rfl hb205) rfl rfl (by kernel_rfl) (fun _ _ _ h => h) (fun _ => (r_bin hS246 rfl rfl rfl b_sub)) fun a247 hS247 => d_pureW hS247 15 #[true, true, true, true, true, true, true, true, true, true, true, true, true, true, true, true, false, false] rfl (want_on hS247 rfl rfl rfl hb205) rfl rfl (by kernel_rfl) (fun _ _ _ h => h) (fun _ => (r_bin hS247 rfl rfl rfl b_eql)) fun a248 hS248 => d_pure hS248 16 #[true, true, true, true, true, true, true, true, true, true, true, true, true, true, true, true, true, false] rfl rfl rfl rfl (by kernel_rfl) (fun _ _ _ h => h) (fun _ => (r_pickF hS248 rfl rfl rfl hb205)) fun a249 hS249 => hk _ (hS249.re ⟨rfl, rfl, rfl, rfl, rfl, (by rw [hb205]; rfl), trivial⟩)
                              intro a250 hS250
                              refine d_pure hS250 17 #[true, true, true, true, true, true, true, true, true, true, true, true, true, true, true, true, true, true] rfl rfl rfl rfl (by kernel_rfl) (fun _ _ _ h => h) (fun _ => (r_assign hS250 rfl rfl)) fun a251 hS251 => d_done (by kernel_rfl) (hK _ _ ?_)
                              replace hS : Sl 126 _ [(8, .slice A16 r14.2.length cap17), (9, .slice A31 r29.1.length cap32), (17, .int .i64 m0_0), (18, .bool (m1_0 || (x191 == (wi (x152 - 1))))), (19, .int .i64 m1_1)] := hS251.re ⟨rfl, rfl, rfl, rfl, rfl, trivial⟩
                              clear hK K hC
                              try clear hS203 hS204 hS250 hS251
                              obtain ⟨a, ha⟩ : ∃ a', a' = a251 := ⟨_, rfl⟩
                              rw [← ha] at hS ⊢; clear ha
                              have e := Option.some.inj H
                              exact ⟨(m1_0 || (x191 == (wi (x152 - 1)))), g163, e.symm, hS.re ⟨rfl, rfl, rfl, rfl, rfl, trivial⟩, h18, h33, hF⟩
                          · replace H := ite_f hb183 H
                            refine wp_skip ?_
                            have e := Option.some.inj H
                            exact ⟨m1_0, g163, e.symm, hS.re ⟨rfl, rfl, rfl, rfl, rfl, trivial⟩, h18, h33, hF⟩
                        · clear H
                          clear h18 h33 hF
                          clear hS
                          rintro a w170 ⟨v171, g170, hpre0, hS, h18, h33, hF⟩
                          subst hpre0
                          have H := Fl.go_nxt Hl173
                          clear Hl173
                          refine c_pure1 [(8, .slice A16 r14.2.length cap17), (9, .slice A31 r29.1.length cap32), (17, .int .i64 m0_0), (18, .bool v171), (19, .int .i64 (wi (m1_1 + 1)))] (fun R hR => st_val hS rfl rfl rfl (r_move hS rfl rfl) fun a252 hS252 => st_val hS252 rfl rfl rfl (r_bin hS252 rfl rfl rfl b_add) fun a253 hS253 => st_val hS253 rfl rfl rfl (r_assign hS253 rfl rfl) fun a254 hS254 => wpList_nil (hR _ (hS254.re ⟨rfl, rfl, rfl, rfl, rfl, trivial⟩))) ?_
                          clear hS
                          clear a
                          intro a hS
                          refine ⟨k164, Nat.lt_succ_self _, ?_⟩
                          exact ⟨v171, wi (m1_1 + 1), g170, H, hS.re ⟨rfl, rfl, rfl, rfl, rfl, trivial⟩, h18, h33, hF⟩
                      · replace H := ite_f hb169 H
                        refine wp_exit ?_
                        have e := Option.some.inj H
                        exact ⟨m1_0, g163, e.symm, hS.re ⟨rfl, rfl, rfl, rfl, trivial⟩, h18, h33, hF⟩
                · clear H
                  clear h18 h33 hF
                  clear hS
                  rintro a w158 ⟨v159, g158, hpre0, hS, h18, h33, hF⟩
                  subst hpre0
                  have H := Fl.go_nxt Hl161
                  clear Hl161
                  refine c_pure [(8, .slice A16 r14.2.length cap17), (9, .slice A31 r29.1.length cap32), (17, .int .i64 m0_0), (124, .bool (!v159))] (fun R hR => st_val hS rfl rfl rfl (r_move hS rfl rfl) fun a255 hS255 => st_val hS255 rfl rfl rfl (r_not hS255 rfl rfl) fun a256 hS256 => wpList_nil (hR _ (hS256.re ⟨rfl, rfl, rfl, rfl, trivial⟩))) ?_
                  clear hS
                  clear a
                  intro a hS
                  refine c_cond hS rfl (fun hb257 => ?_) (fun hb257 => ?_)
                  · replace H := ite_t hb257 H
                    refine c_pure [(6, .bool false)] (fun R hR => st_val hS rfl rfl rfl (r_assign hS rfl rfl) fun a258 hS258 => wpList_nil (hR _ (hS258.re ⟨rfl, trivial⟩))) ?_
                    clear hS
                    clear a
                    intro a hS
                    refine wp_ret ?_
                    have e := Option.some.inj H
                    subst e
                    replace H := Fl.go_out Hl149
                    have e := Option.some.inj H
                    subst e
                    replace H := Fl.go_out Hl137
                    have e := Option.some.inj H
                    subst e
                    repeat (with_reducible first | refine then_ret ?_ | refine inBlock_ret ?_)
                    exact c_ret1 hS Try.results7 rfl ⟨_, rfl, g158, rfl, hF⟩
                  · replace H := ite_f hb257 H
                    refine wp_skip ?_
                    have e := Option.some.inj H
                    exact ⟨g158, e.symm, hS.re ⟨rfl, rfl, rfl, trivial⟩, h18, h33, hF⟩
              · clear H
                clear h18 h33 hF
                clear hS
                rintro a w146 ⟨g146, hpre0, hS, h18, h33, hF⟩
                subst hpre0
                have H := Fl.go_nxt Hl149
                clear Hl149
                refine c_pure1 [(8, .slice A16 r14.2.length cap17), (9, .slice A31 r29.1.length cap32), (17, .int .i64 (wi (m0_0 + 1)))] (fun R hR => st_val hS rfl rfl rfl (r_move hS rfl rfl) fun a259 hS259 => st_val hS259 rfl rfl rfl (r_bin hS259 rfl rfl rfl b_add) fun a260 hS260 => st_val hS260 rfl rfl rfl (r_assign hS260 rfl rfl) fun a261 hS261 => wpList_nil (hR _ (hS261.re ⟨rfl, rfl, rfl, trivial⟩))) ?_
                clear hS
                clear a
                intro a hS
                refine ⟨k140, Nat.lt_succ_self _, ?_⟩
                exact ⟨wi (m0_0 + 1), g146, H, hS.re ⟨rfl, rfl, rfl, trivial⟩, h18, h33, hF⟩
            · replace H := ite_f hb145 H
              refine wp_exit ?_
              have e := Option.some.inj H
              exact ⟨g139, e.symm, hS.re trivial, hF⟩
      · clear H
        clear h18 h33 hF
        clear hS
        rintro a w134 ⟨g134, hpre0, hS, hF⟩
        subst hpre0
        have H := Fl.go_nxt Hl137
        clear Hl137
        obtain ⟨r262, hr263, H⟩ := bind_el H
        refine c_region (fun K hK => ?_)
        refine st_enter hS rfl rfl rfl (r_call hS rfl rfl (by kernel_rfl)) (law24_awake.calls (g := g134) (N + 10)   hr263) ?_
        rintro _ a264 w265 ⟨g265, rfl, F265⟩ hS264
        replace hF := hF.trans F265 (fun c' (hm : N + 10 ≤ c') => by show N ≤ c'; omega)
        refine st_val hS264 rfl rfl rfl (r_assign hS264 rfl rfl) fun a266 hS266 => wpList_nil (hK _ _ ?_)
        replace hS : Sl 126 _ [(6, .bool r262)] := hS266.re ⟨rfl, trivial⟩
        clear hK K
        try clear hS264 hS266
        obtain ⟨a, ha⟩ : ∃ a', a' = a266 := ⟨_, rfl⟩
        rw [← ha] at hS ⊢; clear ha
        refine wp_ret ?_
        have e := Option.some.inj H
        subst e
        repeat (with_reducible first | refine then_ret ?_ | refine inBlock_ret ?_)
        exact c_ret1 hS Try.results7 rfl ⟨_, rfl, g265, rfl, hF⟩

/-- What is left of law24_DepgraphLevelsAgree: about plain values alone. -/
def law24_DepgraphLevelsAgree.Pure : Prop := ∀ (p0 : Int) (p1 : List api_Link) (p2 : Bool), (Lit.int .i64 p0).wf = true → (p1.length ≤ maxLen ∧ ∀ p1' ∈ p1, Wf_api_Link p1') → law24_DepgraphLevelsAgree.f p0 p1 p2 = some true

end Go.Proofs.Ytphgandhncmaoaa.Sim
