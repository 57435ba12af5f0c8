/-
  Printed by a program of this session (wip/tools): plain functions with the same answers as the Go functions, and the proofs of it.
-/
import Derived.Test.YtfiodhdldleocaaFn
import Derived.Test.YtfiodhdldleocaaOp
namespace Go.Proofs.Ytfiodhdldleocaa.Sim
open Go
set_option linter.unusedVariables false
set_option linter.unusedSimpArgs false

/-! ### law25_RailsCopiesAreIndependent: function 10 -/
def law25_RailsCopiesAreIndependent.l0 (p1 : List law25_Call) (r26 : (List api_Rail)) : Nat → rails_Rails → ref25_Rails → Int → Option ((List rails_rail) × Int × (List api_Rail) × (List Int) × (List Int) × Int)
  | 0, _, _, _ => none
  | k126 + 1, m0_0, m0_1, m0_2 => if decide (m0_2 < (p1.length : Int)) = true then ((idx p1 m0_2).bind fun x140 => (law25_do.f m0_0 x140 (r26.length : Int) m0_1.Clock).bind fun r147 => (law25_want.f m0_1 x140 (r26.length : Int) m0_1.Clock).bind fun r163 => law25_RailsCopiesAreIndependent.l0 p1 r26 k126 r147.1 r163.1 (wi (m0_2 + 1))) else (some (m0_0.list, m0_0.now, m0_1.R, m0_1.N, m0_1.Done, m0_1.Clock))
def law25_RailsCopiesAreIndependent.l1 (p2 : List law25_Call) (r26 : (List api_Rail)) : Nat → rails_Rails → ref25_Rails → Int → Option (Fl (Bool) ((List rails_rail) × Int × (List api_Rail) × (List Int) × (List Int) × Int))
  | 0, _, _, _ => none
  | k246 + 1, m1_0, m1_1, m1_2 => if decide (m1_2 < (p2.length : Int)) = true then ((idx p2 m1_2).bind fun x260 => (law25_do.f m1_0 x260 (r26.length : Int) m1_1.Clock).bind fun r267 => (law25_want.f m1_1 x260 (r26.length : Int) m1_1.Clock).bind fun r288 => (if (r267.2.2 != r288.2.2) = true then some true else (help_Equal_api_RailOp.f r267.2.1 r288.2.1).bind fun r308 => some (!r308)).bind fun t313 => if t313 = true then (some (.out false)) else (law25_RailsCopiesAreIndependent.l1 p2 r26 k246 r267.1 r288.1 (wi (m1_2 + 1)))) else (some (.nxt (m1_0.list, m1_0.now, m1_1.R, m1_1.N, m1_1.Done, m1_1.Clock)))
def law25_RailsCopiesAreIndependent.l2 (r26 : (List api_Rail)) (v93 : (List rails_rail) × Int × (List api_Rail) × (List Int) × (List Int) × Int) (v213 : (List rails_rail) × Int × (List api_Rail) × (List Int) × (List Int) × Int) : Nat → Int → Option (Fl (Bool) (Unit))
  | 0, _ => none
  | k343 + 1, m2_0 => if decide (m2_0 < (r26.length : Int)) = true then ((rails_Rails_ReadyAt.f (rails_Rails.mk v93.1 v93.2.1) m2_0).bind fun r351 => (ref25_Rails_ReadyAt.f (ref25_Rails.mk v93.2.2.1 v93.2.2.2.1 v93.2.2.2.2.1 v93.2.2.2.2.2) m2_0).bind fun r362 => (if ((r351.1 != r362.1) || (!(r351.2 == r362.2))) = true then some true else (rails_Rails_Count.f (rails_Rails.mk v93.1 v93.2.1) m2_0).bind fun r392 => (ref25_Rails_Count.f (ref25_Rails.mk v93.2.2.1 v93.2.2.2.1 v93.2.2.2.2.1 v93.2.2.2.2.2) m2_0).bind fun r398 => some (r392 != r398)).bind fun t403 => (if t403 = true then some true else (rails_Rails_Count.f (rails_Rails.mk v213.1 v213.2.1) m2_0).bind fun r435 => (ref25_Rails_Count.f (ref25_Rails.mk v213.2.2.1 v213.2.2.2.1 v213.2.2.2.2.1 v213.2.2.2.2.2) m2_0).bind fun r441 => some (r435 != r441)).bind fun t446 => if t446 = true then (some (.out false)) else (law25_RailsCopiesAreIndependent.l2 r26 v93 v213 k343 (wi (m2_0 + 1)))) else (some (.nxt ()))
def law25_RailsCopiesAreIndependent.f (p0 : List api_Rail) (p1 : List law25_Call) (p2 : List law25_Call) : Option (Bool) := if ((decide (20 < (p1.length : Int))) || (decide (20 < (p2.length : Int)))) = true then ((law25_awake.f ).bind fun r20 => some r20) else ((law25_Some.f p0).bind fun r26 => (rails_New.f r26).bind fun r36 => if ((r36.2 != 0) || r36.1.isNone) = true then (some false) else ((ref25_New.f r26).bind fun r64 => ((r36.1).bind fun st97 => (r64.1).bind fun st107 => law25_RailsCopiesAreIndependent.l0 p1 r26 FUEL st97 st107 0 : Option ((List rails_rail) × Int × (List api_Rail) × (List Int) × (List Int) × Int)).bind fun v93 => (rails_Rails_Copy.f (rails_Rails.mk v93.1 v93.2.1)).bind fun r175 => (ref25_Rails_Copy.f (ref25_Rails.mk v93.2.2.1 v93.2.2.2.1 v93.2.2.2.2.1 v93.2.2.2.2.2)).bind fun r183 => if r175.isNone = true then (some false) else (((r175).bind fun st217 => (r183).bind fun st227 => law25_RailsCopiesAreIndependent.l1 p2 r26 FUEL st217 st227 0 : Option (Fl (Bool) ((List rails_rail) × Int × (List api_Rail) × (List Int) × (List Int) × Int))).bind fun o214 => o214.go fun v213 => (law25_RailsCopiesAreIndependent.l2 r26 v93 v213 FUEL 0 : Option (Fl (Bool) (Unit))).bind fun o339 => o339.go fun _ => (law25_awake.f ).bind fun r479 => some r479)))
set_option maxRecDepth 100000 in
set_option maxHeartbeats 4000000 in
theorem law25_RailsCopiesAreIndependent.calls {p0 : List api_Rail} {A0 : Option Addr} {cap0 : Nat} {C0 : Nat → Prop} {p1 : List law25_Call} {A1 : Option Addr} {cap1 : Nat} {C1 : Nat → Prop} {p2 : List law25_Call} {A2 : Option Addr} {cap2 : Nat} {C2 : Nat → Prop} {w : World} {g : Nat → Nat} {out : Bool} (N : Nat) (hp0 : RdS kd_api_Rail w g C0 A0 cap0 p0) (hC0 : ∀ c, C0 c → c < N) (hp1 : RdS kd_law25_Call w g C1 A1 cap1 p1) (hC1 : ∀ c, C1 c → c < N) (hp2 : RdS kd_law25_Call w g C2 A2 cap2 p2) (hC2 : ∀ c, C2 c → c < N) (H : law25_RailsCopiesAreIndependent.f p0 p1 p2 = some out) :
    Calls Try.prog 10 #[.slice A0 p0.length cap0, .slice A1 p1.length cap1, .slice A2 p2.length cap2] w (fun e w' => ∃ v, e = .returned v ∧ ∃ (g' : Nat → Nat), v = .bool out ∧ Fr (fun q => N ≤ q) w g w' g') := by
  unfold law25_RailsCopiesAreIndependent.f at H
  refine calls_enter Try.func10 rfl Try.ntmps10 rfl (fun a hS => ?_)
  replace hS : Sl 176 a [(0, .slice A0 p0.length cap0), (1, .slice A1 p1.length cap1), (2, .slice A2 p2.length cap2)] := hS
  have hF : Fr (fun q => N ≤ q) w g w g := Fr.refl _ _ _
  refine c_pure [(0, .slice A0 p0.length cap0), (1, .slice A1 p1.length cap1), (2, .slice A2 p2.length cap2)] (fun R hR => st_val hS rfl rfl rfl (r_assign hS rfl rfl) fun a1 hS1 => wpList_nil (hR _ (hS1.re ⟨rfl, rfl, rfl, trivial⟩))) ?_
  clear hS
  clear a
  intro a hS
  refine wp_seq ?_
  refine c_region (fun K hK => ?_)
  refine st_val hS rfl rfl rfl (r_move hS rfl rfl) fun a2 hS2 => st_val hS2 rfl rfl rfl (r_len (e := 46) (sz := 4) (by_ := 32) hS2 rfl rfl (by kernel_rfl)) fun a3 hS3 => st_val hS3 rfl rfl rfl (r_bin hS3 rfl rfl rfl b_gtr) fun a4 hS4 => st_val hS4 rfl rfl rfl (r_move hS4 rfl rfl) fun a5 hS5 => ?_
  refine g_join (N := 176) 4 [(0, .slice A0 p0.length cap0), (1, .slice A1 p1.length cap1), (2, .slice A2 p2.length cap2), (34, .bool ((decide (20 < (p1.length : Int))) || (decide (20 < (p2.length : Int)))))] ?_ (fun hk => ?_)
  rotate_left
  · rcases Bool.eq_false_or_eq_true (decide (20 < (p1.length : Int))) with hb6 | hb6
    · refine st_off hS5 (want_off hS5 rfl rfl rfl hb6) rfl rfl fun a10 hS10 => st_off hS10 (want_off hS10 rfl rfl rfl hb6) rfl rfl fun a11 hS11 => st_off hS11 (want_off hS11 rfl rfl rfl hb6) rfl rfl fun a12 hS12 => st_val hS12 rfl rfl rfl (r_pickT hS12 rfl rfl rfl hb6) fun a13 hS13 => hk _ (hS13.re ⟨rfl, rfl, rfl, (by rw [hb6]; rfl), trivial⟩)
    · refine st_valW hS5 (want_on hS5 rfl rfl rfl hb6) rfl rfl (r_move hS5 rfl rfl) fun a14 hS14 => st_valW hS14 (want_on hS14 rfl rfl rfl hb6) rfl rfl (r_len (e := 46) (sz := 4) (by_ := 32) hS14 rfl rfl (by kernel_rfl)) fun a15 hS15 => st_valW hS15 (want_on hS15 rfl rfl rfl hb6) rfl rfl (r_bin hS15 rfl rfl rfl b_gtr) fun a16 hS16 => st_val hS16 rfl rfl rfl (r_pickF hS16 rfl rfl rfl hb6) fun a17 hS17 => hk _ (hS17.re ⟨rfl, rfl, rfl, (by rw [hb6]; rfl), trivial⟩)
  intro a18 hS18
  refine wpList_nil (hK _ _ ?_)
  replace hS : Sl 176 _ [(0, .slice A0 p0.length cap0), (1, .slice A1 p1.length cap1), (2, .slice A2 p2.length cap2), (34, .bool ((decide (20 < (p1.length : Int))) || (decide (20 < (p2.length : Int)))))] := hS18.re ⟨rfl, rfl, rfl, rfl, trivial⟩
  clear hK K
  try clear hS2 hS3 hS4 hS5 hS18
  obtain ⟨a, ha⟩ : ∃ a', a' = a18 := ⟨_, rfl⟩
  rw [← ha] at hS ⊢; clear ha
  refine c_cond hS rfl (fun hb19 => ?_) (fun hb19 => ?_)
  · replace H := ite_t hb19 H
    obtain ⟨r20, hr21, H⟩ := bind_el H
    refine c_region (fun K hK => ?_)
    refine st_enter hS rfl rfl rfl (r_call hS rfl rfl (by kernel_rfl)) (law25_awake.calls (g := g) (N + 30)   hr21) ?_
    rintro _ a22 w23 ⟨g23, rfl, F23⟩ hS22
    replace hp0 := RdS.fr hp0 F23 (by decide) (fun q (hq : C0 q) (hm : N + 30 ≤ q) => by have := hC0 q hq; omega)
    replace hp1 := RdS.fr hp1 F23 (by decide) (fun q (hq : C1 q) (hm : N + 30 ≤ q) => by have := hC1 q hq; omega)
    replace hp2 := RdS.fr hp2 F23 (by decide) (fun q (hq : C2 q) (hm : N + 30 ≤ q) => by have := hC2 q hq; omega)
    replace hF := hF.trans F23 (fun c' (hm : N + 30 ≤ c') => by show N ≤ c'; omega)
    refine st_val hS22 rfl rfl rfl (r_assign hS22 rfl rfl) fun a24 hS24 => wpList_nil (hK _ _ ?_)
    replace hS : Sl 176 _ [(6, .bool r20)] := hS24.re ⟨rfl, trivial⟩
    clear hK K
    try clear hS22 hS24
    obtain ⟨a, ha⟩ : ∃ a', a' = a24 := ⟨_, rfl⟩
    rw [← ha] at hS ⊢; clear ha
    refine wp_ret ?_
    have e := Option.some.inj H
    subst e
    repeat (with_reducible first | refine then_ret ?_ | refine inBlock_ret ?_)
    exact c_ret1 hS Try.results10 rfl ⟨_, rfl, g23, rfl, hF⟩
  · replace H := ite_f hb19 H
    refine wp_skip ?_
    change Code.wp _ _ _ _ _
    obtain ⟨r26, hr27, H⟩ := bind_el H
    refine c_region (fun K hK => ?_)
    refine st_val hS rfl rfl rfl (r_move hS rfl rfl) fun a25 hS25 => ?_
    refine st_enter hS25 rfl rfl rfl (r_call hS25 rfl rfl (by kernel_rfl)) (law25_Some.calls (C0 := C0) (p0 := p0) (g := g) (N + 30) (N + 0) hp0 (fun q (hq : C0 q) => by have := hC0 q hq; omega) (by omega) hr27) ?_
    rintro _ a32 w33 ⟨g33, A28, cap29, rfl, h30, F33⟩ hS32
    replace hp0 := RdS.fr hp0 F33 (by decide) (fun q (hq : C0 q) (hm : (N + 0 ≤ q ∧ q < N + 0 + 2) ∨ N + 30 ≤ q) => by have := hC0 q hq; omega)
    replace hp1 := RdS.fr hp1 F33 (by decide) (fun q (hq : C1 q) (hm : (N + 0 ≤ q ∧ q < N + 0 + 2) ∨ N + 30 ≤ q) => by have := hC1 q hq; omega)
    replace hp2 := RdS.fr hp2 F33 (by decide) (fun q (hq : C2 q) (hm : (N + 0 ≤ q ∧ q < N + 0 + 2) ∨ N + 30 ≤ q) => by have := hC2 q hq; omega)
    replace hF := hF.trans F33 (fun c' (hm : (N + 0 ≤ c' ∧ c' < N + 0 + 2) ∨ N + 30 ≤ c') => by show N ≤ c'; omega)
    refine st_val hS32 rfl rfl rfl (r_assign hS32 rfl rfl) fun a34 hS34 => wpList_nil (hK _ _ ?_)
    replace hS : Sl 176 _ [(1, .slice A1 p1.length cap1), (2, .slice A2 p2.length cap2), (7, .slice A28 r26.length cap29)] := hS34.re ⟨rfl, rfl, rfl, trivial⟩
    clear hK K
    try clear hS25 hS32 hS34
    obtain ⟨a, ha⟩ : ∃ a', a' = a34 := ⟨_, rfl⟩
    rw [← ha] at hS ⊢; clear ha
    obtain ⟨r36, hr37, H⟩ := bind_el H
    refine c_region (fun K hK => ?_)
    refine st_val hS rfl rfl rfl (r_move hS rfl rfl) fun a35 hS35 => ?_
    refine st_enter hS35 rfl rfl rfl (r_call hS35 rfl rfl (by kernel_rfl)) (rails_New.calls (C0 := (fun q => q = N + 0)) (p0 := r26) (g := g33) (N + 30) (N + 2) (OwD.rdf (fun _ _ _ _ _ _ h => h) h30) (fun q (hq : q = N + 0) => by omega) (by omega) hr37) ?_
    rintro _ a41 w42 ⟨g42, p38, rfl, h39, F42⟩ hS41
    replace h30 := OwS.fr h30 F42 (fun c' hc (hm : (N + 2 ≤ c' ∧ c' < N + 2 + 3) ∨ N + 30 ≤ c') => by omega)
    replace hp1 := RdS.fr hp1 F42 (by decide) (fun q (hq : C1 q) (hm : (N + 2 ≤ q ∧ q < N + 2 + 3) ∨ N + 30 ≤ q) => by have := hC1 q hq; omega)
    replace hp2 := RdS.fr hp2 F42 (by decide) (fun q (hq : C2 q) (hm : (N + 2 ≤ q ∧ q < N + 2 + 3) ∨ N + 30 ≤ q) => by have := hC2 q hq; omega)
    replace hF := hF.trans F42 (fun c' (hm : (N + 2 ≤ c' ∧ c' < N + 2 + 3) ∨ N + 30 ≤ c') => by show N ≤ c'; omega)
    refine st_val hS41 rfl rfl rfl (r_move hS41 rfl rfl) fun a43 hS43 => st_val hS43 rfl rfl rfl (r_extract hS43 rfl rfl rfl) fun a44 hS44 => st_val hS44 rfl rfl rfl (r_extract hS44 rfl rfl rfl) fun a45 hS45 => st_val hS45 rfl rfl rfl (r_assign hS45 rfl rfl) fun a46 hS46 => st_val hS46 rfl rfl rfl (r_assign hS46 rfl rfl) fun a47 hS47 => wpList_nil (hK _ _ ?_)
    replace hS : Sl 176 _ [(1, .slice A1 p1.length cap1), (2, .slice A2 p2.length cap2), (7, .slice A28 r26.length cap29), (8, .pointer p38), (9, .int .i64 r36.2)] := hS47.re ⟨rfl, rfl, rfl, rfl, rfl, trivial⟩
    clear hK K
    try clear hS35 hS41 hS43 hS44 hS45 hS46 hS47
    obtain ⟨a, ha⟩ : ∃ a', a' = a47 := ⟨_, rfl⟩
    rw [← ha] at hS ⊢; clear ha
    refine wp_seq ?_
    refine c_region (fun K hK => ?_)
    refine st_val hS rfl rfl rfl (r_move hS rfl rfl) fun a48 hS48 => st_val hS48 rfl rfl rfl (r_bin hS48 rfl rfl rfl b_neq) fun a49 hS49 => st_val hS49 rfl rfl rfl (r_move hS49 rfl rfl) fun a50 hS50 => ?_
    refine g_join (N := 176) 3 [(1, .slice A1 p1.length cap1), (2, .slice A2 p2.length cap2), (7, .slice A28 r26.length cap29), (8, .pointer p38), (48, .bool ((r36.2 != 0) || r36.1.isNone))] ?_ (fun hk => ?_)
    rotate_left
    · rcases Bool.eq_false_or_eq_true ((r36.2 != 0)) with hb51 | hb51
      · refine st_off hS50 (want_off hS50 rfl rfl rfl hb51) rfl rfl fun a54 hS54 => st_off hS54 (want_off hS54 rfl rfl rfl hb51) rfl rfl fun a55 hS55 => st_val hS55 rfl rfl rfl (r_pickT hS55 rfl rfl rfl hb51) fun a56 hS56 => hk _ (hS56.re ⟨rfl, rfl, rfl, rfl, (by rw [hb51]; rfl), trivial⟩)
      · refine st_valW hS50 (want_on hS50 rfl rfl rfl hb51) rfl rfl (r_move hS50 rfl rfl) fun a57 hS57 => st_valW hS57 (want_on hS57 rfl rfl rfl hb51) rfl rfl (r_optEq hS57 rfl rfl (by kernel_rfl) (rails_Rails_Opt.isNone h39)) fun a58 hS58 => st_val hS58 rfl rfl rfl (r_pickF hS58 rfl rfl rfl hb51) fun a59 hS59 => hk _ (hS59.re ⟨rfl, rfl, rfl, rfl, (by rw [hb51]; rfl), trivial⟩)
    intro a60 hS60
    refine wpList_nil (hK _ _ ?_)
    replace hS : Sl 176 _ [(1, .slice A1 p1.length cap1), (2, .slice A2 p2.length cap2), (7, .slice A28 r26.length cap29), (8, .pointer p38), (48, .bool ((r36.2 != 0) || r36.1.isNone))] := hS60.re ⟨rfl, rfl, rfl, rfl, rfl, trivial⟩
    clear hK K
    try clear hS48 hS49 hS50 hS60
    obtain ⟨a, ha⟩ : ∃ a', a' = a60 := ⟨_, rfl⟩
    rw [← ha] at hS ⊢; clear ha
    refine c_cond hS rfl (fun hb61 => ?_) (fun hb61 => ?_)
    · replace H := ite_t hb61 H
      refine c_pure [(6, .bool false)] (fun R hR => st_val hS rfl rfl rfl (r_assign hS rfl rfl) fun a62 hS62 => wpList_nil (hR _ (hS62.re ⟨rfl, trivial⟩))) ?_
      clear hS
      clear a
      intro a hS
      refine wp_ret ?_
      have e := Option.some.inj H
      subst e
      repeat (with_reducible first | refine then_ret ?_ | refine inBlock_ret ?_)
      exact c_ret1 hS Try.results10 rfl ⟨_, rfl, g42, rfl, hF⟩
    · replace H := ite_f hb61 H
      refine wp_skip ?_
      change Code.wp _ _ _ _ _
      obtain ⟨r64, hr65, H⟩ := bind_el H
      refine c_region (fun K hK => ?_)
      refine st_val hS rfl rfl rfl (r_move hS rfl rfl) fun a63 hS63 => ?_
      refine st_enter hS63 rfl rfl rfl (r_call hS63 rfl rfl (by kernel_rfl)) (ref25_New.calls (C0 := (fun q => q = N + 0)) (p0 := r26) (g := g42) (N + 30) (N + 5) (OwD.rdf (fun _ _ _ _ _ _ h => h) h30) (fun q (hq : q = N + 0) => by omega) (by omega) hr65) ?_
      rintro _ a69 w70 ⟨g70, p66, rfl, h67, F70⟩ hS69
      replace h30 := OwS.fr h30 F70 (fun c' hc (hm : (N + 5 ≤ c' ∧ c' < N + 5 + 7) ∨ N + 30 ≤ c') => by omega)
      replace h39 := rails_Rails_Opt.fr h39 F70 (fun q hq1 hq2 (hm : (N + 5 ≤ q ∧ q < N + 5 + 7) ∨ N + 30 ≤ q) => by omega)
      replace hp1 := RdS.fr hp1 F70 (by decide) (fun q (hq : C1 q) (hm : (N + 5 ≤ q ∧ q < N + 5 + 7) ∨ N + 30 ≤ q) => by have := hC1 q hq; omega)
      replace hp2 := RdS.fr hp2 F70 (by decide) (fun q (hq : C2 q) (hm : (N + 5 ≤ q ∧ q < N + 5 + 7) ∨ N + 30 ≤ q) => by have := hC2 q hq; omega)
      replace hF := hF.trans F70 (fun c' (hm : (N + 5 ≤ c' ∧ c' < N + 5 + 7) ∨ N + 30 ≤ c') => by show N ≤ c'; omega)
      refine st_val hS69 rfl rfl rfl (r_move hS69 rfl rfl) fun a71 hS71 => st_val hS71 rfl rfl rfl (r_extract hS71 rfl rfl rfl) fun a72 hS72 => st_val hS72 rfl rfl rfl (r_extract hS72 rfl rfl rfl) fun a73 hS73 => st_val hS73 rfl rfl rfl (r_assign hS73 rfl rfl) fun a74 hS74 => st_val hS74 rfl rfl rfl (r_assign hS74 rfl rfl) fun a75 hS75 => wpList_nil (hK _ _ ?_)
      replace hS : Sl 176 _ [(1, .slice A1 p1.length cap1), (2, .slice A2 p2.length cap2), (7, .slice A28 r26.length cap29), (8, .pointer p38), (10, .pointer p66)] := hS75.re ⟨rfl, rfl, rfl, rfl, rfl, trivial⟩
      clear hK K
      try clear hS63 hS69 hS71 hS72 hS73 hS74 hS75
      obtain ⟨a, ha⟩ : ∃ a', a' = a75 := ⟨_, rfl⟩
      rw [← ha] at hS ⊢; clear ha
      obtain ⟨v93, H, Hl95⟩ := bind_el H
      refine c_cut (fun a w76 => ∃ (g76 : Nat → Nat), ∃ (b77 : Nat), ∃ (A79 : Option Addr), ∃ (cap80 : Nat), ∃ (b82 : Nat), ∃ (A84 : Option Addr), ∃ (cap85 : Nat), ∃ (A87 : Option Addr), ∃ (cap88 : Nat), ∃ (A90 : Option Addr), ∃ (cap91 : Nat), Sl 176 a [(2, .slice A2 p2.length cap2), (7, .slice A28 r26.length cap29), (8, .pointer (some ⟨b77, 0, none⟩)), (10, .pointer (some ⟨b82, 0, none⟩))] ∧ OwS kd_api_Rail 35 w76 g76 (N + 0) A28 cap29 r26 ∧ OwS kd_api_Rail 35 w76 g76 (N + 5 + 1) A84 cap85 v93.2.2.1 ∧ OwS (kint .i64) 3 w76 g76 (N + 5 + 3) A87 cap88 v93.2.2.2.1 ∧ OwS (kint .u64) 33 w76 g76 (N + 5 + 5) A90 cap91 v93.2.2.2.2.1 ∧ OwS kd_rails_rail 75 w76 g76 (N + 2 + 1) A79 cap80 v93.1 ∧ Bx w76 g76 (N + 5) b82 41 [.slice A84 v93.2.2.1.length cap85, .slice A87 v93.2.2.2.1.length cap88, .slice A90 v93.2.2.2.2.1.length cap91, .int .u64 v93.2.2.2.2.2] ∧ Bx w76 g76 (N + 2) b77 70 [.slice A79 v93.1.length cap80, .int .u64 v93.2.1] ∧ RdS kd_law25_Call w76 g76 C2 A2 cap2 p2 ∧ Fr (fun q => N ≤ q) w g w76 g76) ?_ ?_
      · refine c_pure [(1, .slice A1 p1.length cap1), (2, .slice A2 p2.length cap2), (7, .slice A28 r26.length cap29), (8, .pointer p38), (10, .pointer p66), (12, .int .i64 0)] (fun R hR => st_val hS rfl rfl rfl (r_assign hS rfl rfl) fun a96 hS96 => wpList_nil (hR _ (hS96.re ⟨rfl, rfl, rfl, rfl, rfl, rfl, trivial⟩))) ?_
        clear hS
        clear a
        intro a hS
        refine wp_block ?_
        obtain ⟨st97, hst98, H⟩ := bind_el H
        rw [hst98] at h39
        obtain ⟨b99, A102, cap103, hp106, h100, h104⟩ := h39
        subst hp106
        obtain ⟨st107, hst108, H⟩ := bind_el H
        rw [hst108] at h67
        obtain ⟨b109, A112, cap113, A116, cap117, A120, cap121, hp124, h110, h114, h118, h122⟩ := h67
        subst hp124
        refine wp_loop_ghost (fun kq => fun a w125 => ∃ (m0_0 : rails_Rails), ∃ (m0_1 : ref25_Rails), ∃ (m0_2 : Int), ∃ (g125 : Nat → Nat), law25_RailsCopiesAreIndependent.l0 p1 r26 kq m0_0 m0_1 m0_2 = some v93 ∧ Sl 176 a [(1, .slice A1 p1.length cap1), (2, .slice A2 p2.length cap2), (7, .slice A28 r26.length cap29), (8, .pointer (some ⟨b99, 0, none⟩)), (10, .pointer (some ⟨b109, 0, none⟩)), (12, .int .i64 m0_2)] ∧ Bx w125 g125 (N + 2) b99 70 [.slice A102 m0_0.list.length cap103, .int .u64 m0_0.now] ∧ OwS kd_rails_rail 75 w125 g125 (N + 2 + 1) A102 cap103 m0_0.list ∧ Bx w125 g125 (N + 5) b109 41 [.slice A112 m0_1.R.length cap113, .slice A116 m0_1.N.length cap117, .slice A120 m0_1.Done.length cap121, .int .u64 m0_1.Clock] ∧ OwS kd_api_Rail 35 w125 g125 (N + 5 + 1) A112 cap113 m0_1.R ∧ OwS (kint .i64) 3 w125 g125 (N + 5 + 3) A116 cap117 m0_1.N ∧ OwS (kint .u64) 33 w125 g125 (N + 5 + 5) A120 cap121 m0_1.Done ∧ OwS kd_api_Rail 35 w125 g125 (N + 0) A28 cap29 r26 ∧ RdS kd_law25_Call w125 g125 C1 A1 cap1 p1 ∧ RdS kd_law25_Call w125 g125 C2 A2 cap2 p2 ∧ Fr (fun q => N ≤ q) w g w125 g125) FUEL ?_ ?_
        · exact ⟨st97, st107, 0, g70, H, hS.re ⟨rfl, rfl, rfl, rfl, rfl, rfl, trivial⟩, h100, h104, h110, h114, h118, h122, h30, hp1, hp2, hF⟩
        · clear H
          clear hp1 hp2 h30 h104 h100 h114 h118 h122 h110 hF
          clear hS
          rintro k126 a w125 ⟨m0_0, m0_1, m0_2, g125, hpre0, hS, h100, h104, h110, h114, h118, h122, h30, hp1, hp2, hF⟩
          have H := hpre0
          clear hpre0
          cases k126 with
          | zero => exact absurd H (by simp [law25_RailsCopiesAreIndependent.l0])
          | succ k126 =>
            rw [law25_RailsCopiesAreIndependent.l0] at H
            refine wp_seq ?_
            refine c_pure [(1, .slice A1 p1.length cap1), (2, .slice A2 p2.length cap2), (7, .slice A28 r26.length cap29), (8, .pointer (some ⟨b99, 0, none⟩)), (10, .pointer (some ⟨b109, 0, none⟩)), (12, .int .i64 m0_2), (57, .bool (decide (m0_2 < (p1.length : Int))))] (fun R hR => st_val hS rfl rfl rfl (r_move hS rfl rfl) fun a127 hS127 => st_val hS127 rfl rfl rfl (r_move hS127 rfl rfl) fun a128 hS128 => st_val hS128 rfl rfl rfl (r_len (e := 46) (sz := 4) (by_ := 32) hS128 rfl rfl (by kernel_rfl)) fun a129 hS129 => st_val hS129 rfl rfl rfl (r_bin hS129 rfl rfl rfl b_lss) fun a130 hS130 => wpList_nil (hR _ (hS130.re ⟨rfl, rfl, rfl, rfl, rfl, rfl, rfl, trivial⟩))) ?_
            clear hS
            clear a
            intro a hS
            refine c_cond hS rfl (fun hb131 => ?_) (fun hb131 => ?_)
            · replace H := ite_t hb131 H
              refine wp_skip ?_
              change Code.wp _ _ _ _ _
              refine wp_seq ?_
              refine wp_block ?_
              refine c_pure [(1, .slice A1 p1.length cap1), (2, .slice A2 p2.length cap2), (7, .slice A28 r26.length cap29), (8, .pointer (some ⟨b99, 0, none⟩)), (10, .pointer (some ⟨b109, 0, none⟩)), (12, .int .i64 m0_2), (13, .int .u64 m0_1.Clock)] (fun R hR => st_val hS rfl rfl rfl (r_move hS rfl rfl) fun a132 hS132 => st_val hS132 rfl rfl rfl (r_nil hS132 rfl rfl) fun a133 hS133 => st_val hS133 rfl rfl rfl (r_fieldB (off := 3) hS133 rfl rfl (by kernel_rfl)) fun a134 hS134 => st_val hS134 rfl rfl rfl (r_load1 (n := 1) hS134 rfl rfl (by kernel_rfl) (Bx.cell h110 rfl)) fun a135 hS135 => st_val hS135 rfl rfl rfl (r_assign hS135 rfl rfl) fun a136 hS136 => wpList_nil (hR _ (hS136.re ⟨rfl, rfl, rfl, rfl, rfl, rfl, rfl, trivial⟩))) ?_
              clear hS
              clear a
              intro a hS
              obtain ⟨x140, hx141, H⟩ := bind_el H
              obtain ⟨r147, hr148, H⟩ := bind_el H
              refine c_region (fun K hK => ?_)
              refine st_val hS rfl rfl rfl (r_move hS rfl rfl) fun a137 hS137 => st_val hS137 rfl rfl rfl (r_move hS137 rfl rfl) fun a138 hS138 => st_val hS138 rfl rfl rfl (r_move hS138 rfl rfl) fun a139 hS139 => st_val hS139 rfl rfl rfl (r_index (e := 46) (sz := 4) (by_ := 32) hS139 rfl rfl rfl (by kernel_rfl) (RdS.some_ hp1 hx141) (idx_lo hx141) (idx_hi hx141)) fun a142 hS142 => st_val hS142 rfl rfl rfl (r_loadN (n := 4) (cs := [.bool x140.Release, .int .i64 x140.Rail, .int .u64 x140.Wait, .bool x140.Raw]) hS142 rfl rfl (by kernel_rfl) rfl (RdS.cells_off hp1 hx141 0 4)) fun a143 hS143 => st_val hS143 rfl rfl rfl (r_move hS143 rfl rfl) fun a144 hS144 => st_val hS144 rfl rfl rfl (r_len (e := 35) (sz := 3) (by_ := 24) hS144 rfl rfl (by kernel_rfl)) fun a145 hS145 => st_val hS145 rfl rfl rfl (r_move hS145 rfl rfl) fun a146 hS146 => ?_
              refine st_enter hS146 rfl rfl rfl (r_call hS146 rfl rfl (by kernel_rfl)) (law25_do.calls (c0 := N + 2) (b_p0 := b99) (A_list_p0 := A102) (cap_list_p0 := cap103) (p0 := m0_0) (p1 := x140) (p2 := (r26.length : Int)) (p3 := m0_1.Clock) (g := g125) (N + 30) (N + 12) ⟨h100, h104⟩ (by omega) (by omega) (by omega) hr148) ?_
              rintro _ a153 w154 ⟨g154, A149, cap150, rfl, ⟨h100, h104⟩, h151, F154⟩ hS153
              replace h110 := h110.fr F154 (fun (hm : (N + 2 ≤ N + 5 ∧ N + 5 < N + 2 + 3) ∨ (N + 12 ≤ N + 5 ∧ N + 5 < N + 12 + 2) ∨ N + 30 ≤ N + 5) => by omega)
              replace h114 := OwS.fr h114 F154 (fun c' hc (hm : (N + 2 ≤ c' ∧ c' < N + 2 + 3) ∨ (N + 12 ≤ c' ∧ c' < N + 12 + 2) ∨ N + 30 ≤ c') => by omega)
              replace h118 := OwS.fr h118 F154 (fun c' hc (hm : (N + 2 ≤ c' ∧ c' < N + 2 + 3) ∨ (N + 12 ≤ c' ∧ c' < N + 12 + 2) ∨ N + 30 ≤ c') => by omega)
              replace h122 := OwS.fr h122 F154 (fun c' hc (hm : (N + 2 ≤ c' ∧ c' < N + 2 + 3) ∨ (N + 12 ≤ c' ∧ c' < N + 12 + 2) ∨ N + 30 ≤ c') => by omega)
              replace h30 := OwS.fr h30 F154 (fun c' hc (hm : (N + 2 ≤ c' ∧ c' < N + 2 + 3) ∨ (N + 12 ≤ c' ∧ c' < N + 12 + 2) ∨ N + 30 ≤ c') => by omega)
              replace hp1 := RdS.fr hp1 F154 (by decide) (fun q (hq : C1 q) (hm : (N + 2 ≤ q ∧ q < N + 2 + 3) ∨ (N + 12 ≤ q ∧ q < N + 12 + 2) ∨ N + 30 ≤ q) => by have := hC1 q hq; omega)
              replace hp2 := RdS.fr hp2 F154 (by decide) (fun q (hq : C2 q) (hm : (N + 2 ≤ q ∧ q < N + 2 + 3) ∨ (N + 12 ≤ q ∧ q < N + 12 + 2) ∨ N + 30 ≤ q) => by have := hC2 q hq; omega)
              replace hF := hF.trans F154 (fun c' (hm : (N + 2 ≤ c' ∧ c' < N + 2 + 3) ∨ (N + 12 ≤ c' ∧ c' < N + 12 + 2) ∨ N + 30 ≤ c') => by show N ≤ c'; omega)
              refine wpList_nil (hK _ _ ?_)
              replace hS : Sl 176 _ [(1, .slice A1 p1.length cap1), (2, .slice A2 p2.length cap2), (7, .slice A28 r26.length cap29), (8, .pointer (some ⟨b99, 0, none⟩)), (10, .pointer (some ⟨b109, 0, none⟩)), (12, .int .i64 m0_2), (13, .int .u64 m0_1.Clock)] := hS153.re ⟨rfl, rfl, rfl, rfl, rfl, rfl, rfl, trivial⟩
              clear hK K
              try clear hS137 hS138 hS139 hS142 hS143 hS144 hS145 hS146 hS153
              obtain ⟨a, ha⟩ : ∃ a', a' = a153 := ⟨_, rfl⟩
              rw [← ha] at hS ⊢; clear ha
              obtain ⟨r163, hr164, H⟩ := bind_el H
              refine c_region1 (fun K hK => ?_)
              refine st_val hS rfl rfl rfl (r_move hS rfl rfl) fun a155 hS155 => st_val hS155 rfl rfl rfl (r_move hS155 rfl rfl) fun a156 hS156 => st_val hS156 rfl rfl rfl (r_move hS156 rfl rfl) fun a157 hS157 => st_val hS157 rfl rfl rfl (r_index (e := 46) (sz := 4) (by_ := 32) hS157 rfl rfl rfl (by kernel_rfl) (RdS.some_ hp1 hx141) (idx_lo hx141) (idx_hi hx141)) fun a158 hS158 => st_val hS158 rfl rfl rfl (r_loadN (n := 4) (cs := [.bool x140.Release, .int .i64 x140.Rail, .int .u64 x140.Wait, .bool x140.Raw]) hS158 rfl rfl (by kernel_rfl) rfl (RdS.cells_off hp1 hx141 0 4)) fun a159 hS159 => st_val hS159 rfl rfl rfl (r_move hS159 rfl rfl) fun a160 hS160 => st_val hS160 rfl rfl rfl (r_len (e := 35) (sz := 3) (by_ := 24) hS160 rfl rfl (by kernel_rfl)) fun a161 hS161 => st_val hS161 rfl rfl rfl (r_move hS161 rfl rfl) fun a162 hS162 => ?_
              refine st_enter hS162 rfl rfl rfl (r_call hS162 rfl rfl (by kernel_rfl)) (law25_want.calls (c0 := N + 5) (b_p0 := b109) (A_R_p0 := A112) (cap_R_p0 := cap113) (A_N_p0 := A116) (cap_N_p0 := cap117) (A_Done_p0 := A120) (cap_Done_p0 := cap121) (p0 := m0_1) (p1 := x140) (p2 := (r26.length : Int)) (p3 := m0_1.Clock) (g := g154) (N + 30) (N + 14) ⟨h110, h114, h118, h122⟩ (by omega) (by omega) (by omega) hr164) ?_
              rintro _ a169 w170 ⟨g170, A165, cap166, rfl, ⟨h110, h114, h118, h122⟩, h167, F170⟩ hS169
              replace h100 := h100.fr F170 (fun (hm : (N + 5 ≤ N + 2 ∧ N + 2 < N + 5 + 7) ∨ (N + 14 ≤ N + 2 ∧ N + 2 < N + 14 + 2) ∨ N + 30 ≤ N + 2) => by omega)
              replace h104 := OwS.fr h104 F170 (fun c' hc (hm : (N + 5 ≤ c' ∧ c' < N + 5 + 7) ∨ (N + 14 ≤ c' ∧ c' < N + 14 + 2) ∨ N + 30 ≤ c') => by omega)
              replace h30 := OwS.fr h30 F170 (fun c' hc (hm : (N + 5 ≤ c' ∧ c' < N + 5 + 7) ∨ (N + 14 ≤ c' ∧ c' < N + 14 + 2) ∨ N + 30 ≤ c') => by omega)
              replace hp1 := RdS.fr hp1 F170 (by decide) (fun q (hq : C1 q) (hm : (N + 5 ≤ q ∧ q < N + 5 + 7) ∨ (N + 14 ≤ q ∧ q < N + 14 + 2) ∨ N + 30 ≤ q) => by have := hC1 q hq; omega)
              replace hp2 := RdS.fr hp2 F170 (by decide) (fun q (hq : C2 q) (hm : (N + 5 ≤ q ∧ q < N + 5 + 7) ∨ (N + 14 ≤ q ∧ q < N + 14 + 2) ∨ N + 30 ≤ q) => by have := hC2 q hq; omega)
              replace hF := hF.trans F170 (fun c' (hm : (N + 5 ≤ c' ∧ c' < N + 5 + 7) ∨ (N + 14 ≤ c' ∧ c' < N + 14 + 2) ∨ N + 30 ≤ c') => by show N ≤ c'; omega)
              refine wpList_nil (hK _ _ ?_)
              replace hS : Sl 176 _ [(1, .slice A1 p1.length cap1), (2, .slice A2 p2.length cap2), (7, .slice A28 r26.length cap29), (8, .pointer (some ⟨b99, 0, none⟩)), (10, .pointer (some ⟨b109, 0, none⟩)), (12, .int .i64 m0_2)] := hS169.re ⟨rfl, rfl, rfl, rfl, rfl, rfl, trivial⟩
              clear hK K
              try clear hS155 hS156 hS157 hS158 hS159 hS160 hS161 hS162 hS169
              obtain ⟨a, ha⟩ : ∃ a', a' = a169 := ⟨_, rfl⟩
              rw [← ha] at hS ⊢; clear ha
              change Code.wp _ _ _ _ _
              refine c_pure1 [(1, .slice A1 p1.length cap1), (2, .slice A2 p2.length cap2), (7, .slice A28 r26.length cap29), (8, .pointer (some ⟨b99, 0, none⟩)), (10, .pointer (some ⟨b109, 0, none⟩)), (12, .int .i64 (wi (m0_2 + 1)))] (fun R hR => st_val hS rfl rfl rfl (r_move hS rfl rfl) fun a171 hS171 => st_val hS171 rfl rfl rfl (r_bin hS171 rfl rfl rfl b_add) fun a172 hS172 => st_val hS172 rfl rfl rfl (r_assign hS172 rfl rfl) fun a173 hS173 => wpList_nil (hR _ (hS173.re ⟨rfl, rfl, rfl, rfl, rfl, rfl, trivial⟩))) ?_
              clear hS
              clear a
              intro a hS
              refine ⟨k126, Nat.lt_succ_self _, ?_⟩
              exact ⟨r147.1, r163.1, wi (m0_2 + 1), g170, H, hS.re ⟨rfl, rfl, rfl, rfl, rfl, rfl, trivial⟩, h100, h104, h110, h114, h118, h122, h30, hp1, hp2, hF⟩
            · replace H := ite_f hb131 H
              refine wp_exit ?_
              have e := Option.some.inj H
              subst e
              exact ⟨g125, b99, A102, cap103, b109, A112, cap113, A116, cap117, A120, cap121, hS.re ⟨rfl, rfl, rfl, rfl, trivial⟩, h30, h114, h118, h122, h104, h110, h100, hp2, hF⟩
      · clear H
        clear hp1 hp2 h30 h39 h67 hF
        clear hS
        rintro a w76 ⟨g76, b77, A79, cap80, b82, A84, cap85, A87, cap88, A90, cap91, hS, h30, h86, h89, h92, h81, h83, h78, hp2, hF⟩
        have H := Hl95
        clear Hl95
        obtain ⟨r175, hr176, H⟩ := bind_el H
        obtain ⟨r183, hr184, H⟩ := bind_el H
        refine c_region (fun K hK => ?_)
        refine st_val hS rfl rfl rfl (r_move hS rfl rfl) fun a174 hS174 => ?_
        refine st_enter hS174 rfl rfl rfl (r_call hS174 rfl rfl (by kernel_rfl)) (rails_Rails_Copy.calls (c0 := N + 2) (b_p0 := b77) (A_list_p0 := A79) (cap_list_p0 := cap80) (p0 := (rails_Rails.mk v93.1 v93.2.1)) (g := g76) (N + 30) (N + 16) ⟨h78, h81⟩ (by omega) (by omega) hr176) ?_
        rintro _ a180 w181 ⟨g181, p177, rfl, h178, F181⟩ hS180
        replace h30 := OwS.fr h30 F181 (fun c' hc (hm : (N + 16 ≤ c' ∧ c' < N + 16 + 3) ∨ N + 30 ≤ c') => by omega)
        replace h86 := OwS.fr h86 F181 (fun c' hc (hm : (N + 16 ≤ c' ∧ c' < N + 16 + 3) ∨ N + 30 ≤ c') => by omega)
        replace h89 := OwS.fr h89 F181 (fun c' hc (hm : (N + 16 ≤ c' ∧ c' < N + 16 + 3) ∨ N + 30 ≤ c') => by omega)
        replace h92 := OwS.fr h92 F181 (fun c' hc (hm : (N + 16 ≤ c' ∧ c' < N + 16 + 3) ∨ N + 30 ≤ c') => by omega)
        replace h81 := OwS.fr h81 F181 (fun c' hc (hm : (N + 16 ≤ c' ∧ c' < N + 16 + 3) ∨ N + 30 ≤ c') => by omega)
        replace h83 := h83.fr F181 (fun (hm : (N + 16 ≤ N + 5 ∧ N + 5 < N + 16 + 3) ∨ N + 30 ≤ N + 5) => by omega)
        replace h78 := h78.fr F181 (fun (hm : (N + 16 ≤ N + 2 ∧ N + 2 < N + 16 + 3) ∨ N + 30 ≤ N + 2) => by omega)
        replace hp2 := RdS.fr hp2 F181 (by decide) (fun q (hq : C2 q) (hm : (N + 16 ≤ q ∧ q < N + 16 + 3) ∨ N + 30 ≤ q) => by have := hC2 q hq; omega)
        replace hF := hF.trans F181 (fun c' (hm : (N + 16 ≤ c' ∧ c' < N + 16 + 3) ∨ N + 30 ≤ c') => by show N ≤ c'; omega)
        refine st_val hS180 rfl rfl rfl (r_move hS180 rfl rfl) fun a182 hS182 => ?_
        refine st_enter hS182 rfl rfl rfl (r_call hS182 rfl rfl (by kernel_rfl)) (ref25_Rails_Copy.calls (c0 := N + 5) (b_p0 := b82) (A_R_p0 := A84) (cap_R_p0 := cap85) (A_N_p0 := A87) (cap_N_p0 := cap88) (A_Done_p0 := A90) (cap_Done_p0 := cap91) (p0 := (ref25_Rails.mk v93.2.2.1 v93.2.2.2.1 v93.2.2.2.2.1 v93.2.2.2.2.2)) (g := g181) (N + 30) (N + 19) ⟨h83, h86, h89, h92⟩ (by omega) (by omega) hr184) ?_
        rintro _ a188 w189 ⟨g189, p185, rfl, h186, F189⟩ hS188
        replace h178 := rails_Rails_Opt.fr h178 F189 (fun q hq1 hq2 (hm : (N + 19 ≤ q ∧ q < N + 19 + 7) ∨ N + 30 ≤ q) => by omega)
        replace h30 := OwS.fr h30 F189 (fun c' hc (hm : (N + 19 ≤ c' ∧ c' < N + 19 + 7) ∨ N + 30 ≤ c') => by omega)
        replace h86 := OwS.fr h86 F189 (fun c' hc (hm : (N + 19 ≤ c' ∧ c' < N + 19 + 7) ∨ N + 30 ≤ c') => by omega)
        replace h89 := OwS.fr h89 F189 (fun c' hc (hm : (N + 19 ≤ c' ∧ c' < N + 19 + 7) ∨ N + 30 ≤ c') => by omega)
        replace h92 := OwS.fr h92 F189 (fun c' hc (hm : (N + 19 ≤ c' ∧ c' < N + 19 + 7) ∨ N + 30 ≤ c') => by omega)
        replace h81 := OwS.fr h81 F189 (fun c' hc (hm : (N + 19 ≤ c' ∧ c' < N + 19 + 7) ∨ N + 30 ≤ c') => by omega)
        replace h83 := h83.fr F189 (fun (hm : (N + 19 ≤ N + 5 ∧ N + 5 < N + 19 + 7) ∨ N + 30 ≤ N + 5) => by omega)
        replace h78 := h78.fr F189 (fun (hm : (N + 19 ≤ N + 2 ∧ N + 2 < N + 19 + 7) ∨ N + 30 ≤ N + 2) => by omega)
        replace hp2 := RdS.fr hp2 F189 (by decide) (fun q (hq : C2 q) (hm : (N + 19 ≤ q ∧ q < N + 19 + 7) ∨ N + 30 ≤ q) => by have := hC2 q hq; omega)
        replace hF := hF.trans F189 (fun c' (hm : (N + 19 ≤ c' ∧ c' < N + 19 + 7) ∨ N + 30 ≤ c') => by show N ≤ c'; omega)
        refine st_val hS188 rfl rfl rfl (r_assign hS188 rfl rfl) fun a190 hS190 => st_val hS190 rfl rfl rfl (r_assign hS190 rfl rfl) fun a191 hS191 => wpList_nil (hK _ _ ?_)
        replace hS : Sl 176 _ [(2, .slice A2 p2.length cap2), (7, .slice A28 r26.length cap29), (8, .pointer (some ⟨b77, 0, none⟩)), (10, .pointer (some ⟨b82, 0, none⟩)), (14, .pointer p177), (15, .pointer p185)] := hS191.re ⟨rfl, rfl, rfl, rfl, rfl, rfl, trivial⟩
        clear hK K
        try clear hS174 hS180 hS182 hS188 hS190 hS191
        obtain ⟨a, ha⟩ : ∃ a', a' = a191 := ⟨_, rfl⟩
        rw [← ha] at hS ⊢; clear ha
        refine wp_seq ?_
        refine c_pure [(2, .slice A2 p2.length cap2), (7, .slice A28 r26.length cap29), (8, .pointer (some ⟨b77, 0, none⟩)), (10, .pointer (some ⟨b82, 0, none⟩)), (14, .pointer p177), (15, .pointer p185), (87, .bool r175.isNone)] (fun R hR => st_val hS rfl rfl rfl (r_move hS rfl rfl) fun a192 hS192 => st_val hS192 rfl rfl rfl (r_optEq hS192 rfl rfl (by kernel_rfl) (rails_Rails_Opt.isNone h178)) fun a193 hS193 => wpList_nil (hR _ (hS193.re ⟨rfl, rfl, rfl, rfl, rfl, rfl, rfl, trivial⟩))) ?_
        clear hS
        clear a
        intro a hS
        refine c_cond hS rfl (fun hb194 => ?_) (fun hb194 => ?_)
        · replace H := ite_t hb194 H
          refine c_pure [(6, .bool false)] (fun R hR => st_val hS rfl rfl rfl (r_assign hS rfl rfl) fun a195 hS195 => wpList_nil (hR _ (hS195.re ⟨rfl, trivial⟩))) ?_
          clear hS
          clear a
          intro a hS
          refine wp_ret ?_
          have e := Option.some.inj H
          subst e
          repeat (with_reducible first | refine then_ret ?_ | refine inBlock_ret ?_)
          exact c_ret1 hS Try.results10 rfl ⟨_, rfl, g189, rfl, hF⟩
        · replace H := ite_f hb194 H
          refine wp_skip ?_
          change Code.wp _ _ _ _ _
          obtain ⟨o214, H, Hl215⟩ := bind_el H
          refine c_cut (fun a w196 => ∃ (v213 : (List rails_rail) × Int × (List api_Rail) × (List Int) × (List Int) × Int), ∃ (g196 : Nat → Nat), ∃ (b197 : Nat), ∃ (A199 : Option Addr), ∃ (cap200 : Nat), ∃ (b202 : Nat), ∃ (A204 : Option Addr), ∃ (cap205 : Nat), ∃ (A207 : Option Addr), ∃ (cap208 : Nat), ∃ (A210 : Option Addr), ∃ (cap211 : Nat), o214 = .nxt v213 ∧ Sl 176 a [(7, .slice A28 r26.length cap29), (8, .pointer (some ⟨b77, 0, none⟩)), (10, .pointer (some ⟨b82, 0, none⟩)), (14, .pointer (some ⟨b197, 0, none⟩)), (15, .pointer (some ⟨b202, 0, none⟩))] ∧ OwS kd_api_Rail 35 w196 g196 (N + 0) A28 cap29 r26 ∧ OwS kd_rails_rail 75 w196 g196 (N + 16 + 1) A199 cap200 v213.1 ∧ OwS kd_api_Rail 35 w196 g196 (N + 19 + 1) A204 cap205 v213.2.2.1 ∧ OwS (kint .i64) 3 w196 g196 (N + 19 + 3) A207 cap208 v213.2.2.2.1 ∧ OwS (kint .u64) 33 w196 g196 (N + 19 + 5) A210 cap211 v213.2.2.2.2.1 ∧ Bx w196 g196 (N + 16) b197 70 [.slice A199 v213.1.length cap200, .int .u64 v213.2.1] ∧ Bx w196 g196 (N + 19) b202 41 [.slice A204 v213.2.2.1.length cap205, .slice A207 v213.2.2.2.1.length cap208, .slice A210 v213.2.2.2.2.1.length cap211, .int .u64 v213.2.2.2.2.2] ∧ OwS kd_api_Rail 35 w196 g196 (N + 5 + 1) A84 cap85 v93.2.2.1 ∧ OwS (kint .i64) 3 w196 g196 (N + 5 + 3) A87 cap88 v93.2.2.2.1 ∧ OwS (kint .u64) 33 w196 g196 (N + 5 + 5) A90 cap91 v93.2.2.2.2.1 ∧ OwS kd_rails_rail 75 w196 g196 (N + 2 + 1) A79 cap80 v93.1 ∧ Bx w196 g196 (N + 5) b82 41 [.slice A84 v93.2.2.1.length cap85, .slice A87 v93.2.2.2.1.length cap88, .slice A90 v93.2.2.2.2.1.length cap91, .int .u64 v93.2.2.2.2.2] ∧ Bx w196 g196 (N + 2) b77 70 [.slice A79 v93.1.length cap80, .int .u64 v93.2.1] ∧ Fr (fun q => N ≤ q) w g w196 g196) ?_ ?_
          · refine c_pure [(2, .slice A2 p2.length cap2), (7, .slice A28 r26.length cap29), (8, .pointer (some ⟨b77, 0, none⟩)), (10, .pointer (some ⟨b82, 0, none⟩)), (14, .pointer p177), (15, .pointer p185), (16, .int .i64 0)] (fun R hR => st_val hS rfl rfl rfl (r_assign hS rfl rfl) fun a216 hS216 => wpList_nil (hR _ (hS216.re ⟨rfl, rfl, rfl, rfl, rfl, rfl, rfl, trivial⟩))) ?_
            clear hS
            clear a
            intro a hS
            refine wp_block ?_
            obtain ⟨st217, hst218, H⟩ := bind_el H
            rw [hst218] at h178
            obtain ⟨b219, A222, cap223, hp226, h220, h224⟩ := h178
            subst hp226
            obtain ⟨st227, hst228, H⟩ := bind_el H
            rw [hst228] at h186
            obtain ⟨b229, A232, cap233, A236, cap237, A240, cap241, hp244, h230, h234, h238, h242⟩ := h186
            subst hp244
            refine wp_loop_ghost (fun kq => fun a w245 => ∃ (m1_0 : rails_Rails), ∃ (m1_1 : ref25_Rails), ∃ (m1_2 : Int), ∃ (g245 : Nat → Nat), law25_RailsCopiesAreIndependent.l1 p2 r26 kq m1_0 m1_1 m1_2 = some o214 ∧ Sl 176 a [(2, .slice A2 p2.length cap2), (7, .slice A28 r26.length cap29), (8, .pointer (some ⟨b77, 0, none⟩)), (10, .pointer (some ⟨b82, 0, none⟩)), (14, .pointer (some ⟨b219, 0, none⟩)), (15, .pointer (some ⟨b229, 0, none⟩)), (16, .int .i64 m1_2)] ∧ Bx w245 g245 (N + 16) b219 70 [.slice A222 m1_0.list.length cap223, .int .u64 m1_0.now] ∧ OwS kd_rails_rail 75 w245 g245 (N + 16 + 1) A222 cap223 m1_0.list ∧ Bx w245 g245 (N + 19) b229 41 [.slice A232 m1_1.R.length cap233, .slice A236 m1_1.N.length cap237, .slice A240 m1_1.Done.length cap241, .int .u64 m1_1.Clock] ∧ OwS kd_api_Rail 35 w245 g245 (N + 19 + 1) A232 cap233 m1_1.R ∧ OwS (kint .i64) 3 w245 g245 (N + 19 + 3) A236 cap237 m1_1.N ∧ OwS (kint .u64) 33 w245 g245 (N + 19 + 5) A240 cap241 m1_1.Done ∧ OwS kd_api_Rail 35 w245 g245 (N + 0) A28 cap29 r26 ∧ OwS kd_api_Rail 35 w245 g245 (N + 5 + 1) A84 cap85 v93.2.2.1 ∧ OwS (kint .i64) 3 w245 g245 (N + 5 + 3) A87 cap88 v93.2.2.2.1 ∧ OwS (kint .u64) 33 w245 g245 (N + 5 + 5) A90 cap91 v93.2.2.2.2.1 ∧ OwS kd_rails_rail 75 w245 g245 (N + 2 + 1) A79 cap80 v93.1 ∧ Bx w245 g245 (N + 5) b82 41 [.slice A84 v93.2.2.1.length cap85, .slice A87 v93.2.2.2.1.length cap88, .slice A90 v93.2.2.2.2.1.length cap91, .int .u64 v93.2.2.2.2.2] ∧ Bx w245 g245 (N + 2) b77 70 [.slice A79 v93.1.length cap80, .int .u64 v93.2.1] ∧ RdS kd_law25_Call w245 g245 C2 A2 cap2 p2 ∧ Fr (fun q => N ≤ q) w g w245 g245) FUEL ?_ ?_
            · exact ⟨st217, st227, 0, g189, H, hS.re ⟨rfl, rfl, rfl, rfl, rfl, rfl, rfl, trivial⟩, h220, h224, h230, h234, h238, h242, h30, h86, h89, h92, h81, h83, h78, hp2, hF⟩
            · clear H
              clear hp2 h30 h81 h78 h86 h89 h92 h83 h224 h220 h234 h238 h242 h230 hF
              clear hS
              rintro k246 a w245 ⟨m1_0, m1_1, m1_2, g245, hpre0, hS, h220, h224, h230, h234, h238, h242, h30, h86, h89, h92, h81, h83, h78, hp2, hF⟩
              have H := hpre0
              clear hpre0
              cases k246 with
              | zero => exact absurd H (by simp [law25_RailsCopiesAreIndependent.l1])
              | succ k246 =>
                rw [law25_RailsCopiesAreIndependent.l1] at H
                refine wp_seq ?_
                refine c_pure [(2, .slice A2 p2.length cap2), (7, .slice A28 r26.length cap29), (8, .pointer (some ⟨b77, 0, none⟩)), (10, .pointer (some ⟨b82, 0, none⟩)), (14, .pointer (some ⟨b219, 0, none⟩)), (15, .pointer (some ⟨b229, 0, none⟩)), (16, .int .i64 m1_2), (91, .bool (decide (m1_2 < (p2.length : Int))))] (fun R hR => st_val hS rfl rfl rfl (r_move hS rfl rfl) fun a247 hS247 => st_val hS247 rfl rfl rfl (r_move hS247 rfl rfl) fun a248 hS248 => st_val hS248 rfl rfl rfl (r_len (e := 46) (sz := 4) (by_ := 32) hS248 rfl rfl (by kernel_rfl)) fun a249 hS249 => st_val hS249 rfl rfl rfl (r_bin hS249 rfl rfl rfl b_lss) fun a250 hS250 => wpList_nil (hR _ (hS250.re ⟨rfl, rfl, rfl, rfl, rfl, rfl, rfl, rfl, trivial⟩))) ?_
                clear hS
                clear a
                intro a hS
                refine c_cond hS rfl (fun hb251 => ?_) (fun hb251 => ?_)
                · replace H := ite_t hb251 H
                  refine wp_skip ?_
                  change Code.wp _ _ _ _ _
                  refine wp_seq ?_
                  refine wp_block ?_
                  refine c_pure [(2, .slice A2 p2.length cap2), (7, .slice A28 r26.length cap29), (8, .pointer (some ⟨b77, 0, none⟩)), (10, .pointer (some ⟨b82, 0, none⟩)), (14, .pointer (some ⟨b219, 0, none⟩)), (15, .pointer (some ⟨b229, 0, none⟩)), (16, .int .i64 m1_2), (17, .int .u64 m1_1.Clock)] (fun R hR => st_val hS rfl rfl rfl (r_move hS rfl rfl) fun a252 hS252 => st_val hS252 rfl rfl rfl (r_nil hS252 rfl rfl) fun a253 hS253 => st_val hS253 rfl rfl rfl (r_fieldB (off := 3) hS253 rfl rfl (by kernel_rfl)) fun a254 hS254 => st_val hS254 rfl rfl rfl (r_load1 (n := 1) hS254 rfl rfl (by kernel_rfl) (Bx.cell h230 rfl)) fun a255 hS255 => st_val hS255 rfl rfl rfl (r_assign hS255 rfl rfl) fun a256 hS256 => wpList_nil (hR _ (hS256.re ⟨rfl, rfl, rfl, rfl, rfl, rfl, rfl, rfl, trivial⟩))) ?_
                  clear hS
                  clear a
                  intro a hS
                  obtain ⟨x260, hx261, H⟩ := bind_el H
                  obtain ⟨r267, hr268, H⟩ := bind_el H
                  refine c_region (fun K hK => ?_)
                  refine st_val hS rfl rfl rfl (r_move hS rfl rfl) fun a257 hS257 => st_val hS257 rfl rfl rfl (r_move hS257 rfl rfl) fun a258 hS258 => st_val hS258 rfl rfl rfl (r_move hS258 rfl rfl) fun a259 hS259 => st_val hS259 rfl rfl rfl (r_index (e := 46) (sz := 4) (by_ := 32) hS259 rfl rfl rfl (by kernel_rfl) (RdS.some_ hp2 hx261) (idx_lo hx261) (idx_hi hx261)) fun a262 hS262 => st_val hS262 rfl rfl rfl (r_loadN (n := 4) (cs := [.bool x260.Release, .int .i64 x260.Rail, .int .u64 x260.Wait, .bool x260.Raw]) hS262 rfl rfl (by kernel_rfl) rfl (RdS.cells_off hp2 hx261 0 4)) fun a263 hS263 => st_val hS263 rfl rfl rfl (r_move hS263 rfl rfl) fun a264 hS264 => st_val hS264 rfl rfl rfl (r_len (e := 35) (sz := 3) (by_ := 24) hS264 rfl rfl (by kernel_rfl)) fun a265 hS265 => st_val hS265 rfl rfl rfl (r_move hS265 rfl rfl) fun a266 hS266 => ?_
                  refine st_enter hS266 rfl rfl rfl (r_call hS266 rfl rfl (by kernel_rfl)) (law25_do.calls (c0 := N + 16) (b_p0 := b219) (A_list_p0 := A222) (cap_list_p0 := cap223) (p0 := m1_0) (p1 := x260) (p2 := (r26.length : Int)) (p3 := m1_1.Clock) (g := g245) (N + 30) (N + 26) ⟨h220, h224⟩ (by omega) (by omega) (by omega) hr268) ?_
                  rintro _ a273 w274 ⟨g274, A269, cap270, rfl, ⟨h220, h224⟩, h271, F274⟩ hS273
                  replace h230 := h230.fr F274 (fun (hm : (N + 16 ≤ N + 19 ∧ N + 19 < N + 16 + 3) ∨ (N + 26 ≤ N + 19 ∧ N + 19 < N + 26 + 2) ∨ N + 30 ≤ N + 19) => by omega)
                  replace h234 := OwS.fr h234 F274 (fun c' hc (hm : (N + 16 ≤ c' ∧ c' < N + 16 + 3) ∨ (N + 26 ≤ c' ∧ c' < N + 26 + 2) ∨ N + 30 ≤ c') => by omega)
                  replace h238 := OwS.fr h238 F274 (fun c' hc (hm : (N + 16 ≤ c' ∧ c' < N + 16 + 3) ∨ (N + 26 ≤ c' ∧ c' < N + 26 + 2) ∨ N + 30 ≤ c') => by omega)
                  replace h242 := OwS.fr h242 F274 (fun c' hc (hm : (N + 16 ≤ c' ∧ c' < N + 16 + 3) ∨ (N + 26 ≤ c' ∧ c' < N + 26 + 2) ∨ N + 30 ≤ c') => by omega)
                  replace h30 := OwS.fr h30 F274 (fun c' hc (hm : (N + 16 ≤ c' ∧ c' < N + 16 + 3) ∨ (N + 26 ≤ c' ∧ c' < N + 26 + 2) ∨ N + 30 ≤ c') => by omega)
                  replace h86 := OwS.fr h86 F274 (fun c' hc (hm : (N + 16 ≤ c' ∧ c' < N + 16 + 3) ∨ (N + 26 ≤ c' ∧ c' < N + 26 + 2) ∨ N + 30 ≤ c') => by omega)
                  replace h89 := OwS.fr h89 F274 (fun c' hc (hm : (N + 16 ≤ c' ∧ c' < N + 16 + 3) ∨ (N + 26 ≤ c' ∧ c' < N + 26 + 2) ∨ N + 30 ≤ c') => by omega)
                  replace h92 := OwS.fr h92 F274 (fun c' hc (hm : (N + 16 ≤ c' ∧ c' < N + 16 + 3) ∨ (N + 26 ≤ c' ∧ c' < N + 26 + 2) ∨ N + 30 ≤ c') => by omega)
                  replace h81 := OwS.fr h81 F274 (fun c' hc (hm : (N + 16 ≤ c' ∧ c' < N + 16 + 3) ∨ (N + 26 ≤ c' ∧ c' < N + 26 + 2) ∨ N + 30 ≤ c') => by omega)
                  replace h83 := h83.fr F274 (fun (hm : (N + 16 ≤ N + 5 ∧ N + 5 < N + 16 + 3) ∨ (N + 26 ≤ N + 5 ∧ N + 5 < N + 26 + 2) ∨ N + 30 ≤ N + 5) => by omega)
                  replace h78 := h78.fr F274 (fun (hm : (N + 16 ≤ N + 2 ∧ N + 2 < N + 16 + 3) ∨ (N + 26 ≤ N + 2 ∧ N + 2 < N + 26 + 2) ∨ N + 30 ≤ N + 2) => by omega)
                  replace hp2 := RdS.fr hp2 F274 (by decide) (fun q (hq : C2 q) (hm : (N + 16 ≤ q ∧ q < N + 16 + 3) ∨ (N + 26 ≤ q ∧ q < N + 26 + 2) ∨ N + 30 ≤ q) => by have := hC2 q hq; omega)
                  replace hF := hF.trans F274 (fun c' (hm : (N + 16 ≤ c' ∧ c' < N + 16 + 3) ∨ (N + 26 ≤ c' ∧ c' < N + 26 + 2) ∨ N + 30 ≤ c') => by show N ≤ c'; omega)
                  refine st_val hS273 rfl rfl rfl (r_move hS273 rfl rfl) fun a275 hS275 => st_val hS275 rfl rfl rfl (r_extract hS275 rfl rfl rfl) fun a276 hS276 => st_val hS276 rfl rfl rfl (r_extract hS276 rfl rfl rfl) fun a277 hS277 => st_val hS277 rfl rfl rfl (r_assign hS277 rfl rfl) fun a278 hS278 => st_val hS278 rfl rfl rfl (r_assign hS278 rfl rfl) fun a279 hS279 => wpList_nil (hK _ _ ?_)
                  replace hS : Sl 176 _ [(2, .slice A2 p2.length cap2), (7, .slice A28 r26.length cap29), (8, .pointer (some ⟨b77, 0, none⟩)), (10, .pointer (some ⟨b82, 0, none⟩)), (14, .pointer (some ⟨b219, 0, none⟩)), (15, .pointer (some ⟨b229, 0, none⟩)), (16, .int .i64 m1_2), (17, .int .u64 m1_1.Clock), (18, .slice A269 r267.2.1.length cap270), (19, .int .i64 r267.2.2)] := hS279.re ⟨rfl, rfl, rfl, rfl, rfl, rfl, rfl, rfl, rfl, rfl, trivial⟩
                  clear hK K
                  try clear hS257 hS258 hS259 hS262 hS263 hS264 hS265 hS266 hS273 hS275 hS276 hS277 hS278 hS279
                  obtain ⟨a, ha⟩ : ∃ a', a' = a279 := ⟨_, rfl⟩
                  rw [← ha] at hS ⊢; clear ha
                  obtain ⟨r288, hr289, H⟩ := bind_el H
                  refine c_region (fun K hK => ?_)
                  refine st_val hS rfl rfl rfl (r_move hS rfl rfl) fun a280 hS280 => st_val hS280 rfl rfl rfl (r_move hS280 rfl rfl) fun a281 hS281 => st_val hS281 rfl rfl rfl (r_move hS281 rfl rfl) fun a282 hS282 => st_val hS282 rfl rfl rfl (r_index (e := 46) (sz := 4) (by_ := 32) hS282 rfl rfl rfl (by kernel_rfl) (RdS.some_ hp2 hx261) (idx_lo hx261) (idx_hi hx261)) fun a283 hS283 => st_val hS283 rfl rfl rfl (r_loadN (n := 4) (cs := [.bool x260.Release, .int .i64 x260.Rail, .int .u64 x260.Wait, .bool x260.Raw]) hS283 rfl rfl (by kernel_rfl) rfl (RdS.cells_off hp2 hx261 0 4)) fun a284 hS284 => st_val hS284 rfl rfl rfl (r_move hS284 rfl rfl) fun a285 hS285 => st_val hS285 rfl rfl rfl (r_len (e := 35) (sz := 3) (by_ := 24) hS285 rfl rfl (by kernel_rfl)) fun a286 hS286 => st_val hS286 rfl rfl rfl (r_move hS286 rfl rfl) fun a287 hS287 => ?_
                  refine st_enter hS287 rfl rfl rfl (r_call hS287 rfl rfl (by kernel_rfl)) (law25_want.calls (c0 := N + 19) (b_p0 := b229) (A_R_p0 := A232) (cap_R_p0 := cap233) (A_N_p0 := A236) (cap_N_p0 := cap237) (A_Done_p0 := A240) (cap_Done_p0 := cap241) (p0 := m1_1) (p1 := x260) (p2 := (r26.length : Int)) (p3 := m1_1.Clock) (g := g274) (N + 30) (N + 28) ⟨h230, h234, h238, h242⟩ (by omega) (by omega) (by omega) hr289) ?_
                  rintro _ a294 w295 ⟨g295, A290, cap291, rfl, ⟨h230, h234, h238, h242⟩, h292, F295⟩ hS294
                  replace h220 := h220.fr F295 (fun (hm : (N + 19 ≤ N + 16 ∧ N + 16 < N + 19 + 7) ∨ (N + 28 ≤ N + 16 ∧ N + 16 < N + 28 + 2) ∨ N + 30 ≤ N + 16) => by omega)
                  replace h224 := OwS.fr h224 F295 (fun c' hc (hm : (N + 19 ≤ c' ∧ c' < N + 19 + 7) ∨ (N + 28 ≤ c' ∧ c' < N + 28 + 2) ∨ N + 30 ≤ c') => by omega)
                  replace h271 := OwS.fr h271 F295 (fun c' hc (hm : (N + 19 ≤ c' ∧ c' < N + 19 + 7) ∨ (N + 28 ≤ c' ∧ c' < N + 28 + 2) ∨ N + 30 ≤ c') => by omega)
                  replace h30 := OwS.fr h30 F295 (fun c' hc (hm : (N + 19 ≤ c' ∧ c' < N + 19 + 7) ∨ (N + 28 ≤ c' ∧ c' < N + 28 + 2) ∨ N + 30 ≤ c') => by omega)
                  replace h86 := OwS.fr h86 F295 (fun c' hc (hm : (N + 19 ≤ c' ∧ c' < N + 19 + 7) ∨ (N + 28 ≤ c' ∧ c' < N + 28 + 2) ∨ N + 30 ≤ c') => by omega)
                  replace h89 := OwS.fr h89 F295 (fun c' hc (hm : (N + 19 ≤ c' ∧ c' < N + 19 + 7) ∨ (N + 28 ≤ c' ∧ c' < N + 28 + 2) ∨ N + 30 ≤ c') => by omega)
                  replace h92 := OwS.fr h92 F295 (fun c' hc (hm : (N + 19 ≤ c' ∧ c' < N + 19 + 7) ∨ (N + 28 ≤ c' ∧ c' < N + 28 + 2) ∨ N + 30 ≤ c') => by omega)
                  replace h81 := OwS.fr h81 F295 (fun c' hc (hm : (N + 19 ≤ c' ∧ c' < N + 19 + 7) ∨ (N + 28 ≤ c' ∧ c' < N + 28 + 2) ∨ N + 30 ≤ c') => by omega)
                  replace h83 := h83.fr F295 (fun (hm : (N + 19 ≤ N + 5 ∧ N + 5 < N + 19 + 7) ∨ (N + 28 ≤ N + 5 ∧ N + 5 < N + 28 + 2) ∨ N + 30 ≤ N + 5) => by omega)
                  replace h78 := h78.fr F295 (fun (hm : (N + 19 ≤ N + 2 ∧ N + 2 < N + 19 + 7) ∨ (N + 28 ≤ N + 2 ∧ N + 2 < N + 28 + 2) ∨ N + 30 ≤ N + 2) => by omega)
                  replace hp2 := RdS.fr hp2 F295 (by decide) (fun q (hq : C2 q) (hm : (N + 19 ≤ q ∧ q < N + 19 + 7) ∨ (N + 28 ≤ q ∧ q < N + 28 + 2) ∨ N + 30 ≤ q) => by have := hC2 q hq; omega)
                  replace hF := hF.trans F295 (fun c' (hm : (N + 19 ≤ c' ∧ c' < N + 19 + 7) ∨ (N + 28 ≤ c' ∧ c' < N + 28 + 2) ∨ N + 30 ≤ c') => by show N ≤ c'; omega)
                  refine st_val hS294 rfl rfl rfl (r_move hS294 rfl rfl) fun a296 hS296 => st_val hS296 rfl rfl rfl (r_extract hS296 rfl rfl rfl) fun a297 hS297 => st_val hS297 rfl rfl rfl (r_extract hS297 rfl rfl rfl) fun a298 hS298 => st_val hS298 rfl rfl rfl (r_assign hS298 rfl rfl) fun a299 hS299 => st_val hS299 rfl rfl rfl (r_assign hS299 rfl rfl) fun a300 hS300 => wpList_nil (hK _ _ ?_)
                  replace hS : Sl 176 _ [(2, .slice A2 p2.length cap2), (7, .slice A28 r26.length cap29), (8, .pointer (some ⟨b77, 0, none⟩)), (10, .pointer (some ⟨b82, 0, none⟩)), (14, .pointer (some ⟨b219, 0, none⟩)), (15, .pointer (some ⟨b229, 0, none⟩)), (16, .int .i64 m1_2), (18, .slice A269 r267.2.1.length cap270), (19, .int .i64 r267.2.2), (20, .slice A290 r288.2.1.length cap291), (21, .int .i64 r288.2.2)] := hS300.re ⟨rfl, rfl, rfl, rfl, rfl, rfl, rfl, rfl, rfl, rfl, rfl, trivial⟩
                  clear hK K
                  try clear hS280 hS281 hS282 hS283 hS284 hS285 hS286 hS287 hS294 hS296 hS297 hS298 hS299 hS300
                  obtain ⟨a, ha⟩ : ∃ a', a' = a300 := ⟨_, rfl⟩
                  rw [← ha] at hS ⊢; clear ha
                  obtain ⟨t313, ht314, H⟩ := bind_el H
                  refine c_region (fun K hK => ?_)
                  refine st_val hS rfl rfl rfl (r_move hS rfl rfl) fun a301 hS301 => st_val hS301 rfl rfl rfl (r_move hS301 rfl rfl) fun a302 hS302 => st_val hS302 rfl rfl rfl (r_bin hS302 rfl rfl rfl b_neq) fun a303 hS303 => st_val hS303 rfl rfl rfl (r_move hS303 rfl rfl) fun a304 hS304 => ?_
                  refine g_joinR 5 (fun a w315 => ∃ (g315 : Nat → Nat), Sl 176 a [(2, .slice A2 p2.length cap2), (7, .slice A28 r26.length cap29), (8, .pointer (some ⟨b77, 0, none⟩)), (10, .pointer (some ⟨b82, 0, none⟩)), (14, .pointer (some ⟨b219, 0, none⟩)), (15, .pointer (some ⟨b229, 0, none⟩)), (16, .int .i64 m1_2), (130, .bool t313)] ∧ Bx w315 g315 (N + 16) b219 70 [.slice A222 r267.1.list.length cap223, .int .u64 r267.1.now] ∧ OwS kd_rails_rail 75 w315 g315 (N + 16 + 1) A222 cap223 r267.1.list ∧ Bx w315 g315 (N + 19) b229 41 [.slice A232 r288.1.R.length cap233, .slice A236 r288.1.N.length cap237, .slice A240 r288.1.Done.length cap241, .int .u64 r288.1.Clock] ∧ OwS kd_api_Rail 35 w315 g315 (N + 19 + 1) A232 cap233 r288.1.R ∧ OwS (kint .i64) 3 w315 g315 (N + 19 + 3) A236 cap237 r288.1.N ∧ OwS (kint .u64) 33 w315 g315 (N + 19 + 5) A240 cap241 r288.1.Done ∧ OwS kd_api_Rail 35 w315 g315 (N + 0) A28 cap29 r26 ∧ OwS kd_api_Rail 35 w315 g315 (N + 5 + 1) A84 cap85 v93.2.2.1 ∧ OwS (kint .i64) 3 w315 g315 (N + 5 + 3) A87 cap88 v93.2.2.2.1 ∧ OwS (kint .u64) 33 w315 g315 (N + 5 + 5) A90 cap91 v93.2.2.2.2.1 ∧ OwS kd_rails_rail 75 w315 g315 (N + 2 + 1) A79 cap80 v93.1 ∧ Bx w315 g315 (N + 5) b82 41 [.slice A84 v93.2.2.1.length cap85, .slice A87 v93.2.2.2.1.length cap88, .slice A90 v93.2.2.2.2.1.length cap91, .int .u64 v93.2.2.2.2.2] ∧ Bx w315 g315 (N + 2) b77 70 [.slice A79 v93.1.length cap80, .int .u64 v93.2.1] ∧ RdS kd_law25_Call w315 g315 C2 A2 cap2 p2 ∧ Fr (fun q => N ≤ q) w g w315 g315) ?_ (fun hk => ?_)
                  rotate_left
                  · rcases Bool.eq_false_or_eq_true ((r267.2.2 != r288.2.2)) with hb305 | hb305
                    · have H := ite_t hb305 ht314
                      have e316 := Option.some.inj H
                      refine st_off hS304 (want_off hS304 rfl rfl rfl hb305) rfl rfl fun a317 hS317 => st_off hS317 (want_off hS317 rfl rfl rfl hb305) rfl rfl fun a318 hS318 => st_off hS318 (want_off hS318 rfl rfl rfl hb305) rfl rfl fun a319 hS319 => st_off hS319 (want_off hS319 rfl rfl rfl hb305) rfl rfl fun a320 hS320 => st_val hS320 rfl rfl rfl (r_pickT hS320 rfl rfl rfl hb305) fun a321 hS321 => hk _ _ ?_
                      exact ⟨g295, hS321.re ⟨rfl, rfl, rfl, rfl, rfl, rfl, rfl, (by rw [← e316]; rfl), trivial⟩, h220, h224, h230, h234, h238, h242, h30, h86, h89, h92, h81, h83, h78, hp2, hF⟩
                    · have H := ite_f hb305 ht314
                      obtain ⟨r324, hr325, H⟩ := bind_el H
                      have e329 := Option.some.inj H
                      refine st_valW hS304 (want_on hS304 rfl rfl rfl hb305) rfl rfl (r_move hS304 rfl rfl) fun a322 hS322 => st_valW hS322 (want_on hS322 rfl rfl rfl hb305) rfl rfl (r_move hS322 rfl rfl) fun a323 hS323 => ?_
                      refine st_enterW hS323 (want_on hS323 rfl rfl rfl hb305) rfl rfl (r_call hS323 rfl rfl (by kernel_rfl)) (help_Equal_api_RailOp.calls (C0 := (fun q => q = N + 26)) (C1 := (fun q => q = N + 28)) (p0 := r267.2.1) (p1 := r288.2.1) (g := g295) (N + 30)  (OwD.rdf (fun _ _ _ _ _ _ h => h) h271) (fun q (hq : q = N + 26) => by omega) (OwD.rdf (fun _ _ _ _ _ _ h => h) h292) (fun q (hq : q = N + 28) => by omega) hr325) ?_
                      rintro _ a326 w327 ⟨g327, rfl, F327⟩ hS326
                      replace h220 := h220.fr F327 (fun (hm : N + 30 ≤ N + 16) => by omega)
                      replace h224 := OwS.fr h224 F327 (fun c' hc (hm : N + 30 ≤ c') => by omega)
                      replace h230 := h230.fr F327 (fun (hm : N + 30 ≤ N + 19) => by omega)
                      replace h234 := OwS.fr h234 F327 (fun c' hc (hm : N + 30 ≤ c') => by omega)
                      replace h238 := OwS.fr h238 F327 (fun c' hc (hm : N + 30 ≤ c') => by omega)
                      replace h242 := OwS.fr h242 F327 (fun c' hc (hm : N + 30 ≤ c') => by omega)
                      replace h271 := OwS.fr h271 F327 (fun c' hc (hm : N + 30 ≤ c') => by omega)
                      replace h292 := OwS.fr h292 F327 (fun c' hc (hm : N + 30 ≤ c') => by omega)
                      replace h30 := OwS.fr h30 F327 (fun c' hc (hm : N + 30 ≤ c') => by omega)
                      replace h86 := OwS.fr h86 F327 (fun c' hc (hm : N + 30 ≤ c') => by omega)
                      replace h89 := OwS.fr h89 F327 (fun c' hc (hm : N + 30 ≤ c') => by omega)
                      replace h92 := OwS.fr h92 F327 (fun c' hc (hm : N + 30 ≤ c') => by omega)
                      replace h81 := OwS.fr h81 F327 (fun c' hc (hm : N + 30 ≤ c') => by omega)
                      replace h83 := h83.fr F327 (fun (hm : N + 30 ≤ N + 5) => by omega)
                      replace h78 := h78.fr F327 (fun (hm : N + 30 ≤ N + 2) => by omega)
                      replace hp2 := RdS.fr hp2 F327 (by decide) (fun q (hq : C2 q) (hm : N + 30 ≤ q) => by have := hC2 q hq; omega)
                      replace hF := hF.trans F327 (fun c' (hm : N + 30 ≤ c') => by show N ≤ c'; omega)
                      refine st_valW hS326 (want_on hS326 rfl rfl rfl hb305) rfl rfl (r_not hS326 rfl rfl) fun a328 hS328 => ?_
                      refine st_val hS328 rfl rfl rfl (r_pickF hS328 rfl rfl rfl hb305) fun a330 hS330 => hk _ _ ?_
                      exact ⟨g327, hS330.re ⟨rfl, rfl, rfl, rfl, rfl, rfl, rfl, (by rw [← e329]; rfl), trivial⟩, h220, h224, h230, h234, h238, h242, h30, h86, h89, h92, h81, h83, h78, hp2, hF⟩
                  rintro a331 w315 ⟨g315, hS331, h220, h224, h230, h234, h238, h242, h30, h86, h89, h92, h81, h83, h78, hp2, hF⟩
                  refine wpList_nil (hK _ _ ?_)
                  replace hS : Sl 176 _ [(2, .slice A2 p2.length cap2), (7, .slice A28 r26.length cap29), (8, .pointer (some ⟨b77, 0, none⟩)), (10, .pointer (some ⟨b82, 0, none⟩)), (14, .pointer (some ⟨b219, 0, none⟩)), (15, .pointer (some ⟨b229, 0, none⟩)), (16, .int .i64 m1_2), (130, .bool t313)] := hS331.re ⟨rfl, rfl, rfl, rfl, rfl, rfl, rfl, rfl, trivial⟩
                  clear hK K
                  try clear hS301 hS302 hS303 hS304 hS331
                  obtain ⟨a, ha⟩ : ∃ a', a' = a331 := ⟨_, rfl⟩
                  rw [← ha] at hS ⊢; clear ha
                  refine c_cond hS rfl (fun hb332 => ?_) (fun hb332 => ?_)
                  · replace H := ite_t hb332 H
                    refine c_pure [(6, .bool false)] (fun R hR => st_val hS rfl rfl rfl (r_assign hS rfl rfl) fun a333 hS333 => wpList_nil (hR _ (hS333.re ⟨rfl, trivial⟩))) ?_
                    clear hS
                    clear a
                    intro a hS
                    refine wp_ret ?_
                    have e := Option.some.inj H
                    subst e
                    replace H := Fl.go_out Hl215
                    have e := Option.some.inj H
                    subst e
                    repeat (with_reducible first | refine then_ret ?_ | refine inBlock_ret ?_)
                    exact c_ret1 hS Try.results10 rfl ⟨_, rfl, g315, rfl, hF⟩
                  · replace H := ite_f hb332 H
                    refine wp_skip ?_
                    change Code.wp _ _ _ _ _
                    refine c_pure1 [(2, .slice A2 p2.length cap2), (7, .slice A28 r26.length cap29), (8, .pointer (some ⟨b77, 0, none⟩)), (10, .pointer (some ⟨b82, 0, none⟩)), (14, .pointer (some ⟨b219, 0, none⟩)), (15, .pointer (some ⟨b229, 0, none⟩)), (16, .int .i64 (wi (m1_2 + 1)))] (fun R hR => st_val hS rfl rfl rfl (r_move hS rfl rfl) fun a334 hS334 => st_val hS334 rfl rfl rfl (r_bin hS334 rfl rfl rfl b_add) fun a335 hS335 => st_val hS335 rfl rfl rfl (r_assign hS335 rfl rfl) fun a336 hS336 => wpList_nil (hR _ (hS336.re ⟨rfl, rfl, rfl, rfl, rfl, rfl, rfl, trivial⟩))) ?_
                    clear hS
                    clear a
                    intro a hS
                    refine ⟨k246, Nat.lt_succ_self _, ?_⟩
                    exact ⟨r267.1, r288.1, wi (m1_2 + 1), g315, H, hS.re ⟨rfl, rfl, rfl, rfl, rfl, rfl, rfl, trivial⟩, h220, h224, h230, h234, h238, h242, h30, h86, h89, h92, h81, h83, h78, hp2, hF⟩
                · replace H := ite_f hb251 H
                  refine wp_exit ?_
                  have e := Option.some.inj H
                  exact ⟨(m1_0.list, m1_0.now, m1_1.R, m1_1.N, m1_1.Done, m1_1.Clock), g245, b219, A222, cap223, b229, A232, cap233, A236, cap237, A240, cap241, e.symm, hS.re ⟨rfl, rfl, rfl, rfl, rfl, trivial⟩, h30, h224, h234, h238, h242, h220, h230, h86, h89, h92, h81, h83, h78, hF⟩
          · clear H
            clear hp2 h30 h81 h78 h86 h89 h92 h83 h178 h186 hF
            clear hS
            rintro a w196 ⟨v213, g196, b197, A199, cap200, b202, A204, cap205, A207, cap208, A210, cap211, hpre0, hS, h30, h201, h206, h209, h212, h198, h203, h86, h89, h92, h81, h83, h78, hF⟩
            subst hpre0
            have H := Fl.go_nxt Hl215
            clear Hl215
            obtain ⟨o339, H, Hl340⟩ := bind_el H
            refine c_cut (fun a w337 => ∃ (g337 : Nat → Nat), o339 = .nxt () ∧ Sl 176 a [] ∧ Fr (fun q => N ≤ q) w g w337 g337) ?_ ?_
            · refine c_pure [(7, .slice A28 r26.length cap29), (8, .pointer (some ⟨b77, 0, none⟩)), (10, .pointer (some ⟨b82, 0, none⟩)), (14, .pointer (some ⟨b197, 0, none⟩)), (15, .pointer (some ⟨b202, 0, none⟩)), (22, .int .i64 0)] (fun R hR => st_val hS rfl rfl rfl (r_assign hS rfl rfl) fun a341 hS341 => wpList_nil (hR _ (hS341.re ⟨rfl, rfl, rfl, rfl, rfl, rfl, trivial⟩))) ?_
              clear hS
              clear a
              intro a hS
              refine wp_block ?_
              refine wp_loop_ghost (fun kq => fun a w342 => ∃ (m2_0 : Int), ∃ (g342 : Nat → Nat), law25_RailsCopiesAreIndependent.l2 r26 v93 v213 kq m2_0 = some o339 ∧ Sl 176 a [(7, .slice A28 r26.length cap29), (8, .pointer (some ⟨b77, 0, none⟩)), (10, .pointer (some ⟨b82, 0, none⟩)), (14, .pointer (some ⟨b197, 0, none⟩)), (15, .pointer (some ⟨b202, 0, none⟩)), (22, .int .i64 m2_0)] ∧ OwS kd_api_Rail 35 w342 g342 (N + 0) A28 cap29 r26 ∧ OwS kd_rails_rail 75 w342 g342 (N + 16 + 1) A199 cap200 v213.1 ∧ OwS kd_api_Rail 35 w342 g342 (N + 19 + 1) A204 cap205 v213.2.2.1 ∧ OwS (kint .i64) 3 w342 g342 (N + 19 + 3) A207 cap208 v213.2.2.2.1 ∧ OwS (kint .u64) 33 w342 g342 (N + 19 + 5) A210 cap211 v213.2.2.2.2.1 ∧ Bx w342 g342 (N + 16) b197 70 [.slice A199 v213.1.length cap200, .int .u64 v213.2.1] ∧ Bx w342 g342 (N + 19) b202 41 [.slice A204 v213.2.2.1.length cap205, .slice A207 v213.2.2.2.1.length cap208, .slice A210 v213.2.2.2.2.1.length cap211, .int .u64 v213.2.2.2.2.2] ∧ OwS kd_api_Rail 35 w342 g342 (N + 5 + 1) A84 cap85 v93.2.2.1 ∧ OwS (kint .i64) 3 w342 g342 (N + 5 + 3) A87 cap88 v93.2.2.2.1 ∧ OwS (kint .u64) 33 w342 g342 (N + 5 + 5) A90 cap91 v93.2.2.2.2.1 ∧ OwS kd_rails_rail 75 w342 g342 (N + 2 + 1) A79 cap80 v93.1 ∧ Bx w342 g342 (N + 5) b82 41 [.slice A84 v93.2.2.1.length cap85, .slice A87 v93.2.2.2.1.length cap88, .slice A90 v93.2.2.2.2.1.length cap91, .int .u64 v93.2.2.2.2.2] ∧ Bx w342 g342 (N + 2) b77 70 [.slice A79 v93.1.length cap80, .int .u64 v93.2.1] ∧ Fr (fun q => N ≤ q) w g w342 g342) FUEL ?_ ?_
              · exact ⟨0, g196, H, hS.re ⟨rfl, rfl, rfl, rfl, rfl, rfl, trivial⟩, h30, h201, h206, h209, h212, h198, h203, h86, h89, h92, h81, h83, h78, hF⟩
              · clear H
                clear h30 h81 h78 h86 h89 h92 h83 h201 h198 h206 h209 h212 h203 hF
                clear hS
                rintro k343 a w342 ⟨m2_0, g342, hpre0, hS, h30, h201, h206, h209, h212, h198, h203, h86, h89, h92, h81, h83, h78, hF⟩
                have H := hpre0
                clear hpre0
                cases k343 with
                | zero => exact absurd H (by simp [law25_RailsCopiesAreIndependent.l2])
                | succ k343 =>
                  rw [law25_RailsCopiesAreIndependent.l2] at H
                  refine wp_seq ?_
                  refine c_pure [(7, .slice A28 r26.length cap29), (8, .pointer (some ⟨b77, 0, none⟩)), (10, .pointer (some ⟨b82, 0, none⟩)), (14, .pointer (some ⟨b197, 0, none⟩)), (15, .pointer (some ⟨b202, 0, none⟩)), (22, .int .i64 m2_0), (134, .bool (decide (m2_0 < (r26.length : Int))))] (fun R hR => st_val hS rfl rfl rfl (r_move hS rfl rfl) fun a344 hS344 => st_val hS344 rfl rfl rfl (r_move hS344 rfl rfl) fun a345 hS345 => st_val hS345 rfl rfl rfl (r_len (e := 35) (sz := 3) (by_ := 24) hS345 rfl rfl (by kernel_rfl)) fun a346 hS346 => st_val hS346 rfl rfl rfl (r_bin hS346 rfl rfl rfl b_lss) fun a347 hS347 => wpList_nil (hR _ (hS347.re ⟨rfl, rfl, rfl, rfl, rfl, rfl, rfl, trivial⟩))) ?_
                  clear hS
                  clear a
                  intro a hS
                  refine c_cond hS rfl (fun hb348 => ?_) (fun hb348 => ?_)
                  · replace H := ite_t hb348 H
                    refine wp_skip ?_
                    change Code.wp _ _ _ _ _
                    refine wp_seq ?_
                    refine wp_block ?_
                    obtain ⟨r351, hr352, H⟩ := bind_el H
                    refine c_region (fun K hK => ?_)
                    refine st_val hS rfl rfl rfl (r_move hS rfl rfl) fun a349 hS349 => st_val hS349 rfl rfl rfl (r_move hS349 rfl rfl) fun a350 hS350 => ?_
                    refine st_enter hS350 rfl rfl rfl (r_call hS350 rfl rfl (by kernel_rfl)) (rails_Rails_ReadyAt.calls (c0 := N + 2) (b_p0 := b77) (A_list_p0 := A79) (cap_list_p0 := cap80) (p0 := (rails_Rails.mk v93.1 v93.2.1)) (p1 := m2_0) (g := g342) (N + 30)  ⟨h78, h81⟩ (by omega) hr352) ?_
                    rintro _ a353 w354 ⟨g354, rfl, F354⟩ hS353
                    replace h30 := OwS.fr h30 F354 (fun c' hc (hm : N + 30 ≤ c') => by omega)
                    replace h201 := OwS.fr h201 F354 (fun c' hc (hm : N + 30 ≤ c') => by omega)
                    replace h206 := OwS.fr h206 F354 (fun c' hc (hm : N + 30 ≤ c') => by omega)
                    replace h209 := OwS.fr h209 F354 (fun c' hc (hm : N + 30 ≤ c') => by omega)
                    replace h212 := OwS.fr h212 F354 (fun c' hc (hm : N + 30 ≤ c') => by omega)
                    replace h198 := h198.fr F354 (fun (hm : N + 30 ≤ N + 16) => by omega)
                    replace h203 := h203.fr F354 (fun (hm : N + 30 ≤ N + 19) => by omega)
                    replace h86 := OwS.fr h86 F354 (fun c' hc (hm : N + 30 ≤ c') => by omega)
                    replace h89 := OwS.fr h89 F354 (fun c' hc (hm : N + 30 ≤ c') => by omega)
                    replace h92 := OwS.fr h92 F354 (fun c' hc (hm : N + 30 ≤ c') => by omega)
                    replace h81 := OwS.fr h81 F354 (fun c' hc (hm : N + 30 ≤ c') => by omega)
                    replace h83 := h83.fr F354 (fun (hm : N + 30 ≤ N + 5) => by omega)
                    replace h78 := h78.fr F354 (fun (hm : N + 30 ≤ N + 2) => by omega)
                    replace hF := hF.trans F354 (fun c' (hm : N + 30 ≤ c') => by show N ≤ c'; omega)
                    refine st_val hS353 rfl rfl rfl (r_move hS353 rfl rfl) fun a355 hS355 => st_val hS355 rfl rfl rfl (r_extract hS355 rfl rfl rfl) fun a356 hS356 => st_val hS356 rfl rfl rfl (r_extract hS356 rfl rfl rfl) fun a357 hS357 => st_val hS357 rfl rfl rfl (r_assign hS357 rfl rfl) fun a358 hS358 => st_val hS358 rfl rfl rfl (r_assign hS358 rfl rfl) fun a359 hS359 => wpList_nil (hK _ _ ?_)
                    replace hS : Sl 176 _ [(7, .slice A28 r26.length cap29), (8, .pointer (some ⟨b77, 0, none⟩)), (10, .pointer (some ⟨b82, 0, none⟩)), (14, .pointer (some ⟨b197, 0, none⟩)), (15, .pointer (some ⟨b202, 0, none⟩)), (22, .int .i64 m2_0), (23, .int .u64 r351.1), (24, .bool r351.2)] := hS359.re ⟨rfl, rfl, rfl, rfl, rfl, rfl, rfl, rfl, trivial⟩
                    clear hK K
                    try clear hS349 hS350 hS353 hS355 hS356 hS357 hS358 hS359
                    obtain ⟨a, ha⟩ : ∃ a', a' = a359 := ⟨_, rfl⟩
                    rw [← ha] at hS ⊢; clear ha
                    obtain ⟨r362, hr363, H⟩ := bind_el H
                    refine c_region (fun K hK => ?_)
                    refine st_val hS rfl rfl rfl (r_move hS rfl rfl) fun a360 hS360 => st_val hS360 rfl rfl rfl (r_move hS360 rfl rfl) fun a361 hS361 => ?_
                    refine st_enter hS361 rfl rfl rfl (r_call hS361 rfl rfl (by kernel_rfl)) (ref25_Rails_ReadyAt.calls (c0 := N + 5) (b_p0 := b82) (A_R_p0 := A84) (cap_R_p0 := cap85) (A_N_p0 := A87) (cap_N_p0 := cap88) (A_Done_p0 := A90) (cap_Done_p0 := cap91) (p0 := (ref25_Rails.mk v93.2.2.1 v93.2.2.2.1 v93.2.2.2.2.1 v93.2.2.2.2.2)) (p1 := m2_0) (g := g354) (N + 30)  ⟨h83, h86, h89, h92⟩ (by omega) hr363) ?_
                    rintro _ a364 w365 ⟨g365, rfl, F365⟩ hS364
                    replace h30 := OwS.fr h30 F365 (fun c' hc (hm : N + 30 ≤ c') => by omega)
                    replace h201 := OwS.fr h201 F365 (fun c' hc (hm : N + 30 ≤ c') => by omega)
                    replace h206 := OwS.fr h206 F365 (fun c' hc (hm : N + 30 ≤ c') => by omega)
                    replace h209 := OwS.fr h209 F365 (fun c' hc (hm : N + 30 ≤ c') => by omega)
                    replace h212 := OwS.fr h212 F365 (fun c' hc (hm : N + 30 ≤ c') => by omega)
                    replace h198 := h198.fr F365 (fun (hm : N + 30 ≤ N + 16) => by omega)
                    replace h203 := h203.fr F365 (fun (hm : N + 30 ≤ N + 19) => by omega)
                    replace h86 := OwS.fr h86 F365 (fun c' hc (hm : N + 30 ≤ c') => by omega)
                    replace h89 := OwS.fr h89 F365 (fun c' hc (hm : N + 30 ≤ c') => by omega)
                    replace h92 := OwS.fr h92 F365 (fun c' hc (hm : N + 30 ≤ c') => by omega)
                    replace h81 := OwS.fr h81 F365 (fun c' hc (hm : N + 30 ≤ c') => by omega)
                    replace h83 := h83.fr F365 (fun (hm : N + 30 ≤ N + 5) => by omega)
                    replace h78 := h78.fr F365 (fun (hm : N + 30 ≤ N + 2) => by omega)
                    replace hF := hF.trans F365 (fun c' (hm : N + 30 ≤ c') => by show N ≤ c'; omega)
                    refine st_val hS364 rfl rfl rfl (r_move hS364 rfl rfl) fun a366 hS366 => st_val hS366 rfl rfl rfl (r_extract hS366 rfl rfl rfl) fun a367 hS367 => st_val hS367 rfl rfl rfl (r_extract hS367 rfl rfl rfl) fun a368 hS368 => st_val hS368 rfl rfl rfl (r_assign hS368 rfl rfl) fun a369 hS369 => st_val hS369 rfl rfl rfl (r_assign hS369 rfl rfl) fun a370 hS370 => wpList_nil (hK _ _ ?_)
                    replace hS : Sl 176 _ [(7, .slice A28 r26.length cap29), (8, .pointer (some ⟨b77, 0, none⟩)), (10, .pointer (some ⟨b82, 0, none⟩)), (14, .pointer (some ⟨b197, 0, none⟩)), (15, .pointer (some ⟨b202, 0, none⟩)), (22, .int .i64 m2_0), (23, .int .u64 r351.1), (24, .bool r351.2), (25, .int .u64 r362.1), (26, .bool r362.2)] := hS370.re ⟨rfl, rfl, rfl, rfl, rfl, rfl, rfl, rfl, rfl, rfl, trivial⟩
                    clear hK K
                    try clear hS360 hS361 hS364 hS366 hS367 hS368 hS369 hS370
                    obtain ⟨a, ha⟩ : ∃ a', a' = a370 := ⟨_, rfl⟩
                    rw [← ha] at hS ⊢; clear ha
                    obtain ⟨t403, ht404, H⟩ := bind_el H
                    obtain ⟨t446, ht447, H⟩ := bind_el H
                    refine c_region (fun K hK => ?_)
                    refine st_val hS rfl rfl rfl (r_move hS rfl rfl) fun a371 hS371 => st_val hS371 rfl rfl rfl (r_move hS371 rfl rfl) fun a372 hS372 => st_val hS372 rfl rfl rfl (r_bin hS372 rfl rfl rfl b_neq) fun a373 hS373 => st_val hS373 rfl rfl rfl (r_move hS373 rfl rfl) fun a374 hS374 => ?_
                    refine g_join (N := 176) 4 [(7, .slice A28 r26.length cap29), (8, .pointer (some ⟨b77, 0, none⟩)), (10, .pointer (some ⟨b82, 0, none⟩)), (14, .pointer (some ⟨b197, 0, none⟩)), (15, .pointer (some ⟨b202, 0, none⟩)), (22, .int .i64 m2_0), (156, .bool ((r351.1 != r362.1) || (!(r351.2 == r362.2))))] ?_ (fun hk => ?_)
                    rotate_left
                    · rcases Bool.eq_false_or_eq_true ((r351.1 != r362.1)) with hb375 | hb375
                      · refine st_off hS374 (want_off hS374 rfl rfl rfl hb375) rfl rfl fun a379 hS379 => st_off hS379 (want_off hS379 rfl rfl rfl hb375) rfl rfl fun a380 hS380 => st_off hS380 (want_off hS380 rfl rfl rfl hb375) rfl rfl fun a381 hS381 => st_val hS381 rfl rfl rfl (r_pickT hS381 rfl rfl rfl hb375) fun a382 hS382 => hk _ (hS382.re ⟨rfl, rfl, rfl, rfl, rfl, rfl, (by rw [hb375]; rfl), trivial⟩)
                      · refine st_valW hS374 (want_on hS374 rfl rfl rfl hb375) rfl rfl (r_move hS374 rfl rfl) fun a383 hS383 => st_valW hS383 (want_on hS383 rfl rfl rfl hb375) rfl rfl (r_move hS383 rfl rfl) fun a384 hS384 => st_valW hS384 (want_on hS384 rfl rfl rfl hb375) rfl rfl (r_binB hS384 rfl rfl rfl (b_neqB (by kernel_rfl))) fun a385 hS385 => st_val hS385 rfl rfl rfl (r_pickF hS385 rfl rfl rfl hb375) fun a386 hS386 => hk _ (hS386.re ⟨rfl, rfl, rfl, rfl, rfl, rfl, (by rw [hb375]; rfl), trivial⟩)
                    intro a387 hS387
                    refine st_val hS387 rfl rfl rfl (r_move hS387 rfl rfl) fun a388 hS388 => ?_
                    refine g_joinR 8 (fun a w405 => ∃ (g405 : Nat → Nat), Sl 176 a [(7, .slice A28 r26.length cap29), (8, .pointer (some ⟨b77, 0, none⟩)), (10, .pointer (some ⟨b82, 0, none⟩)), (14, .pointer (some ⟨b197, 0, none⟩)), (15, .pointer (some ⟨b202, 0, none⟩)), (22, .int .i64 m2_0), (165, .bool t403)] ∧ OwS kd_api_Rail 35 w405 g405 (N + 0) A28 cap29 r26 ∧ OwS kd_rails_rail 75 w405 g405 (N + 16 + 1) A199 cap200 v213.1 ∧ OwS kd_api_Rail 35 w405 g405 (N + 19 + 1) A204 cap205 v213.2.2.1 ∧ OwS (kint .i64) 3 w405 g405 (N + 19 + 3) A207 cap208 v213.2.2.2.1 ∧ OwS (kint .u64) 33 w405 g405 (N + 19 + 5) A210 cap211 v213.2.2.2.2.1 ∧ Bx w405 g405 (N + 16) b197 70 [.slice A199 v213.1.length cap200, .int .u64 v213.2.1] ∧ Bx w405 g405 (N + 19) b202 41 [.slice A204 v213.2.2.1.length cap205, .slice A207 v213.2.2.2.1.length cap208, .slice A210 v213.2.2.2.2.1.length cap211, .int .u64 v213.2.2.2.2.2] ∧ OwS kd_api_Rail 35 w405 g405 (N + 5 + 1) A84 cap85 v93.2.2.1 ∧ OwS (kint .i64) 3 w405 g405 (N + 5 + 3) A87 cap88 v93.2.2.2.1 ∧ OwS (kint .u64) 33 w405 g405 (N + 5 + 5) A90 cap91 v93.2.2.2.2.1 ∧ OwS kd_rails_rail 75 w405 g405 (N + 2 + 1) A79 cap80 v93.1 ∧ Bx w405 g405 (N + 5) b82 41 [.slice A84 v93.2.2.1.length cap85, .slice A87 v93.2.2.2.1.length cap88, .slice A90 v93.2.2.2.2.1.length cap91, .int .u64 v93.2.2.2.2.2] ∧ Bx w405 g405 (N + 2) b77 70 [.slice A79 v93.1.length cap80, .int .u64 v93.2.1] ∧ Fr (fun q => N ≤ q) w g w405 g405) ?_ (fun hk => ?_)
                    rotate_left
                    · rcases Bool.eq_false_or_eq_true (((r351.1 != r362.1) || (!(r351.2 == r362.2)))) with hb389 | hb389
                      · have H := ite_t hb389 ht404
                        have e406 := Option.some.inj H
                        refine st_off hS388 (want_off hS388 rfl rfl rfl hb389) rfl rfl fun a407 hS407 => st_off hS407 (want_off hS407 rfl rfl rfl hb389) rfl rfl fun a408 hS408 => st_off hS408 (want_off hS408 rfl rfl rfl hb389) rfl rfl fun a409 hS409 => st_off hS409 (want_off hS409 rfl rfl rfl hb389) rfl rfl fun a410 hS410 => st_off hS410 (want_off hS410 rfl rfl rfl hb389) rfl rfl fun a411 hS411 => st_off hS411 (want_off hS411 rfl rfl rfl hb389) rfl rfl fun a412 hS412 => st_off hS412 (want_off hS412 rfl rfl rfl hb389) rfl rfl fun a413 hS413 => st_val hS413 rfl rfl rfl (r_pickT hS413 rfl rfl rfl hb389) fun a414 hS414 => hk _ _ ?_
                        exact ⟨g365, hS414.re ⟨rfl, rfl, rfl, rfl, rfl, rfl, (by rw [← e406]; rfl), trivial⟩, h30, h201, h206, h209, h212, h198, h203, h86, h89, h92, h81, h83, h78, hF⟩
                      · have H := ite_f hb389 ht404
                        obtain ⟨r417, hr418, H⟩ := bind_el H
                        obtain ⟨r423, hr424, H⟩ := bind_el H
                        have e428 := Option.some.inj H
                        refine st_valW hS388 (want_on hS388 rfl rfl rfl hb389) rfl rfl (r_move hS388 rfl rfl) fun a415 hS415 => st_valW hS415 (want_on hS415 rfl rfl rfl hb389) rfl rfl (r_move hS415 rfl rfl) fun a416 hS416 => ?_
                        refine st_enterW hS416 (want_on hS416 rfl rfl rfl hb389) rfl rfl (r_call hS416 rfl rfl (by kernel_rfl)) (rails_Rails_Count.calls (c0 := N + 2) (b_p0 := b77) (A_list_p0 := A79) (cap_list_p0 := cap80) (p0 := (rails_Rails.mk v93.1 v93.2.1)) (p1 := m2_0) (g := g365) (N + 30)  ⟨h78, h81⟩ (by omega) hr418) ?_
                        rintro _ a419 w420 ⟨g420, rfl, F420⟩ hS419
                        replace h30 := OwS.fr h30 F420 (fun c' hc (hm : N + 30 ≤ c') => by omega)
                        replace h201 := OwS.fr h201 F420 (fun c' hc (hm : N + 30 ≤ c') => by omega)
                        replace h206 := OwS.fr h206 F420 (fun c' hc (hm : N + 30 ≤ c') => by omega)
                        replace h209 := OwS.fr h209 F420 (fun c' hc (hm : N + 30 ≤ c') => by omega)
                        replace h212 := OwS.fr h212 F420 (fun c' hc (hm : N + 30 ≤ c') => by omega)
                        replace h198 := h198.fr F420 (fun (hm : N + 30 ≤ N + 16) => by omega)
                        replace h203 := h203.fr F420 (fun (hm : N + 30 ≤ N + 19) => by omega)
                        replace h86 := OwS.fr h86 F420 (fun c' hc (hm : N + 30 ≤ c') => by omega)
                        replace h89 := OwS.fr h89 F420 (fun c' hc (hm : N + 30 ≤ c') => by omega)
                        replace h92 := OwS.fr h92 F420 (fun c' hc (hm : N + 30 ≤ c') => by omega)
                        replace h81 := OwS.fr h81 F420 (fun c' hc (hm : N + 30 ≤ c') => by omega)
                        replace h83 := h83.fr F420 (fun (hm : N + 30 ≤ N + 5) => by omega)
                        replace h78 := h78.fr F420 (fun (hm : N + 30 ≤ N + 2) => by omega)
                        replace hF := hF.trans F420 (fun c' (hm : N + 30 ≤ c') => by show N ≤ c'; omega)
                        refine st_valW hS419 (want_on hS419 rfl rfl rfl hb389) rfl rfl (r_move hS419 rfl rfl) fun a421 hS421 => st_valW hS421 (want_on hS421 rfl rfl rfl hb389) rfl rfl (r_move hS421 rfl rfl) fun a422 hS422 => ?_
                        refine st_enterW hS422 (want_on hS422 rfl rfl rfl hb389) rfl rfl (r_call hS422 rfl rfl (by kernel_rfl)) (ref25_Rails_Count.calls (c0 := N + 5) (b_p0 := b82) (A_R_p0 := A84) (cap_R_p0 := cap85) (A_N_p0 := A87) (cap_N_p0 := cap88) (A_Done_p0 := A90) (cap_Done_p0 := cap91) (p0 := (ref25_Rails.mk v93.2.2.1 v93.2.2.2.1 v93.2.2.2.2.1 v93.2.2.2.2.2)) (p1 := m2_0) (g := g420) (N + 30)  ⟨h83, h86, h89, h92⟩ (by omega) hr424) ?_
                        rintro _ a425 w426 ⟨g426, rfl, F426⟩ hS425
                        replace h30 := OwS.fr h30 F426 (fun c' hc (hm : N + 30 ≤ c') => by omega)
                        replace h201 := OwS.fr h201 F426 (fun c' hc (hm : N + 30 ≤ c') => by omega)
                        replace h206 := OwS.fr h206 F426 (fun c' hc (hm : N + 30 ≤ c') => by omega)
                        replace h209 := OwS.fr h209 F426 (fun c' hc (hm : N + 30 ≤ c') => by omega)
                        replace h212 := OwS.fr h212 F426 (fun c' hc (hm : N + 30 ≤ c') => by omega)
                        replace h198 := h198.fr F426 (fun (hm : N + 30 ≤ N + 16) => by omega)
                        replace h203 := h203.fr F426 (fun (hm : N + 30 ≤ N + 19) => by omega)
                        replace h86 := OwS.fr h86 F426 (fun c' hc (hm : N + 30 ≤ c') => by omega)
                        replace h89 := OwS.fr h89 F426 (fun c' hc (hm : N + 30 ≤ c') => by omega)
                        replace h92 := OwS.fr h92 F426 (fun c' hc (hm : N + 30 ≤ c') => by omega)
                        replace h81 := OwS.fr h81 F426 (fun c' hc (hm : N + 30 ≤ c') => by omega)
                        replace h83 := h83.fr F426 (fun (hm : N + 30 ≤ N + 5) => by omega)
                        replace h78 := h78.fr F426 (fun (hm : N + 30 ≤ N + 2) => by omega)
                        replace hF := hF.trans F426 (fun c' (hm : N + 30 ≤ c') => by show N ≤ c'; omega)
                        refine st_valW hS425 (want_on hS425 rfl rfl rfl hb389) rfl rfl (r_bin hS425 rfl rfl rfl b_neq) fun a427 hS427 => ?_
                        refine st_val hS427 rfl rfl rfl (r_pickF hS427 rfl rfl rfl hb389) fun a429 hS429 => hk _ _ ?_
                        exact ⟨g426, hS429.re ⟨rfl, rfl, rfl, rfl, rfl, rfl, (by rw [← e428]; rfl), trivial⟩, h30, h201, h206, h209, h212, h198, h203, h86, h89, h92, h81, h83, h78, hF⟩
                    rintro a430 w405 ⟨g405, hS430, h30, h201, h206, h209, h212, h198, h203, h86, h89, h92, h81, h83, h78, hF⟩
                    refine st_val hS430 rfl rfl rfl (r_move hS430 rfl rfl) fun a431 hS431 => ?_
                    refine g_joinR 8 (fun a w448 => ∃ (g448 : Nat → Nat), Sl 176 a [(7, .slice A28 r26.length cap29), (8, .pointer (some ⟨b77, 0, none⟩)), (10, .pointer (some ⟨b82, 0, none⟩)), (14, .pointer (some ⟨b197, 0, none⟩)), (15, .pointer (some ⟨b202, 0, none⟩)), (22, .int .i64 m2_0), (174, .bool t446)] ∧ OwS kd_api_Rail 35 w448 g448 (N + 0) A28 cap29 r26 ∧ OwS kd_rails_rail 75 w448 g448 (N + 16 + 1) A199 cap200 v213.1 ∧ OwS kd_api_Rail 35 w448 g448 (N + 19 + 1) A204 cap205 v213.2.2.1 ∧ OwS (kint .i64) 3 w448 g448 (N + 19 + 3) A207 cap208 v213.2.2.2.1 ∧ OwS (kint .u64) 33 w448 g448 (N + 19 + 5) A210 cap211 v213.2.2.2.2.1 ∧ Bx w448 g448 (N + 16) b197 70 [.slice A199 v213.1.length cap200, .int .u64 v213.2.1] ∧ Bx w448 g448 (N + 19) b202 41 [.slice A204 v213.2.2.1.length cap205, .slice A207 v213.2.2.2.1.length cap208, .slice A210 v213.2.2.2.2.1.length cap211, .int .u64 v213.2.2.2.2.2] ∧ OwS kd_api_Rail 35 w448 g448 (N + 5 + 1) A84 cap85 v93.2.2.1 ∧ OwS (kint .i64) 3 w448 g448 (N + 5 + 3) A87 cap88 v93.2.2.2.1 ∧ OwS (kint .u64) 33 w448 g448 (N + 5 + 5) A90 cap91 v93.2.2.2.2.1 ∧ OwS kd_rails_rail 75 w448 g448 (N + 2 + 1) A79 cap80 v93.1 ∧ Bx w448 g448 (N + 5) b82 41 [.slice A84 v93.2.2.1.length cap85, .slice A87 v93.2.2.2.1.length cap88, .slice A90 v93.2.2.2.2.1.length cap91, .int .u64 v93.2.2.2.2.2] ∧ Bx w448 g448 (N + 2) b77 70 [.slice A79 v93.1.length cap80, .int .u64 v93.2.1] ∧ Fr (fun q => N ≤ q) w g w448 g448) ?_ (fun hk => ?_)
                    rotate_left
                    · rcases Bool.eq_false_or_eq_true (t403) with hb432 | hb432
                      · have H := ite_t hb432 ht447
                        have e449 := Option.some.inj H
                        refine st_off hS431 (want_off hS431 rfl rfl rfl hb432) rfl rfl fun a450 hS450 => st_off hS450 (want_off hS450 rfl rfl rfl hb432) rfl rfl fun a451 hS451 => st_off hS451 (want_off hS451 rfl rfl rfl hb432) rfl rfl fun a452 hS452 => st_off hS452 (want_off hS452 rfl rfl rfl hb432) rfl rfl fun a453 hS453 => st_off hS453 (want_off hS453 rfl rfl rfl hb432) rfl rfl fun a454 hS454 => st_off hS454 (want_off hS454 rfl rfl rfl hb432) rfl rfl fun a455 hS455 => st_off hS455 (want_off hS455 rfl rfl rfl hb432) rfl rfl fun a456 hS456 => st_val hS456 rfl rfl rfl (r_pickT hS456 rfl rfl rfl hb432) fun a457 hS457 => hk _ _ ?_
                        exact ⟨g405, hS457.re ⟨rfl, rfl, rfl, rfl, rfl, rfl, (by rw [← e449]; rfl), trivial⟩, h30, h201, h206, h209, h212, h198, h203, h86, h89, h92, h81, h83, h78, hF⟩
                      · have H := ite_f hb432 ht447
                        obtain ⟨r460, hr461, H⟩ := bind_el H
                        obtain ⟨r466, hr467, H⟩ := bind_el H
                        have e471 := Option.some.inj H
                        refine st_valW hS431 (want_on hS431 rfl rfl rfl hb432) rfl rfl (r_move hS431 rfl rfl) fun a458 hS458 => st_valW hS458 (want_on hS458 rfl rfl rfl hb432) rfl rfl (r_move hS458 rfl rfl) fun a459 hS459 => ?_
                        refine st_enterW hS459 (want_on hS459 rfl rfl rfl hb432) rfl rfl (r_call hS459 rfl rfl (by kernel_rfl)) (rails_Rails_Count.calls (c0 := N + 16) (b_p0 := b197) (A_list_p0 := A199) (cap_list_p0 := cap200) (p0 := (rails_Rails.mk v213.1 v213.2.1)) (p1 := m2_0) (g := g405) (N + 30)  ⟨h198, h201⟩ (by omega) hr461) ?_
                        rintro _ a462 w463 ⟨g463, rfl, F463⟩ hS462
                        replace h30 := OwS.fr h30 F463 (fun c' hc (hm : N + 30 ≤ c') => by omega)
                        replace h201 := OwS.fr h201 F463 (fun c' hc (hm : N + 30 ≤ c') => by omega)
                        replace h206 := OwS.fr h206 F463 (fun c' hc (hm : N + 30 ≤ c') => by omega)
                        replace h209 := OwS.fr h209 F463 (fun c' hc (hm : N + 30 ≤ c') => by omega)
                        replace h212 := OwS.fr h212 F463 (fun c' hc (hm : N + 30 ≤ c') => by omega)
                        replace h198 := h198.fr F463 (fun (hm : N + 30 ≤ N + 16) => by omega)
                        replace h203 := h203.fr F463 (fun (hm : N + 30 ≤ N + 19) => by omega)
                        replace h86 := OwS.fr h86 F463 (fun c' hc (hm : N + 30 ≤ c') => by omega)
                        replace h89 := OwS.fr h89 F463 (fun c' hc (hm : N + 30 ≤ c') => by omega)
                        replace h92 := OwS.fr h92 F463 (fun c' hc (hm : N + 30 ≤ c') => by omega)
                        replace h81 := OwS.fr h81 F463 (fun c' hc (hm : N + 30 ≤ c') => by omega)
                        replace h83 := h83.fr F463 (fun (hm : N + 30 ≤ N + 5) => by omega)
                        replace h78 := h78.fr F463 (fun (hm : N + 30 ≤ N + 2) => by omega)
                        replace hF := hF.trans F463 (fun c' (hm : N + 30 ≤ c') => by show N ≤ c'; omega)
                        refine st_valW hS462 (want_on hS462 rfl rfl rfl hb432) rfl rfl (r_move hS462 rfl rfl) fun a464 hS464 => st_valW hS464 (want_on hS464 rfl rfl rfl hb432) rfl rfl (r_move hS464 rfl rfl) fun a465 hS465 => ?_
                        refine st_enterW hS465 (want_on hS465 rfl rfl rfl hb432) rfl rfl (r_call hS465 rfl rfl (by kernel_rfl)) (ref25_Rails_Count.calls (c0 := N + 19) (b_p0 := b202) (A_R_p0 := A204) (cap_R_p0 := cap205) (A_N_p0 := A207) (cap_N_p0 := cap208) (A_Done_p0 := A210) (cap_Done_p0 := cap211) (p0 := (ref25_Rails.mk v213.2.2.1 v213.2.2.2.1 v213.2.2.2.2.1 v213.2.2.2.2.2)) (p1 := m2_0) (g := g463) (N + 30)  ⟨h203, h206, h209, h212⟩ (by omega) hr467) ?_
                        rintro _ a468 w469 ⟨g469, rfl, F469⟩ hS468
                        replace h30 := OwS.fr h30 F469 (fun c' hc (hm : N + 30 ≤ c') => by omega)
                        replace h201 := OwS.fr h201 F469 (fun c' hc (hm : N + 30 ≤ c') => by omega)
                        replace h206 := OwS.fr h206 F469 (fun c' hc (hm : N + 30 ≤ c') => by omega)
                        replace h209 := OwS.fr h209 F469 (fun c' hc (hm : N + 30 ≤ c') => by omega)
                        replace h212 := OwS.fr h212 F469 (fun c' hc (hm : N + 30 ≤ c') => by omega)
                        replace h198 := h198.fr F469 (fun (hm : N + 30 ≤ N + 16) => by omega)
                        replace h203 := h203.fr F469 (fun (hm : N + 30 ≤ N + 19) => by omega)
                        replace h86 := OwS.fr h86 F469 (fun c' hc (hm : N + 30 ≤ c') => by omega)
                        replace h89 := OwS.fr h89 F469 (fun c' hc (hm : N + 30 ≤ c') => by omega)
                        replace h92 := OwS.fr h92 F469 (fun c' hc (hm : N + 30 ≤ c') => by omega)
                        replace h81 := OwS.fr h81 F469 (fun c' hc (hm : N + 30 ≤ c') => by omega)
                        replace h83 := h83.fr F469 (fun (hm : N + 30 ≤ N + 5) => by omega)
                        replace h78 := h78.fr F469 (fun (hm : N + 30 ≤ N + 2) => by omega)
                        replace hF := hF.trans F469 (fun c' (hm : N + 30 ≤ c') => by show N ≤ c'; omega)
                        refine st_valW hS468 (want_on hS468 rfl rfl rfl hb432) rfl rfl (r_bin hS468 rfl rfl rfl b_neq) fun a470 hS470 => ?_
                        refine st_val hS470 rfl rfl rfl (r_pickF hS470 rfl rfl rfl hb432) fun a472 hS472 => hk _ _ ?_
                        exact ⟨g469, hS472.re ⟨rfl, rfl, rfl, rfl, rfl, rfl, (by rw [← e471]; rfl), trivial⟩, h30, h201, h206, h209, h212, h198, h203, h86, h89, h92, h81, h83, h78, hF⟩
                    rintro a473 w448 ⟨g448, hS473, h30, h201, h206, h209, h212, h198, h203, h86, h89, h92, h81, h83, h78, hF⟩
                    refine wpList_nil (hK _ _ ?_)
                    replace hS : Sl 176 _ [(7, .slice A28 r26.length cap29), (8, .pointer (some ⟨b77, 0, none⟩)), (10, .pointer (some ⟨b82, 0, none⟩)), (14, .pointer (some ⟨b197, 0, none⟩)), (15, .pointer (some ⟨b202, 0, none⟩)), (22, .int .i64 m2_0), (174, .bool t446)] := hS473.re ⟨rfl, rfl, rfl, rfl, rfl, rfl, rfl, trivial⟩
                    clear hK K
                    try clear hS371 hS372 hS373 hS374 hS387 hS388 hS430 hS431 hS473
                    obtain ⟨a, ha⟩ : ∃ a', a' = a473 := ⟨_, rfl⟩
                    rw [← ha] at hS ⊢; clear ha
                    refine c_cond hS rfl (fun hb474 => ?_) (fun hb474 => ?_)
                    · replace H := ite_t hb474 H
                      refine c_pure [(6, .bool false)] (fun R hR => st_val hS rfl rfl rfl (r_assign hS rfl rfl) fun a475 hS475 => wpList_nil (hR _ (hS475.re ⟨rfl, trivial⟩))) ?_
                      clear hS
                      clear a
                      intro a hS
                      refine wp_ret ?_
                      have e := Option.some.inj H
                      subst e
                      replace H := Fl.go_out Hl340
                      have e := Option.some.inj H
                      subst e
                      repeat (with_reducible first | refine then_ret ?_ | refine inBlock_ret ?_)
                      exact c_ret1 hS Try.results10 rfl ⟨_, rfl, g448, rfl, hF⟩
                    · replace H := ite_f hb474 H
                      refine wp_skip ?_
                      change Code.wp _ _ _ _ _
                      refine c_pure1 [(7, .slice A28 r26.length cap29), (8, .pointer (some ⟨b77, 0, none⟩)), (10, .pointer (some ⟨b82, 0, none⟩)), (14, .pointer (some ⟨b197, 0, none⟩)), (15, .pointer (some ⟨b202, 0, none⟩)), (22, .int .i64 (wi (m2_0 + 1)))] (fun R hR => st_val hS rfl rfl rfl (r_move hS rfl rfl) fun a476 hS476 => st_val hS476 rfl rfl rfl (r_bin hS476 rfl rfl rfl b_add) fun a477 hS477 => st_val hS477 rfl rfl rfl (r_assign hS477 rfl rfl) fun a478 hS478 => wpList_nil (hR _ (hS478.re ⟨rfl, rfl, rfl, rfl, rfl, rfl, trivial⟩))) ?_
                      clear hS
                      clear a
                      intro a hS
                      refine ⟨k343, Nat.lt_succ_self _, ?_⟩
                      exact ⟨wi (m2_0 + 1), g448, H, hS.re ⟨rfl, rfl, rfl, rfl, rfl, rfl, trivial⟩, h30, h201, h206, h209, h212, h198, h203, h86, h89, h92, h81, h83, h78, hF⟩
                  · replace H := ite_f hb348 H
                    refine wp_exit ?_
                    have e := Option.some.inj H
                    exact ⟨g342, e.symm, hS.re trivial, hF⟩
            · clear H
              clear h30 h81 h78 h86 h89 h92 h83 h201 h198 h206 h209 h212 h203 hF
              clear hS
              rintro a w337 ⟨g337, hpre0, hS, hF⟩
              subst hpre0
              have H := Fl.go_nxt Hl340
              clear Hl340
              obtain ⟨r479, hr480, H⟩ := bind_el H
              refine c_region (fun K hK => ?_)
              refine st_enter hS rfl rfl rfl (r_call hS rfl rfl (by kernel_rfl)) (law25_awake.calls (g := g337) (N + 30)   hr480) ?_
              rintro _ a481 w482 ⟨g482, rfl, F482⟩ hS481
              replace hF := hF.trans F482 (fun c' (hm : N + 30 ≤ c') => by show N ≤ c'; omega)
              refine st_val hS481 rfl rfl rfl (r_assign hS481 rfl rfl) fun a483 hS483 => wpList_nil (hK _ _ ?_)
              replace hS : Sl 176 _ [(6, .bool r479)] := hS483.re ⟨rfl, trivial⟩
              clear hK K
              try clear hS481 hS483
              obtain ⟨a, ha⟩ : ∃ a', a' = a483 := ⟨_, rfl⟩
              rw [← ha] at hS ⊢; clear ha
              refine wp_ret ?_
              have e := Option.some.inj H
              subst e
              repeat (with_reducible first | refine then_ret ?_ | refine inBlock_ret ?_)
              exact c_ret1 hS Try.results10 rfl ⟨_, rfl, g482, rfl, hF⟩

/-- What is left of law25_RailsCopiesAreIndependent: about plain values alone. -/
def law25_RailsCopiesAreIndependent.Pure : Prop := ∀ (p0 : List api_Rail) (p1 : List law25_Call) (p2 : List law25_Call), (p0.length ≤ maxLen ∧ ∀ p0' ∈ p0, Wf_api_Rail p0') → (p1.length ≤ maxLen ∧ ∀ p1' ∈ p1, Wf_law25_Call p1') → (p2.length ≤ maxLen ∧ ∀ p2' ∈ p2, Wf_law25_Call p2') → law25_RailsCopiesAreIndependent.f p0 p1 p2 = some true

end Go.Proofs.Ytfiodhdldleocaa.Sim
