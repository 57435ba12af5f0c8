/-
  Printed by a program of this session (wip/tools): plain functions with the same answers as the Go functions, and the proofs of it.
-/
import Derived.Test.YtfiodhdldleocaaFn
import Derived.Test.YtfiodhdldleocaaOp
namespace Go.Proofs.Ytfiodhdldleocaa.Sim
open Go
set_option linter.unusedVariables false
set_option linter.unusedSimpArgs false

/-! ### law25_RailsCallsAgree: function 4 -/
def law25_RailsCallsAgree.l1 (p2 : Int) (r12 : (List api_Rail)) (r132 : rails_Rails × (List api_RailOp) × Int) (r153 : ref25_Rails × (List api_RailOp) × Int) : Nat → Int → Option (Fl (Fl (Bool) (Unit)) (rails_Rails × ref25_Rails))
  | 0, _ => none
  | k201 + 1, m1_0 => if decide (m1_0 ≤ (r12.length : Int)) = true then ((rails_Rails_ReadyAt.f r132.1 m1_0).bind fun r209 => (ref25_Rails_ReadyAt.f r153.1 m1_0).bind fun r220 => (if ((r209.1 != r220.1) || (!(r209.2 == r220.2))) = true then some true else (rails_Rails_Count.f r132.1 m1_0).bind fun r258 => (ref25_Rails_Count.f r153.1 m1_0).bind fun r264 => some (r258 != r264)).bind fun t269 => (if t269 = true then some true else (rails_Rails_Powered.f r132.1 m1_0 (wu (r153.1.Clock + (Int.tmod p2 60)))).bind fun r302 => (ref25_Rails_Powered.f r153.1 m1_0 (wu (r153.1.Clock + (Int.tmod p2 60)))).bind fun r309 => some (!(r302 == r309))).bind fun t314 => if t314 = true then (some (.out (.out false))) else (law25_RailsCallsAgree.l1 p2 r12 r132 r153 k201 (wi (m1_0 + 1)))) else (some (.nxt (r132.1, r153.1)))
def law25_RailsCallsAgree.l0 (p1 : List law25_Call) (p2 : Int) (r12 : (List api_Rail)) : Nat → rails_Rails → ref25_Rails → Int → Option (Fl (Bool) (Unit))
  | 0, _, _, _ => none
  | k107 + 1, m0_0, m0_1, m0_2 => if decide (m0_2 < (p1.length : Int)) = true then (((idx p1 m0_2).bind fun x125 => (law25_do.f m0_0 x125 (r12.length : Int) m0_1.Clock).bind fun r132 => (law25_want.f m0_1 x125 (r12.length : Int) m0_1.Clock).bind fun r153 => (if (r132.2.2 != r153.2.2) = true then some true else (help_Equal_api_RailOp.f r132.2.1 r153.2.1).bind fun r173 => some (!r173)).bind fun t178 => if t178 = true then (some (.out (.out false))) else (law25_RailsCallsAgree.l1 p2 r12 r132 r153 FUEL (-1)) : Option (Fl (Fl (Bool) (Unit)) (rails_Rails × ref25_Rails))).bind fun o115 => o115.go fun v114 => law25_RailsCallsAgree.l0 p1 p2 r12 k107 v114.1 v114.2 (wi (m0_2 + 1))) else (some (.nxt ()))
def law25_RailsCallsAgree.f (p0 : List api_Rail) (p1 : List law25_Call) (p2 : Int) : Option (Bool) := if decide (40 < (p1.length : Int)) = true then ((law25_awake.f ).bind fun r6 => some r6) else ((law25_Some.f p0).bind fun r12 => (rails_New.f r12).bind fun r22 => (ref25_New.f r12).bind fun r35 => if (((r22.2 != 0) || (r35.2 != 0)) || r22.1.isNone) = true then (some false) else (((r22.1).bind fun st78 => (r35.1).bind fun st88 => law25_RailsCallsAgree.l0 p1 p2 r12 FUEL st78 st88 0 : Option (Fl (Bool) (Unit))).bind fun o75 => o75.go fun _ => (law25_awake.f ).bind fun r354 => some r354))
set_option maxRecDepth 100000 in
set_option maxHeartbeats 4000000 in
theorem law25_RailsCallsAgree.calls {p0 : List api_Rail} {A0 : Option Addr} {cap0 : Nat} {C0 : Nat → Prop} {p1 : List law25_Call} {A1 : Option Addr} {cap1 : Nat} {C1 : Nat → Prop} {p2 : Int} {w : World} {g : Nat → Nat} {out : Bool} (N : Nat) (hp0 : RdS kd_api_Rail w g C0 A0 cap0 p0) (hC0 : ∀ c, C0 c → c < N) (hp1 : RdS kd_law25_Call w g C1 A1 cap1 p1) (hC1 : ∀ c, C1 c → c < N) (H : law25_RailsCallsAgree.f p0 p1 p2 = some out) :
    Calls Try.prog 4 #[.slice A0 p0.length cap0, .slice A1 p1.length cap1, .int .u64 p2] w (fun e w' => ∃ v, e = .returned v ∧ ∃ (g' : Nat → Nat), v = .bool out ∧ Fr (fun q => N ≤ q) w g w' g') := by
  unfold law25_RailsCallsAgree.f at H
  refine calls_enter Try.func4 rfl Try.ntmps4 rfl (fun a hS => ?_)
  replace hS : Sl 147 a [(0, .slice A0 p0.length cap0), (1, .slice A1 p1.length cap1), (2, .int .u64 p2)] := hS
  have hF : Fr (fun q => N ≤ q) w g w g := Fr.refl _ _ _
  refine c_pure [(0, .slice A0 p0.length cap0), (1, .slice A1 p1.length cap1), (2, .int .u64 p2)] (fun R hR => st_val hS rfl rfl rfl (r_assign hS rfl rfl) fun a1 hS1 => wpList_nil (hR _ (hS1.re ⟨rfl, rfl, rfl, trivial⟩))) ?_
  clear hS
  clear a
  intro a hS
  refine wp_seq ?_
  refine c_pure [(0, .slice A0 p0.length cap0), (1, .slice A1 p1.length cap1), (2, .int .u64 p2), (26, .bool (decide (40 < (p1.length : Int))))] (fun R hR => st_val hS rfl rfl rfl (r_move hS rfl rfl) fun a2 hS2 => st_val hS2 rfl rfl rfl (r_len (e := 46) (sz := 4) (by_ := 32) hS2 rfl rfl (by kernel_rfl)) fun a3 hS3 => st_val hS3 rfl rfl rfl (r_bin hS3 rfl rfl rfl b_gtr) fun a4 hS4 => wpList_nil (hR _ (hS4.re ⟨rfl, rfl, rfl, rfl, trivial⟩))) ?_
  clear hS
  clear a
  intro a hS
  refine c_cond hS rfl (fun hb5 => ?_) (fun hb5 => ?_)
  · replace H := ite_t hb5 H
    obtain ⟨r6, hr7, H⟩ := bind_el H
    refine c_region (fun K hK => ?_)
    refine st_enter hS rfl rfl rfl (r_call hS rfl rfl (by kernel_rfl)) (law25_awake.calls (g := g) (N + 16)   hr7) ?_
    rintro _ a8 w9 ⟨g9, rfl, F9⟩ hS8
    replace hp0 := RdS.fr hp0 F9 (by decide) (fun q (hq : C0 q) (hm : N + 16 ≤ q) => by have := hC0 q hq; omega)
    replace hp1 := RdS.fr hp1 F9 (by decide) (fun q (hq : C1 q) (hm : N + 16 ≤ q) => by have := hC1 q hq; omega)
    replace hF := hF.trans F9 (fun c' (hm : N + 16 ≤ c') => by show N ≤ c'; omega)
    refine st_val hS8 rfl rfl rfl (r_assign hS8 rfl rfl) fun a10 hS10 => wpList_nil (hK _ _ ?_)
    replace hS : Sl 147 _ [(6, .bool r6)] := hS10.re ⟨rfl, trivial⟩
    clear hK K
    try clear hS8 hS10
    obtain ⟨a, ha⟩ : ∃ a', a' = a10 := ⟨_, rfl⟩
    rw [← ha] at hS ⊢; clear ha
    refine wp_ret ?_
    have e := Option.some.inj H
    subst e
    repeat (with_reducible first | refine then_ret ?_ | refine inBlock_ret ?_)
    exact c_ret1 hS Try.results4 rfl ⟨_, rfl, g9, rfl, hF⟩
  · replace H := ite_f hb5 H
    refine wp_skip ?_
    change Code.wp _ _ _ _ _
    obtain ⟨r12, hr13, H⟩ := bind_el H
    refine c_region (fun K hK => ?_)
    refine st_val hS rfl rfl rfl (r_move hS rfl rfl) fun a11 hS11 => ?_
    refine st_enter hS11 rfl rfl rfl (r_call hS11 rfl rfl (by kernel_rfl)) (law25_Some.calls (C0 := C0) (p0 := p0) (g := g) (N + 16) (N + 0) hp0 (fun q (hq : C0 q) => by have := hC0 q hq; omega) (by omega) hr13) ?_
    rintro _ a18 w19 ⟨g19, A14, cap15, rfl, h16, F19⟩ hS18
    replace hp0 := RdS.fr hp0 F19 (by decide) (fun q (hq : C0 q) (hm : (N + 0 ≤ q ∧ q < N + 0 + 2) ∨ N + 16 ≤ q) => by have := hC0 q hq; omega)
    replace hp1 := RdS.fr hp1 F19 (by decide) (fun q (hq : C1 q) (hm : (N + 0 ≤ q ∧ q < N + 0 + 2) ∨ N + 16 ≤ q) => by have := hC1 q hq; omega)
    replace hF := hF.trans F19 (fun c' (hm : (N + 0 ≤ c' ∧ c' < N + 0 + 2) ∨ N + 16 ≤ c') => by show N ≤ c'; omega)
    refine st_val hS18 rfl rfl rfl (r_assign hS18 rfl rfl) fun a20 hS20 => wpList_nil (hK _ _ ?_)
    replace hS : Sl 147 _ [(1, .slice A1 p1.length cap1), (2, .int .u64 p2), (7, .slice A14 r12.length cap15)] := hS20.re ⟨rfl, rfl, rfl, trivial⟩
    clear hK K
    try clear hS11 hS18 hS20
    obtain ⟨a, ha⟩ : ∃ a', a' = a20 := ⟨_, rfl⟩
    rw [← ha] at hS ⊢; clear ha
    obtain ⟨r22, hr23, H⟩ := bind_el H
    refine c_region (fun K hK => ?_)
    refine st_val hS rfl rfl rfl (r_move hS rfl rfl) fun a21 hS21 => ?_
    refine st_enter hS21 rfl rfl rfl (r_call hS21 rfl rfl (by kernel_rfl)) (rails_New.calls (C0 := (fun q => q = N + 0)) (p0 := r12) (g := g19) (N + 16) (N + 2) (OwD.rdf (fun _ _ _ _ _ _ h => h) h16) (fun q (hq : q = N + 0) => by omega) (by omega) hr23) ?_
    rintro _ a27 w28 ⟨g28, p24, rfl, h25, F28⟩ hS27
    replace h16 := OwS.fr h16 F28 (fun c' hc (hm : (N + 2 ≤ c' ∧ c' < N + 2 + 3) ∨ N + 16 ≤ c') => by omega)
    replace hp1 := RdS.fr hp1 F28 (by decide) (fun q (hq : C1 q) (hm : (N + 2 ≤ q ∧ q < N + 2 + 3) ∨ N + 16 ≤ q) => by have := hC1 q hq; omega)
    replace hF := hF.trans F28 (fun c' (hm : (N + 2 ≤ c' ∧ c' < N + 2 + 3) ∨ N + 16 ≤ c') => by show N ≤ c'; omega)
    refine st_val hS27 rfl rfl rfl (r_move hS27 rfl rfl) fun a29 hS29 => st_val hS29 rfl rfl rfl (r_extract hS29 rfl rfl rfl) fun a30 hS30 => st_val hS30 rfl rfl rfl (r_extract hS30 rfl rfl rfl) fun a31 hS31 => st_val hS31 rfl rfl rfl (r_assign hS31 rfl rfl) fun a32 hS32 => st_val hS32 rfl rfl rfl (r_assign hS32 rfl rfl) fun a33 hS33 => wpList_nil (hK _ _ ?_)
    replace hS : Sl 147 _ [(1, .slice A1 p1.length cap1), (2, .int .u64 p2), (7, .slice A14 r12.length cap15), (8, .pointer p24), (9, .int .i64 r22.2)] := hS33.re ⟨rfl, rfl, rfl, rfl, rfl, trivial⟩
    clear hK K
    try clear hS21 hS27 hS29 hS30 hS31 hS32 hS33
    obtain ⟨a, ha⟩ : ∃ a', a' = a33 := ⟨_, rfl⟩
    rw [← ha] at hS ⊢; clear ha
    obtain ⟨r35, hr36, H⟩ := bind_el H
    refine c_region (fun K hK => ?_)
    refine st_val hS rfl rfl rfl (r_move hS rfl rfl) fun a34 hS34 => ?_
    refine st_enter hS34 rfl rfl rfl (r_call hS34 rfl rfl (by kernel_rfl)) (ref25_New.calls (C0 := (fun q => q = N + 0)) (p0 := r12) (g := g28) (N + 16) (N + 5) (OwD.rdf (fun _ _ _ _ _ _ h => h) h16) (fun q (hq : q = N + 0) => by omega) (by omega) hr36) ?_
    rintro _ a40 w41 ⟨g41, p37, rfl, h38, F41⟩ hS40
    replace h16 := OwS.fr h16 F41 (fun c' hc (hm : (N + 5 ≤ c' ∧ c' < N + 5 + 7) ∨ N + 16 ≤ c') => by omega)
    replace h25 := rails_Rails_Opt.fr h25 F41 (fun q hq1 hq2 (hm : (N + 5 ≤ q ∧ q < N + 5 + 7) ∨ N + 16 ≤ q) => by omega)
    replace hp1 := RdS.fr hp1 F41 (by decide) (fun q (hq : C1 q) (hm : (N + 5 ≤ q ∧ q < N + 5 + 7) ∨ N + 16 ≤ q) => by have := hC1 q hq; omega)
    replace hF := hF.trans F41 (fun c' (hm : (N + 5 ≤ c' ∧ c' < N + 5 + 7) ∨ N + 16 ≤ c') => by show N ≤ c'; omega)
    refine st_val hS40 rfl rfl rfl (r_move hS40 rfl rfl) fun a42 hS42 => st_val hS42 rfl rfl rfl (r_extract hS42 rfl rfl rfl) fun a43 hS43 => st_val hS43 rfl rfl rfl (r_extract hS43 rfl rfl rfl) fun a44 hS44 => st_val hS44 rfl rfl rfl (r_assign hS44 rfl rfl) fun a45 hS45 => st_val hS45 rfl rfl rfl (r_assign hS45 rfl rfl) fun a46 hS46 => wpList_nil (hK _ _ ?_)
    replace hS : Sl 147 _ [(1, .slice A1 p1.length cap1), (2, .int .u64 p2), (7, .slice A14 r12.length cap15), (8, .pointer p24), (9, .int .i64 r22.2), (10, .pointer p37), (11, .int .i64 r35.2)] := hS46.re ⟨rfl, rfl, rfl, rfl, rfl, rfl, rfl, trivial⟩
    clear hK K
    try clear hS34 hS40 hS42 hS43 hS44 hS45 hS46
    obtain ⟨a, ha⟩ : ∃ a', a' = a46 := ⟨_, rfl⟩
    rw [← ha] at hS ⊢; clear ha
    refine wp_seq ?_
    refine c_region (fun K hK => ?_)
    refine st_val hS rfl rfl rfl (r_move hS rfl rfl) fun a47 hS47 => st_val hS47 rfl rfl rfl (r_bin hS47 rfl rfl rfl b_neq) fun a48 hS48 => st_val hS48 rfl rfl rfl (r_move hS48 rfl rfl) fun a49 hS49 => ?_
    refine g_join (N := 147) 3 [(1, .slice A1 p1.length cap1), (2, .int .u64 p2), (7, .slice A14 r12.length cap15), (8, .pointer p24), (10, .pointer p37), (45, .bool ((r22.2 != 0) || (r35.2 != 0)))] ?_ (fun hk => ?_)
    rotate_left
    · rcases Bool.eq_false_or_eq_true ((r22.2 != 0)) with hb50 | hb50
      · refine st_off hS49 (want_off hS49 rfl rfl rfl hb50) rfl rfl fun a53 hS53 => st_off hS53 (want_off hS53 rfl rfl rfl hb50) rfl rfl fun a54 hS54 => st_val hS54 rfl rfl rfl (r_pickT hS54 rfl rfl rfl hb50) fun a55 hS55 => hk _ (hS55.re ⟨rfl, rfl, rfl, rfl, rfl, (by rw [hb50]; rfl), trivial⟩)
      · refine st_valW hS49 (want_on hS49 rfl rfl rfl hb50) rfl rfl (r_move hS49 rfl rfl) fun a56 hS56 => st_valW hS56 (want_on hS56 rfl rfl rfl hb50) rfl rfl (r_bin hS56 rfl rfl rfl b_neq) fun a57 hS57 => st_val hS57 rfl rfl rfl (r_pickF hS57 rfl rfl rfl hb50) fun a58 hS58 => hk _ (hS58.re ⟨rfl, rfl, rfl, rfl, rfl, (by rw [hb50]; rfl), trivial⟩)
    intro a59 hS59
    refine st_val hS59 rfl rfl rfl (r_move hS59 rfl rfl) fun a60 hS60 => ?_
    refine g_join (N := 147) 3 [(1, .slice A1 p1.length cap1), (2, .int .u64 p2), (7, .slice A14 r12.length cap15), (8, .pointer p24), (10, .pointer p37), (49, .bool (((r22.2 != 0) || (r35.2 != 0)) || r22.1.isNone))] ?_ (fun hk => ?_)
    rotate_left
    · rcases Bool.eq_false_or_eq_true (((r22.2 != 0) || (r35.2 != 0))) with hb61 | hb61
      · refine st_off hS60 (want_off hS60 rfl rfl rfl hb61) rfl rfl fun a64 hS64 => st_off hS64 (want_off hS64 rfl rfl rfl hb61) rfl rfl fun a65 hS65 => st_val hS65 rfl rfl rfl (r_pickT hS65 rfl rfl rfl hb61) fun a66 hS66 => hk _ (hS66.re ⟨rfl, rfl, rfl, rfl, rfl, (by rw [hb61]; rfl), trivial⟩)
      · refine st_valW hS60 (want_on hS60 rfl rfl rfl hb61) rfl rfl (r_move hS60 rfl rfl) fun a67 hS67 => st_valW hS67 (want_on hS67 rfl rfl rfl hb61) rfl rfl (r_optEq hS67 rfl rfl (by kernel_rfl) (rails_Rails_Opt.isNone h25)) fun a68 hS68 => st_val hS68 rfl rfl rfl (r_pickF hS68 rfl rfl rfl hb61) fun a69 hS69 => hk _ (hS69.re ⟨rfl, rfl, rfl, rfl, rfl, (by rw [hb61]; rfl), trivial⟩)
    intro a70 hS70
    refine wpList_nil (hK _ _ ?_)
    replace hS : Sl 147 _ [(1, .slice A1 p1.length cap1), (2, .int .u64 p2), (7, .slice A14 r12.length cap15), (8, .pointer p24), (10, .pointer p37), (49, .bool (((r22.2 != 0) || (r35.2 != 0)) || r22.1.isNone))] := hS70.re ⟨rfl, rfl, rfl, rfl, rfl, rfl, trivial⟩
    clear hK K
    try clear hS47 hS48 hS49 hS59 hS60 hS70
    obtain ⟨a, ha⟩ : ∃ a', a' = a70 := ⟨_, rfl⟩
    rw [← ha] at hS ⊢; clear ha
    refine c_cond hS rfl (fun hb71 => ?_) (fun hb71 => ?_)
    · replace H := ite_t hb71 H
      refine c_pure [(6, .bool false)] (fun R hR => st_val hS rfl rfl rfl (r_assign hS rfl rfl) fun a72 hS72 => wpList_nil (hR _ (hS72.re ⟨rfl, trivial⟩))) ?_
      clear hS
      clear a
      intro a hS
      refine wp_ret ?_
      have e := Option.some.inj H
      subst e
      repeat (with_reducible first | refine then_ret ?_ | refine inBlock_ret ?_)
      exact c_ret1 hS Try.results4 rfl ⟨_, rfl, g41, rfl, hF⟩
    · replace H := ite_f hb71 H
      refine wp_skip ?_
      change Code.wp _ _ _ _ _
      obtain ⟨o75, H, Hl76⟩ := bind_el H
      refine c_cut (fun a w73 => ∃ (g73 : Nat → Nat), o75 = .nxt () ∧ Sl 147 a [] ∧ Fr (fun q => N ≤ q) w g w73 g73) ?_ ?_
      · refine c_pure [(1, .slice A1 p1.length cap1), (2, .int .u64 p2), (7, .slice A14 r12.length cap15), (8, .pointer p24), (10, .pointer p37), (12, .int .i64 0)] (fun R hR => st_val hS rfl rfl rfl (r_assign hS rfl rfl) fun a77 hS77 => wpList_nil (hR _ (hS77.re ⟨rfl, rfl, rfl, rfl, rfl, rfl, trivial⟩))) ?_
        clear hS
        clear a
        intro a hS
        refine wp_block ?_
        obtain ⟨st78, hst79, H⟩ := bind_el H
        rw [hst79] at h25
        obtain ⟨b80, A83, cap84, hp87, h81, h85⟩ := h25
        subst hp87
        obtain ⟨st88, hst89, H⟩ := bind_el H
        rw [hst89] at h38
        obtain ⟨b90, A93, cap94, A97, cap98, A101, cap102, hp105, h91, h95, h99, h103⟩ := h38
        subst hp105
        refine wp_loop_ghost (fun kq => fun a w106 => ∃ (m0_0 : rails_Rails), ∃ (m0_1 : ref25_Rails), ∃ (m0_2 : Int), ∃ (g106 : Nat → Nat), law25_RailsCallsAgree.l0 p1 p2 r12 kq m0_0 m0_1 m0_2 = some o75 ∧ Sl 147 a [(1, .slice A1 p1.length cap1), (2, .int .u64 p2), (7, .slice A14 r12.length cap15), (8, .pointer (some ⟨b80, 0, none⟩)), (10, .pointer (some ⟨b90, 0, none⟩)), (12, .int .i64 m0_2)] ∧ OwS (kint .i64) 3 w106 g106 (N + 5 + 3) A97 cap98 m0_1.N ∧ OwS (kint .u64) 33 w106 g106 (N + 5 + 5) A101 cap102 m0_1.Done ∧ OwS kd_api_Rail 35 w106 g106 (N + 0) A14 cap15 r12 ∧ Bx w106 g106 (N + 2) b80 70 [.slice A83 m0_0.list.length cap84, .int .u64 m0_0.now] ∧ OwS kd_rails_rail 75 w106 g106 (N + 2 + 1) A83 cap84 m0_0.list ∧ Bx w106 g106 (N + 5) b90 41 [.slice A93 m0_1.R.length cap94, .slice A97 m0_1.N.length cap98, .slice A101 m0_1.Done.length cap102, .int .u64 m0_1.Clock] ∧ OwS kd_api_Rail 35 w106 g106 (N + 5 + 1) A93 cap94 m0_1.R ∧ RdS kd_law25_Call w106 g106 C1 A1 cap1 p1 ∧ Fr (fun q => N ≤ q) w g w106 g106) FUEL ?_ ?_
        · exact ⟨st78, st88, 0, g41, H, hS.re ⟨rfl, rfl, rfl, rfl, rfl, rfl, trivial⟩, h99, h103, h16, h81, h85, h91, h95, hp1, hF⟩
        · clear H
          clear hp1 h16 h85 h81 h95 h99 h103 h91 hF
          clear hS
          rintro k107 a w106 ⟨m0_0, m0_1, m0_2, g106, hpre0, hS, h99, h103, h16, h81, h85, h91, h95, hp1, hF⟩
          have H := hpre0
          clear hpre0
          cases k107 with
          | zero => exact absurd H (by simp [law25_RailsCallsAgree.l0])
          | succ k107 =>
            rw [law25_RailsCallsAgree.l0] at H
            refine wp_seq ?_
            refine c_pure [(1, .slice A1 p1.length cap1), (2, .int .u64 p2), (7, .slice A14 r12.length cap15), (8, .pointer (some ⟨b80, 0, none⟩)), (10, .pointer (some ⟨b90, 0, none⟩)), (12, .int .i64 m0_2), (53, .bool (decide (m0_2 < (p1.length : Int))))] (fun R hR => st_val hS rfl rfl rfl (r_move hS rfl rfl) fun a108 hS108 => st_val hS108 rfl rfl rfl (r_move hS108 rfl rfl) fun a109 hS109 => st_val hS109 rfl rfl rfl (r_len (e := 46) (sz := 4) (by_ := 32) hS109 rfl rfl (by kernel_rfl)) fun a110 hS110 => st_val hS110 rfl rfl rfl (r_bin hS110 rfl rfl rfl b_lss) fun a111 hS111 => wpList_nil (hR _ (hS111.re ⟨rfl, rfl, rfl, rfl, rfl, rfl, rfl, trivial⟩))) ?_
            clear hS
            clear a
            intro a hS
            refine c_cond hS rfl (fun hb112 => ?_) (fun hb112 => ?_)
            · replace H := ite_t hb112 H
              refine wp_skip ?_
              change Code.wp _ _ _ _ _
              obtain ⟨o115, H, Hl116⟩ := bind_el H
              refine c_cut (fun a w113 => ∃ (v114 : rails_Rails × ref25_Rails), ∃ (g113 : Nat → Nat), o115 = .nxt v114 ∧ Sl 147 a [(1, .slice A1 p1.length cap1), (2, .int .u64 p2), (7, .slice A14 r12.length cap15), (8, .pointer (some ⟨b80, 0, none⟩)), (10, .pointer (some ⟨b90, 0, none⟩)), (12, .int .i64 m0_2)] ∧ OwS (kint .i64) 3 w113 g113 (N + 5 + 3) A97 cap98 v114.2.N ∧ OwS (kint .u64) 33 w113 g113 (N + 5 + 5) A101 cap102 v114.2.Done ∧ OwS kd_api_Rail 35 w113 g113 (N + 0) A14 cap15 r12 ∧ Bx w113 g113 (N + 2) b80 70 [.slice A83 v114.1.list.length cap84, .int .u64 v114.1.now] ∧ OwS kd_rails_rail 75 w113 g113 (N + 2 + 1) A83 cap84 v114.1.list ∧ Bx w113 g113 (N + 5) b90 41 [.slice A93 v114.2.R.length cap94, .slice A97 v114.2.N.length cap98, .slice A101 v114.2.Done.length cap102, .int .u64 v114.2.Clock] ∧ OwS kd_api_Rail 35 w113 g113 (N + 5 + 1) A93 cap94 v114.2.R ∧ RdS kd_law25_Call w113 g113 C1 A1 cap1 p1 ∧ Fr (fun q => N ≤ q) w g w113 g113) ?_ ?_
              · refine wp_block ?_
                refine c_pure [(1, .slice A1 p1.length cap1), (2, .int .u64 p2), (7, .slice A14 r12.length cap15), (8, .pointer (some ⟨b80, 0, none⟩)), (10, .pointer (some ⟨b90, 0, none⟩)), (12, .int .i64 m0_2), (13, .int .u64 m0_1.Clock)] (fun R hR => st_val hS rfl rfl rfl (r_move hS rfl rfl) fun a117 hS117 => st_val hS117 rfl rfl rfl (r_nil hS117 rfl rfl) fun a118 hS118 => st_val hS118 rfl rfl rfl (r_fieldB (off := 3) hS118 rfl rfl (by kernel_rfl)) fun a119 hS119 => st_val hS119 rfl rfl rfl (r_load1 (n := 1) hS119 rfl rfl (by kernel_rfl) (Bx.cell h91 rfl)) fun a120 hS120 => st_val hS120 rfl rfl rfl (r_assign hS120 rfl rfl) fun a121 hS121 => wpList_nil (hR _ (hS121.re ⟨rfl, rfl, rfl, rfl, rfl, rfl, rfl, trivial⟩))) ?_
                clear hS
                clear a
                intro a hS
                obtain ⟨x125, hx126, H⟩ := bind_el H
                obtain ⟨r132, hr133, H⟩ := bind_el H
                refine c_region (fun K hK => ?_)
                refine st_val hS rfl rfl rfl (r_move hS rfl rfl) fun a122 hS122 => st_val hS122 rfl rfl rfl (r_move hS122 rfl rfl) fun a123 hS123 => st_val hS123 rfl rfl rfl (r_move hS123 rfl rfl) fun a124 hS124 => st_val hS124 rfl rfl rfl (r_index (e := 46) (sz := 4) (by_ := 32) hS124 rfl rfl rfl (by kernel_rfl) (RdS.some_ hp1 hx126) (idx_lo hx126) (idx_hi hx126)) fun a127 hS127 => st_val hS127 rfl rfl rfl (r_loadN (n := 4) (cs := [.bool x125.Release, .int .i64 x125.Rail, .int .u64 x125.Wait, .bool x125.Raw]) hS127 rfl rfl (by kernel_rfl) rfl (RdS.cells_off hp1 hx126 0 4)) fun a128 hS128 => st_val hS128 rfl rfl rfl (r_move hS128 rfl rfl) fun a129 hS129 => st_val hS129 rfl rfl rfl (r_len (e := 35) (sz := 3) (by_ := 24) hS129 rfl rfl (by kernel_rfl)) fun a130 hS130 => st_val hS130 rfl rfl rfl (r_move hS130 rfl rfl) fun a131 hS131 => ?_
                refine st_enter hS131 rfl rfl rfl (r_call hS131 rfl rfl (by kernel_rfl)) (law25_do.calls (c0 := N + 2) (b_p0 := b80) (A_list_p0 := A83) (cap_list_p0 := cap84) (p0 := m0_0) (p1 := x125) (p2 := (r12.length : Int)) (p3 := m0_1.Clock) (g := g106) (N + 16) (N + 12) ⟨h81, h85⟩ (by omega) (by omega) (by omega) hr133) ?_
                rintro _ a138 w139 ⟨g139, A134, cap135, rfl, ⟨h81, h85⟩, h136, F139⟩ hS138
                replace h99 := OwS.fr h99 F139 (fun c' hc (hm : (N + 2 ≤ c' ∧ c' < N + 2 + 3) ∨ (N + 12 ≤ c' ∧ c' < N + 12 + 2) ∨ N + 16 ≤ c') => by omega)
                replace h103 := OwS.fr h103 F139 (fun c' hc (hm : (N + 2 ≤ c' ∧ c' < N + 2 + 3) ∨ (N + 12 ≤ c' ∧ c' < N + 12 + 2) ∨ N + 16 ≤ c') => by omega)
                replace h16 := OwS.fr h16 F139 (fun c' hc (hm : (N + 2 ≤ c' ∧ c' < N + 2 + 3) ∨ (N + 12 ≤ c' ∧ c' < N + 12 + 2) ∨ N + 16 ≤ c') => by omega)
                replace h91 := h91.fr F139 (fun (hm : (N + 2 ≤ N + 5 ∧ N + 5 < N + 2 + 3) ∨ (N + 12 ≤ N + 5 ∧ N + 5 < N + 12 + 2) ∨ N + 16 ≤ N + 5) => by omega)
                replace h95 := OwS.fr h95 F139 (fun c' hc (hm : (N + 2 ≤ c' ∧ c' < N + 2 + 3) ∨ (N + 12 ≤ c' ∧ c' < N + 12 + 2) ∨ N + 16 ≤ c') => by omega)
                replace hp1 := RdS.fr hp1 F139 (by decide) (fun q (hq : C1 q) (hm : (N + 2 ≤ q ∧ q < N + 2 + 3) ∨ (N + 12 ≤ q ∧ q < N + 12 + 2) ∨ N + 16 ≤ q) => by have := hC1 q hq; omega)
                replace hF := hF.trans F139 (fun c' (hm : (N + 2 ≤ c' ∧ c' < N + 2 + 3) ∨ (N + 12 ≤ c' ∧ c' < N + 12 + 2) ∨ N + 16 ≤ c') => by show N ≤ c'; omega)
                refine st_val hS138 rfl rfl rfl (r_move hS138 rfl rfl) fun a140 hS140 => st_val hS140 rfl rfl rfl (r_extract hS140 rfl rfl rfl) fun a141 hS141 => st_val hS141 rfl rfl rfl (r_extract hS141 rfl rfl rfl) fun a142 hS142 => st_val hS142 rfl rfl rfl (r_assign hS142 rfl rfl) fun a143 hS143 => st_val hS143 rfl rfl rfl (r_assign hS143 rfl rfl) fun a144 hS144 => wpList_nil (hK _ _ ?_)
                replace hS : Sl 147 _ [(1, .slice A1 p1.length cap1), (2, .int .u64 p2), (7, .slice A14 r12.length cap15), (8, .pointer (some ⟨b80, 0, none⟩)), (10, .pointer (some ⟨b90, 0, none⟩)), (12, .int .i64 m0_2), (13, .int .u64 m0_1.Clock), (14, .slice A134 r132.2.1.length cap135), (15, .int .i64 r132.2.2)] := hS144.re ⟨rfl, rfl, rfl, rfl, rfl, rfl, rfl, rfl, rfl, trivial⟩
                clear hK K
                try clear hS122 hS123 hS124 hS127 hS128 hS129 hS130 hS131 hS138 hS140 hS141 hS142 hS143 hS144
                obtain ⟨a, ha⟩ : ∃ a', a' = a144 := ⟨_, rfl⟩
                rw [← ha] at hS ⊢; clear ha
                obtain ⟨r153, hr154, H⟩ := bind_el H
                refine c_region (fun K hK => ?_)
                refine st_val hS rfl rfl rfl (r_move hS rfl rfl) fun a145 hS145 => st_val hS145 rfl rfl rfl (r_move hS145 rfl rfl) fun a146 hS146 => st_val hS146 rfl rfl rfl (r_move hS146 rfl rfl) fun a147 hS147 => st_val hS147 rfl rfl rfl (r_index (e := 46) (sz := 4) (by_ := 32) hS147 rfl rfl rfl (by kernel_rfl) (RdS.some_ hp1 hx126) (idx_lo hx126) (idx_hi hx126)) fun a148 hS148 => st_val hS148 rfl rfl rfl (r_loadN (n := 4) (cs := [.bool x125.Release, .int .i64 x125.Rail, .int .u64 x125.Wait, .bool x125.Raw]) hS148 rfl rfl (by kernel_rfl) rfl (RdS.cells_off hp1 hx126 0 4)) fun a149 hS149 => st_val hS149 rfl rfl rfl (r_move hS149 rfl rfl) fun a150 hS150 => st_val hS150 rfl rfl rfl (r_len (e := 35) (sz := 3) (by_ := 24) hS150 rfl rfl (by kernel_rfl)) fun a151 hS151 => st_val hS151 rfl rfl rfl (r_move hS151 rfl rfl) fun a152 hS152 => ?_
                refine st_enter hS152 rfl rfl rfl (r_call hS152 rfl rfl (by kernel_rfl)) (law25_want.calls (c0 := N + 5) (b_p0 := b90) (A_R_p0 := A93) (cap_R_p0 := cap94) (A_N_p0 := A97) (cap_N_p0 := cap98) (A_Done_p0 := A101) (cap_Done_p0 := cap102) (p0 := m0_1) (p1 := x125) (p2 := (r12.length : Int)) (p3 := m0_1.Clock) (g := g139) (N + 16) (N + 14) ⟨h91, h95, h99, h103⟩ (by omega) (by omega) (by omega) hr154) ?_
                rintro _ a159 w160 ⟨g160, A155, cap156, rfl, ⟨h91, h95, h99, h103⟩, h157, F160⟩ hS159
                replace h136 := OwS.fr h136 F160 (fun c' hc (hm : (N + 5 ≤ c' ∧ c' < N + 5 + 7) ∨ (N + 14 ≤ c' ∧ c' < N + 14 + 2) ∨ N + 16 ≤ c') => by omega)
                replace h16 := OwS.fr h16 F160 (fun c' hc (hm : (N + 5 ≤ c' ∧ c' < N + 5 + 7) ∨ (N + 14 ≤ c' ∧ c' < N + 14 + 2) ∨ N + 16 ≤ c') => by omega)
                replace h81 := h81.fr F160 (fun (hm : (N + 5 ≤ N + 2 ∧ N + 2 < N + 5 + 7) ∨ (N + 14 ≤ N + 2 ∧ N + 2 < N + 14 + 2) ∨ N + 16 ≤ N + 2) => by omega)
                replace h85 := OwS.fr h85 F160 (fun c' hc (hm : (N + 5 ≤ c' ∧ c' < N + 5 + 7) ∨ (N + 14 ≤ c' ∧ c' < N + 14 + 2) ∨ N + 16 ≤ c') => by omega)
                replace hp1 := RdS.fr hp1 F160 (by decide) (fun q (hq : C1 q) (hm : (N + 5 ≤ q ∧ q < N + 5 + 7) ∨ (N + 14 ≤ q ∧ q < N + 14 + 2) ∨ N + 16 ≤ q) => by have := hC1 q hq; omega)
                replace hF := hF.trans F160 (fun c' (hm : (N + 5 ≤ c' ∧ c' < N + 5 + 7) ∨ (N + 14 ≤ c' ∧ c' < N + 14 + 2) ∨ N + 16 ≤ c') => by show N ≤ c'; omega)
                refine st_val hS159 rfl rfl rfl (r_move hS159 rfl rfl) fun a161 hS161 => st_val hS161 rfl rfl rfl (r_extract hS161 rfl rfl rfl) fun a162 hS162 => st_val hS162 rfl rfl rfl (r_extract hS162 rfl rfl rfl) fun a163 hS163 => st_val hS163 rfl rfl rfl (r_assign hS163 rfl rfl) fun a164 hS164 => st_val hS164 rfl rfl rfl (r_assign hS164 rfl rfl) fun a165 hS165 => wpList_nil (hK _ _ ?_)
                replace hS : Sl 147 _ [(1, .slice A1 p1.length cap1), (2, .int .u64 p2), (7, .slice A14 r12.length cap15), (8, .pointer (some ⟨b80, 0, none⟩)), (10, .pointer (some ⟨b90, 0, none⟩)), (12, .int .i64 m0_2), (14, .slice A134 r132.2.1.length cap135), (15, .int .i64 r132.2.2), (16, .slice A155 r153.2.1.length cap156), (17, .int .i64 r153.2.2)] := hS165.re ⟨rfl, rfl, rfl, rfl, rfl, rfl, rfl, rfl, rfl, rfl, trivial⟩
                clear hK K
                try clear hS145 hS146 hS147 hS148 hS149 hS150 hS151 hS152 hS159 hS161 hS162 hS163 hS164 hS165
                obtain ⟨a, ha⟩ : ∃ a', a' = a165 := ⟨_, rfl⟩
                rw [← ha] at hS ⊢; clear ha
                refine wp_seq ?_
                obtain ⟨t178, ht179, H⟩ := bind_el H
                refine c_region (fun K hK => ?_)
                refine st_val hS rfl rfl rfl (r_move hS rfl rfl) fun a166 hS166 => st_val hS166 rfl rfl rfl (r_move hS166 rfl rfl) fun a167 hS167 => st_val hS167 rfl rfl rfl (r_bin hS167 rfl rfl rfl b_neq) fun a168 hS168 => st_val hS168 rfl rfl rfl (r_move hS168 rfl rfl) fun a169 hS169 => ?_
                refine g_joinR 5 (fun a w180 => ∃ (g180 : Nat → Nat), Sl 147 a [(1, .slice A1 p1.length cap1), (2, .int .u64 p2), (7, .slice A14 r12.length cap15), (8, .pointer (some ⟨b80, 0, none⟩)), (10, .pointer (some ⟨b90, 0, none⟩)), (12, .int .i64 m0_2), (92, .bool t178)] ∧ OwS (kint .i64) 3 w180 g180 (N + 5 + 3) A97 cap98 r153.1.N ∧ OwS (kint .u64) 33 w180 g180 (N + 5 + 5) A101 cap102 r153.1.Done ∧ OwS kd_api_Rail 35 w180 g180 (N + 0) A14 cap15 r12 ∧ Bx w180 g180 (N + 2) b80 70 [.slice A83 r132.1.list.length cap84, .int .u64 r132.1.now] ∧ OwS kd_rails_rail 75 w180 g180 (N + 2 + 1) A83 cap84 r132.1.list ∧ Bx w180 g180 (N + 5) b90 41 [.slice A93 r153.1.R.length cap94, .slice A97 r153.1.N.length cap98, .slice A101 r153.1.Done.length cap102, .int .u64 r153.1.Clock] ∧ OwS kd_api_Rail 35 w180 g180 (N + 5 + 1) A93 cap94 r153.1.R ∧ RdS kd_law25_Call w180 g180 C1 A1 cap1 p1 ∧ Fr (fun q => N ≤ q) w g w180 g180) ?_ (fun hk => ?_)
                rotate_left
                · rcases Bool.eq_false_or_eq_true ((r132.2.2 != r153.2.2)) with hb170 | hb170
                  · have H := ite_t hb170 ht179
                    have e181 := Option.some.inj H
                    refine st_off hS169 (want_off hS169 rfl rfl rfl hb170) rfl rfl fun a182 hS182 => st_off hS182 (want_off hS182 rfl rfl rfl hb170) rfl rfl fun a183 hS183 => st_off hS183 (want_off hS183 rfl rfl rfl hb170) rfl rfl fun a184 hS184 => st_off hS184 (want_off hS184 rfl rfl rfl hb170) rfl rfl fun a185 hS185 => st_val hS185 rfl rfl rfl (r_pickT hS185 rfl rfl rfl hb170) fun a186 hS186 => hk _ _ ?_
                    exact ⟨g160, hS186.re ⟨rfl, rfl, rfl, rfl, rfl, rfl, (by rw [← e181]; rfl), trivial⟩, h99, h103, h16, h81, h85, h91, h95, hp1, hF⟩
                  · have H := ite_f hb170 ht179
                    obtain ⟨r189, hr190, H⟩ := bind_el H
                    have e194 := Option.some.inj H
                    refine st_valW hS169 (want_on hS169 rfl rfl rfl hb170) rfl rfl (r_move hS169 rfl rfl) fun a187 hS187 => st_valW hS187 (want_on hS187 rfl rfl rfl hb170) rfl rfl (r_move hS187 rfl rfl) fun a188 hS188 => ?_
                    refine st_enterW hS188 (want_on hS188 rfl rfl rfl hb170) rfl rfl (r_call hS188 rfl rfl (by kernel_rfl)) (help_Equal_api_RailOp.calls (C0 := (fun q => q = N + 12)) (C1 := (fun q => q = N + 14)) (p0 := r132.2.1) (p1 := r153.2.1) (g := g160) (N + 16)  (OwD.rdf (fun _ _ _ _ _ _ h => h) h136) (fun q (hq : q = N + 12) => by omega) (OwD.rdf (fun _ _ _ _ _ _ h => h) h157) (fun q (hq : q = N + 14) => by omega) hr190) ?_
                    rintro _ a191 w192 ⟨g192, rfl, F192⟩ hS191
                    replace h99 := OwS.fr h99 F192 (fun c' hc (hm : N + 16 ≤ c') => by omega)
                    replace h103 := OwS.fr h103 F192 (fun c' hc (hm : N + 16 ≤ c') => by omega)
                    replace h136 := OwS.fr h136 F192 (fun c' hc (hm : N + 16 ≤ c') => by omega)
                    replace h157 := OwS.fr h157 F192 (fun c' hc (hm : N + 16 ≤ c') => by omega)
                    replace h16 := OwS.fr h16 F192 (fun c' hc (hm : N + 16 ≤ c') => by omega)
                    replace h81 := h81.fr F192 (fun (hm : N + 16 ≤ N + 2) => by omega)
                    replace h85 := OwS.fr h85 F192 (fun c' hc (hm : N + 16 ≤ c') => by omega)
                    replace h91 := h91.fr F192 (fun (hm : N + 16 ≤ N + 5) => by omega)
                    replace h95 := OwS.fr h95 F192 (fun c' hc (hm : N + 16 ≤ c') => by omega)
                    replace hp1 := RdS.fr hp1 F192 (by decide) (fun q (hq : C1 q) (hm : N + 16 ≤ q) => by have := hC1 q hq; omega)
                    replace hF := hF.trans F192 (fun c' (hm : N + 16 ≤ c') => by show N ≤ c'; omega)
                    refine st_valW hS191 (want_on hS191 rfl rfl rfl hb170) rfl rfl (r_not hS191 rfl rfl) fun a193 hS193 => ?_
                    refine st_val hS193 rfl rfl rfl (r_pickF hS193 rfl rfl rfl hb170) fun a195 hS195 => hk _ _ ?_
                    exact ⟨g192, hS195.re ⟨rfl, rfl, rfl, rfl, rfl, rfl, (by rw [← e194]; rfl), trivial⟩, h99, h103, h16, h81, h85, h91, h95, hp1, hF⟩
                rintro a196 w180 ⟨g180, hS196, h99, h103, h16, h81, h85, h91, h95, hp1, hF⟩
                refine wpList_nil (hK _ _ ?_)
                replace hS : Sl 147 _ [(1, .slice A1 p1.length cap1), (2, .int .u64 p2), (7, .slice A14 r12.length cap15), (8, .pointer (some ⟨b80, 0, none⟩)), (10, .pointer (some ⟨b90, 0, none⟩)), (12, .int .i64 m0_2), (92, .bool t178)] := hS196.re ⟨rfl, rfl, rfl, rfl, rfl, rfl, rfl, trivial⟩
                clear hK K
                try clear hS166 hS167 hS168 hS169 hS196
                obtain ⟨a, ha⟩ : ∃ a', a' = a196 := ⟨_, rfl⟩
                rw [← ha] at hS ⊢; clear ha
                refine c_cond hS rfl (fun hb197 => ?_) (fun hb197 => ?_)
                · replace H := ite_t hb197 H
                  refine c_pure [(6, .bool false)] (fun R hR => st_val hS rfl rfl rfl (r_assign hS rfl rfl) fun a198 hS198 => wpList_nil (hR _ (hS198.re ⟨rfl, trivial⟩))) ?_
                  clear hS
                  clear a
                  intro a hS
                  refine wp_ret ?_
                  have e := Option.some.inj H
                  subst e
                  replace H := Fl.go_out Hl116
                  have e := Option.some.inj H
                  subst e
                  replace H := Fl.go_out Hl76
                  have e := Option.some.inj H
                  subst e
                  repeat (with_reducible first | refine then_ret ?_ | refine inBlock_ret ?_)
                  exact c_ret1 hS Try.results4 rfl ⟨_, rfl, g180, rfl, hF⟩
                · replace H := ite_f hb197 H
                  refine wp_skip ?_
                  change Code.wp _ _ _ _ _
                  refine c_pure [(1, .slice A1 p1.length cap1), (2, .int .u64 p2), (7, .slice A14 r12.length cap15), (8, .pointer (some ⟨b80, 0, none⟩)), (10, .pointer (some ⟨b90, 0, none⟩)), (12, .int .i64 m0_2), (18, .int .i64 (-1))] (fun R hR => st_val hS rfl rfl rfl (r_assign hS rfl rfl) fun a199 hS199 => wpList_nil (hR _ (hS199.re ⟨rfl, rfl, rfl, rfl, rfl, rfl, rfl, trivial⟩))) ?_
                  clear hS
                  clear a
                  intro a hS
                  refine wp_block ?_
                  refine wp_loop_ghost (fun kq => fun a w200 => ∃ (m1_0 : Int), ∃ (g200 : Nat → Nat), law25_RailsCallsAgree.l1 p2 r12 r132 r153 kq m1_0 = some o115 ∧ Sl 147 a [(1, .slice A1 p1.length cap1), (2, .int .u64 p2), (7, .slice A14 r12.length cap15), (8, .pointer (some ⟨b80, 0, none⟩)), (10, .pointer (some ⟨b90, 0, none⟩)), (12, .int .i64 m0_2), (18, .int .i64 m1_0)] ∧ OwS (kint .i64) 3 w200 g200 (N + 5 + 3) A97 cap98 r153.1.N ∧ OwS (kint .u64) 33 w200 g200 (N + 5 + 5) A101 cap102 r153.1.Done ∧ OwS kd_api_Rail 35 w200 g200 (N + 0) A14 cap15 r12 ∧ Bx w200 g200 (N + 2) b80 70 [.slice A83 r132.1.list.length cap84, .int .u64 r132.1.now] ∧ OwS kd_rails_rail 75 w200 g200 (N + 2 + 1) A83 cap84 r132.1.list ∧ Bx w200 g200 (N + 5) b90 41 [.slice A93 r153.1.R.length cap94, .slice A97 r153.1.N.length cap98, .slice A101 r153.1.Done.length cap102, .int .u64 r153.1.Clock] ∧ OwS kd_api_Rail 35 w200 g200 (N + 5 + 1) A93 cap94 r153.1.R ∧ RdS kd_law25_Call w200 g200 C1 A1 cap1 p1 ∧ Fr (fun q => N ≤ q) w g w200 g200) FUEL ?_ ?_
                  · exact ⟨(-1), g180, H, hS.re ⟨rfl, rfl, rfl, rfl, rfl, rfl, rfl, trivial⟩, h99, h103, h16, h81, h85, h91, h95, hp1, hF⟩
                  · clear H
                    clear hp1 h16 h85 h81 h95 h99 h103 h91 hF
                    clear hS
                    rintro k201 a w200 ⟨m1_0, g200, hpre0, hS, h99, h103, h16, h81, h85, h91, h95, hp1, hF⟩
                    have H := hpre0
                    clear hpre0
                    cases k201 with
                    | zero => exact absurd H (by simp [law25_RailsCallsAgree.l1])
                    | succ k201 =>
                      rw [law25_RailsCallsAgree.l1] at H
                      refine wp_seq ?_
                      refine c_pure [(1, .slice A1 p1.length cap1), (2, .int .u64 p2), (7, .slice A14 r12.length cap15), (8, .pointer (some ⟨b80, 0, none⟩)), (10, .pointer (some ⟨b90, 0, none⟩)), (12, .int .i64 m0_2), (18, .int .i64 m1_0), (96, .bool (decide (m1_0 ≤ (r12.length : Int))))] (fun R hR => st_val hS rfl rfl rfl (r_move hS rfl rfl) fun a202 hS202 => st_val hS202 rfl rfl rfl (r_move hS202 rfl rfl) fun a203 hS203 => st_val hS203 rfl rfl rfl (r_len (e := 35) (sz := 3) (by_ := 24) hS203 rfl rfl (by kernel_rfl)) fun a204 hS204 => st_val hS204 rfl rfl rfl (r_bin hS204 rfl rfl rfl b_leq) fun a205 hS205 => wpList_nil (hR _ (hS205.re ⟨rfl, rfl, rfl, rfl, rfl, rfl, rfl, rfl, trivial⟩))) ?_
                      clear hS
                      clear a
                      intro a hS
                      refine c_cond hS rfl (fun hb206 => ?_) (fun hb206 => ?_)
                      · replace H := ite_t hb206 H
                        refine wp_skip ?_
                        change Code.wp _ _ _ _ _
                        refine wp_seq ?_
                        refine wp_block ?_
                        obtain ⟨r209, hr210, H⟩ := bind_el H
                        refine c_region (fun K hK => ?_)
                        refine st_val hS rfl rfl rfl (r_move hS rfl rfl) fun a207 hS207 => st_val hS207 rfl rfl rfl (r_move hS207 rfl rfl) fun a208 hS208 => ?_
                        refine st_enter hS208 rfl rfl rfl (r_call hS208 rfl rfl (by kernel_rfl)) (rails_Rails_ReadyAt.calls (c0 := N + 2) (b_p0 := b80) (A_list_p0 := A83) (cap_list_p0 := cap84) (p0 := r132.1) (p1 := m1_0) (g := g200) (N + 16)  ⟨h81, h85⟩ (by omega) hr210) ?_
                        rintro _ a211 w212 ⟨g212, rfl, F212⟩ hS211
                        replace h99 := OwS.fr h99 F212 (fun c' hc (hm : N + 16 ≤ c') => by omega)
                        replace h103 := OwS.fr h103 F212 (fun c' hc (hm : N + 16 ≤ c') => by omega)
                        replace h16 := OwS.fr h16 F212 (fun c' hc (hm : N + 16 ≤ c') => by omega)
                        replace h81 := h81.fr F212 (fun (hm : N + 16 ≤ N + 2) => by omega)
                        replace h85 := OwS.fr h85 F212 (fun c' hc (hm : N + 16 ≤ c') => by omega)
                        replace h91 := h91.fr F212 (fun (hm : N + 16 ≤ N + 5) => by omega)
                        replace h95 := OwS.fr h95 F212 (fun c' hc (hm : N + 16 ≤ c') => by omega)
                        replace hp1 := RdS.fr hp1 F212 (by decide) (fun q (hq : C1 q) (hm : N + 16 ≤ q) => by have := hC1 q hq; omega)
                        replace hF := hF.trans F212 (fun c' (hm : N + 16 ≤ c') => by show N ≤ c'; omega)
                        refine st_val hS211 rfl rfl rfl (r_move hS211 rfl rfl) fun a213 hS213 => st_val hS213 rfl rfl rfl (r_extract hS213 rfl rfl rfl) fun a214 hS214 => st_val hS214 rfl rfl rfl (r_extract hS214 rfl rfl rfl) fun a215 hS215 => st_val hS215 rfl rfl rfl (r_assign hS215 rfl rfl) fun a216 hS216 => st_val hS216 rfl rfl rfl (r_assign hS216 rfl rfl) fun a217 hS217 => wpList_nil (hK _ _ ?_)
                        replace hS : Sl 147 _ [(1, .slice A1 p1.length cap1), (2, .int .u64 p2), (7, .slice A14 r12.length cap15), (8, .pointer (some ⟨b80, 0, none⟩)), (10, .pointer (some ⟨b90, 0, none⟩)), (12, .int .i64 m0_2), (18, .int .i64 m1_0), (19, .int .u64 r209.1), (20, .bool r209.2)] := hS217.re ⟨rfl, rfl, rfl, rfl, rfl, rfl, rfl, rfl, rfl, trivial⟩
                        clear hK K
                        try clear hS207 hS208 hS211 hS213 hS214 hS215 hS216 hS217
                        obtain ⟨a, ha⟩ : ∃ a', a' = a217 := ⟨_, rfl⟩
                        rw [← ha] at hS ⊢; clear ha
                        obtain ⟨r220, hr221, H⟩ := bind_el H
                        refine c_region (fun K hK => ?_)
                        refine st_val hS rfl rfl rfl (r_move hS rfl rfl) fun a218 hS218 => st_val hS218 rfl rfl rfl (r_move hS218 rfl rfl) fun a219 hS219 => ?_
                        refine st_enter hS219 rfl rfl rfl (r_call hS219 rfl rfl (by kernel_rfl)) (ref25_Rails_ReadyAt.calls (c0 := N + 5) (b_p0 := b90) (A_R_p0 := A93) (cap_R_p0 := cap94) (A_N_p0 := A97) (cap_N_p0 := cap98) (A_Done_p0 := A101) (cap_Done_p0 := cap102) (p0 := r153.1) (p1 := m1_0) (g := g212) (N + 16)  ⟨h91, h95, h99, h103⟩ (by omega) hr221) ?_
                        rintro _ a222 w223 ⟨g223, rfl, F223⟩ hS222
                        replace h99 := OwS.fr h99 F223 (fun c' hc (hm : N + 16 ≤ c') => by omega)
                        replace h103 := OwS.fr h103 F223 (fun c' hc (hm : N + 16 ≤ c') => by omega)
                        replace h16 := OwS.fr h16 F223 (fun c' hc (hm : N + 16 ≤ c') => by omega)
                        replace h81 := h81.fr F223 (fun (hm : N + 16 ≤ N + 2) => by omega)
                        replace h85 := OwS.fr h85 F223 (fun c' hc (hm : N + 16 ≤ c') => by omega)
                        replace h91 := h91.fr F223 (fun (hm : N + 16 ≤ N + 5) => by omega)
                        replace h95 := OwS.fr h95 F223 (fun c' hc (hm : N + 16 ≤ c') => by omega)
                        replace hp1 := RdS.fr hp1 F223 (by decide) (fun q (hq : C1 q) (hm : N + 16 ≤ q) => by have := hC1 q hq; omega)
                        replace hF := hF.trans F223 (fun c' (hm : N + 16 ≤ c') => by show N ≤ c'; omega)
                        refine st_val hS222 rfl rfl rfl (r_move hS222 rfl rfl) fun a224 hS224 => st_val hS224 rfl rfl rfl (r_extract hS224 rfl rfl rfl) fun a225 hS225 => st_val hS225 rfl rfl rfl (r_extract hS225 rfl rfl rfl) fun a226 hS226 => st_val hS226 rfl rfl rfl (r_assign hS226 rfl rfl) fun a227 hS227 => st_val hS227 rfl rfl rfl (r_assign hS227 rfl rfl) fun a228 hS228 => wpList_nil (hK _ _ ?_)
                        replace hS : Sl 147 _ [(1, .slice A1 p1.length cap1), (2, .int .u64 p2), (7, .slice A14 r12.length cap15), (8, .pointer (some ⟨b80, 0, none⟩)), (10, .pointer (some ⟨b90, 0, none⟩)), (12, .int .i64 m0_2), (18, .int .i64 m1_0), (19, .int .u64 r209.1), (20, .bool r209.2), (21, .int .u64 r220.1), (22, .bool r220.2)] := hS228.re ⟨rfl, rfl, rfl, rfl, rfl, rfl, rfl, rfl, rfl, rfl, rfl, trivial⟩
                        clear hK K
                        try clear hS218 hS219 hS222 hS224 hS225 hS226 hS227 hS228
                        obtain ⟨a, ha⟩ : ∃ a', a' = a228 := ⟨_, rfl⟩
                        rw [← ha] at hS ⊢; clear ha
                        refine c_pure [(1, .slice A1 p1.length cap1), (2, .int .u64 p2), (7, .slice A14 r12.length cap15), (8, .pointer (some ⟨b80, 0, none⟩)), (10, .pointer (some ⟨b90, 0, none⟩)), (12, .int .i64 m0_2), (18, .int .i64 m1_0), (19, .int .u64 r209.1), (20, .bool r209.2), (21, .int .u64 r220.1), (22, .bool r220.2), (23, .int .u64 (wu (r153.1.Clock + (Int.tmod p2 60))))] (fun R hR => st_val hS rfl rfl rfl (r_move hS rfl rfl) fun a229 hS229 => st_val hS229 rfl rfl rfl (r_nil hS229 rfl rfl) fun a230 hS230 => st_val hS230 rfl rfl rfl (r_fieldB (off := 3) hS230 rfl rfl (by kernel_rfl)) fun a231 hS231 => st_val hS231 rfl rfl rfl (r_load1 (n := 1) hS231 rfl rfl (by kernel_rfl) (Bx.cell h91 rfl)) fun a232 hS232 => st_val hS232 rfl rfl rfl (r_move hS232 rfl rfl) fun a233 hS233 => st_val hS233 rfl rfl rfl (r_bin hS233 rfl rfl rfl (b_rem (by decide))) fun a234 hS234 => st_val hS234 rfl rfl rfl (r_bin hS234 rfl rfl rfl b_add) fun a235 hS235 => st_val hS235 rfl rfl rfl (r_assign hS235 rfl rfl) fun a236 hS236 => wpList_nil (hR _ (hS236.re ⟨rfl, rfl, rfl, rfl, rfl, rfl, rfl, rfl, rfl, rfl, rfl, rfl, trivial⟩))) ?_
                        clear hS
                        clear a
                        intro a hS
                        obtain ⟨t269, ht270, H⟩ := bind_el H
                        obtain ⟨t314, ht315, H⟩ := bind_el H
                        refine c_region (fun K hK => ?_)
                        refine st_val hS rfl rfl rfl (r_move hS rfl rfl) fun a237 hS237 => st_val hS237 rfl rfl rfl (r_move hS237 rfl rfl) fun a238 hS238 => st_val hS238 rfl rfl rfl (r_bin hS238 rfl rfl rfl b_neq) fun a239 hS239 => st_val hS239 rfl rfl rfl (r_move hS239 rfl rfl) fun a240 hS240 => ?_
                        refine g_join (N := 147) 4 [(1, .slice A1 p1.length cap1), (2, .int .u64 p2), (7, .slice A14 r12.length cap15), (8, .pointer (some ⟨b80, 0, none⟩)), (10, .pointer (some ⟨b90, 0, none⟩)), (12, .int .i64 m0_2), (18, .int .i64 m1_0), (23, .int .u64 (wu (r153.1.Clock + (Int.tmod p2 60)))), (125, .bool ((r209.1 != r220.1) || (!(r209.2 == r220.2))))] ?_ (fun hk => ?_)
                        rotate_left
                        · rcases Bool.eq_false_or_eq_true ((r209.1 != r220.1)) with hb241 | hb241
                          · refine st_off hS240 (want_off hS240 rfl rfl rfl hb241) rfl rfl fun a245 hS245 => st_off hS245 (want_off hS245 rfl rfl rfl hb241) rfl rfl fun a246 hS246 => st_off hS246 (want_off hS246 rfl rfl rfl hb241) rfl rfl fun a247 hS247 => st_val hS247 rfl rfl rfl (r_pickT hS247 rfl rfl rfl hb241) fun a248 hS248 => hk _ (hS248.re ⟨rfl, rfl, rfl, rfl, rfl, rfl, rfl, rfl, (by rw [hb241]; rfl), trivial⟩)
                          · refine st_valW hS240 (want_on hS240 rfl rfl rfl hb241) rfl rfl (r_move hS240 rfl rfl) fun a249 hS249 => st_valW hS249 (want_on hS249 rfl rfl rfl hb241) rfl rfl (r_move hS249 rfl rfl) fun a250 hS250 => st_valW hS250 (want_on hS250 rfl rfl rfl hb241) rfl rfl (r_binB hS250 rfl rfl rfl (b_neqB (by kernel_rfl))) fun a251 hS251 => st_val hS251 rfl rfl rfl (r_pickF hS251 rfl rfl rfl hb241) fun a252 hS252 => hk _ (hS252.re ⟨rfl, rfl, rfl, rfl, rfl, rfl, rfl, rfl, (by rw [hb241]; rfl), trivial⟩)
                        intro a253 hS253
                        refine st_val hS253 rfl rfl rfl (r_move hS253 rfl rfl) fun a254 hS254 => ?_
                        refine g_joinR 8 (fun a w271 => ∃ (g271 : Nat → Nat), Sl 147 a [(1, .slice A1 p1.length cap1), (2, .int .u64 p2), (7, .slice A14 r12.length cap15), (8, .pointer (some ⟨b80, 0, none⟩)), (10, .pointer (some ⟨b90, 0, none⟩)), (12, .int .i64 m0_2), (18, .int .i64 m1_0), (23, .int .u64 (wu (r153.1.Clock + (Int.tmod p2 60)))), (134, .bool t269)] ∧ OwS (kint .i64) 3 w271 g271 (N + 5 + 3) A97 cap98 r153.1.N ∧ OwS (kint .u64) 33 w271 g271 (N + 5 + 5) A101 cap102 r153.1.Done ∧ OwS kd_api_Rail 35 w271 g271 (N + 0) A14 cap15 r12 ∧ Bx w271 g271 (N + 2) b80 70 [.slice A83 r132.1.list.length cap84, .int .u64 r132.1.now] ∧ OwS kd_rails_rail 75 w271 g271 (N + 2 + 1) A83 cap84 r132.1.list ∧ Bx w271 g271 (N + 5) b90 41 [.slice A93 r153.1.R.length cap94, .slice A97 r153.1.N.length cap98, .slice A101 r153.1.Done.length cap102, .int .u64 r153.1.Clock] ∧ OwS kd_api_Rail 35 w271 g271 (N + 5 + 1) A93 cap94 r153.1.R ∧ RdS kd_law25_Call w271 g271 C1 A1 cap1 p1 ∧ Fr (fun q => N ≤ q) w g w271 g271) ?_ (fun hk => ?_)
                        rotate_left
                        · rcases Bool.eq_false_or_eq_true (((r209.1 != r220.1) || (!(r209.2 == r220.2)))) with hb255 | hb255
                          · have H := ite_t hb255 ht270
                            have e272 := Option.some.inj H
                            refine st_off hS254 (want_off hS254 rfl rfl rfl hb255) rfl rfl fun a273 hS273 => st_off hS273 (want_off hS273 rfl rfl rfl hb255) rfl rfl fun a274 hS274 => st_off hS274 (want_off hS274 rfl rfl rfl hb255) rfl rfl fun a275 hS275 => st_off hS275 (want_off hS275 rfl rfl rfl hb255) rfl rfl fun a276 hS276 => st_off hS276 (want_off hS276 rfl rfl rfl hb255) rfl rfl fun a277 hS277 => st_off hS277 (want_off hS277 rfl rfl rfl hb255) rfl rfl fun a278 hS278 => st_off hS278 (want_off hS278 rfl rfl rfl hb255) rfl rfl fun a279 hS279 => st_val hS279 rfl rfl rfl (r_pickT hS279 rfl rfl rfl hb255) fun a280 hS280 => hk _ _ ?_
                            exact ⟨g223, hS280.re ⟨rfl, rfl, rfl, rfl, rfl, rfl, rfl, rfl, (by rw [← e272]; rfl), trivial⟩, h99, h103, h16, h81, h85, h91, h95, hp1, hF⟩
                          · have H := ite_f hb255 ht270
                            obtain ⟨r283, hr284, H⟩ := bind_el H
                            obtain ⟨r289, hr290, H⟩ := bind_el H
                            have e294 := Option.some.inj H
                            refine st_valW hS254 (want_on hS254 rfl rfl rfl hb255) rfl rfl (r_move hS254 rfl rfl) fun a281 hS281 => st_valW hS281 (want_on hS281 rfl rfl rfl hb255) rfl rfl (r_move hS281 rfl rfl) fun a282 hS282 => ?_
                            refine st_enterW hS282 (want_on hS282 rfl rfl rfl hb255) rfl rfl (r_call hS282 rfl rfl (by kernel_rfl)) (rails_Rails_Count.calls (c0 := N + 2) (b_p0 := b80) (A_list_p0 := A83) (cap_list_p0 := cap84) (p0 := r132.1) (p1 := m1_0) (g := g223) (N + 16)  ⟨h81, h85⟩ (by omega) hr284) ?_
                            rintro _ a285 w286 ⟨g286, rfl, F286⟩ hS285
                            replace h99 := OwS.fr h99 F286 (fun c' hc (hm : N + 16 ≤ c') => by omega)
                            replace h103 := OwS.fr h103 F286 (fun c' hc (hm : N + 16 ≤ c') => by omega)
                            replace h16 := OwS.fr h16 F286 (fun c' hc (hm : N + 16 ≤ c') => by omega)
                            replace h81 := h81.fr F286 (fun (hm : N + 16 ≤ N + 2) => by omega)
                            replace h85 := OwS.fr h85 F286 (fun c' hc (hm : N + 16 ≤ c') => by omega)
                            replace h91 := h91.fr F286 (fun (hm : N + 16 ≤ N + 5) => by omega)
                            replace h95 := OwS.fr h95 F286 (fun c' hc (hm : N + 16 ≤ c') => by omega)
                            replace hp1 := RdS.fr hp1 F286 (by decide) (fun q (hq : C1 q) (hm : N + 16 ≤ q) => by have := hC1 q hq; omega)
                            replace hF := hF.trans F286 (fun c' (hm : N + 16 ≤ c') => by show N ≤ c'; omega)
                            refine st_valW hS285 (want_on hS285 rfl rfl rfl hb255) rfl rfl (r_move hS285 rfl rfl) fun a287 hS287 => st_valW hS287 (want_on hS287 rfl rfl rfl hb255) rfl rfl (r_move hS287 rfl rfl) fun a288 hS288 => ?_
                            refine st_enterW hS288 (want_on hS288 rfl rfl rfl hb255) rfl rfl (r_call hS288 rfl rfl (by kernel_rfl)) (ref25_Rails_Count.calls (c0 := N + 5) (b_p0 := b90) (A_R_p0 := A93) (cap_R_p0 := cap94) (A_N_p0 := A97) (cap_N_p0 := cap98) (A_Done_p0 := A101) (cap_Done_p0 := cap102) (p0 := r153.1) (p1 := m1_0) (g := g286) (N + 16)  ⟨h91, h95, h99, h103⟩ (by omega) hr290) ?_
                            rintro _ a291 w292 ⟨g292, rfl, F292⟩ hS291
                            replace h99 := OwS.fr h99 F292 (fun c' hc (hm : N + 16 ≤ c') => by omega)
                            replace h103 := OwS.fr h103 F292 (fun c' hc (hm : N + 16 ≤ c') => by omega)
                            replace h16 := OwS.fr h16 F292 (fun c' hc (hm : N + 16 ≤ c') => by omega)
                            replace h81 := h81.fr F292 (fun (hm : N + 16 ≤ N + 2) => by omega)
                            replace h85 := OwS.fr h85 F292 (fun c' hc (hm : N + 16 ≤ c') => by omega)
                            replace h91 := h91.fr F292 (fun (hm : N + 16 ≤ N + 5) => by omega)
                            replace h95 := OwS.fr h95 F292 (fun c' hc (hm : N + 16 ≤ c') => by omega)
                            replace hp1 := RdS.fr hp1 F292 (by decide) (fun q (hq : C1 q) (hm : N + 16 ≤ q) => by have := hC1 q hq; omega)
                            replace hF := hF.trans F292 (fun c' (hm : N + 16 ≤ c') => by show N ≤ c'; omega)
                            refine st_valW hS291 (want_on hS291 rfl rfl rfl hb255) rfl rfl (r_bin hS291 rfl rfl rfl b_neq) fun a293 hS293 => ?_
                            refine st_val hS293 rfl rfl rfl (r_pickF hS293 rfl rfl rfl hb255) fun a295 hS295 => hk _ _ ?_
                            exact ⟨g292, hS295.re ⟨rfl, rfl, rfl, rfl, rfl, rfl, rfl, rfl, (by rw [← e294]; rfl), trivial⟩, h99, h103, h16, h81, h85, h91, h95, hp1, hF⟩
                        rintro a296 w271 ⟨g271, hS296, h99, h103, h16, h81, h85, h91, h95, hp1, hF⟩
                        refine st_val hS296 rfl rfl rfl (r_move hS296 rfl rfl) fun a297 hS297 => ?_
                        refine g_joinR 10 (fun a w316 => ∃ (g316 : Nat → Nat), Sl 147 a [(1, .slice A1 p1.length cap1), (2, .int .u64 p2), (7, .slice A14 r12.length cap15), (8, .pointer (some ⟨b80, 0, none⟩)), (10, .pointer (some ⟨b90, 0, none⟩)), (12, .int .i64 m0_2), (18, .int .i64 m1_0), (145, .bool t314)] ∧ OwS (kint .i64) 3 w316 g316 (N + 5 + 3) A97 cap98 r153.1.N ∧ OwS (kint .u64) 33 w316 g316 (N + 5 + 5) A101 cap102 r153.1.Done ∧ OwS kd_api_Rail 35 w316 g316 (N + 0) A14 cap15 r12 ∧ Bx w316 g316 (N + 2) b80 70 [.slice A83 r132.1.list.length cap84, .int .u64 r132.1.now] ∧ OwS kd_rails_rail 75 w316 g316 (N + 2 + 1) A83 cap84 r132.1.list ∧ Bx w316 g316 (N + 5) b90 41 [.slice A93 r153.1.R.length cap94, .slice A97 r153.1.N.length cap98, .slice A101 r153.1.Done.length cap102, .int .u64 r153.1.Clock] ∧ OwS kd_api_Rail 35 w316 g316 (N + 5 + 1) A93 cap94 r153.1.R ∧ RdS kd_law25_Call w316 g316 C1 A1 cap1 p1 ∧ Fr (fun q => N ≤ q) w g w316 g316) ?_ (fun hk => ?_)
                        rotate_left
                        · rcases Bool.eq_false_or_eq_true (t269) with hb298 | hb298
                          · have H := ite_t hb298 ht315
                            have e317 := Option.some.inj H
                            refine st_off hS297 (want_off hS297 rfl rfl rfl hb298) rfl rfl fun a318 hS318 => st_off hS318 (want_off hS318 rfl rfl rfl hb298) rfl rfl fun a319 hS319 => st_off hS319 (want_off hS319 rfl rfl rfl hb298) rfl rfl fun a320 hS320 => st_off hS320 (want_off hS320 rfl rfl rfl hb298) rfl rfl fun a321 hS321 => st_off hS321 (want_off hS321 rfl rfl rfl hb298) rfl rfl fun a322 hS322 => st_off hS322 (want_off hS322 rfl rfl rfl hb298) rfl rfl fun a323 hS323 => st_off hS323 (want_off hS323 rfl rfl rfl hb298) rfl rfl fun a324 hS324 => st_off hS324 (want_off hS324 rfl rfl rfl hb298) rfl rfl fun a325 hS325 => st_off hS325 (want_off hS325 rfl rfl rfl hb298) rfl rfl fun a326 hS326 => st_val hS326 rfl rfl rfl (r_pickT hS326 rfl rfl rfl hb298) fun a327 hS327 => hk _ _ ?_
                            exact ⟨g271, hS327.re ⟨rfl, rfl, rfl, rfl, rfl, rfl, rfl, (by rw [← e317]; rfl), trivial⟩, h99, h103, h16, h81, h85, h91, h95, hp1, hF⟩
                          · have H := ite_f hb298 ht315
                            obtain ⟨r331, hr332, H⟩ := bind_el H
                            obtain ⟨r338, hr339, H⟩ := bind_el H
                            have e343 := Option.some.inj H
                            refine st_valW hS297 (want_on hS297 rfl rfl rfl hb298) rfl rfl (r_move hS297 rfl rfl) fun a328 hS328 => st_valW hS328 (want_on hS328 rfl rfl rfl hb298) rfl rfl (r_move hS328 rfl rfl) fun a329 hS329 => st_valW hS329 (want_on hS329 rfl rfl rfl hb298) rfl rfl (r_move hS329 rfl rfl) fun a330 hS330 => ?_
                            refine st_enterW hS330 (want_on hS330 rfl rfl rfl hb298) rfl rfl (r_call hS330 rfl rfl (by kernel_rfl)) (rails_Rails_Powered.calls (c0 := N + 2) (b_p0 := b80) (A_list_p0 := A83) (cap_list_p0 := cap84) (p0 := r132.1) (p1 := m1_0) (p2 := (wu (r153.1.Clock + (Int.tmod p2 60)))) (g := g271) (N + 16)  ⟨h81, h85⟩ (by omega) hr332) ?_
                            rintro _ a333 w334 ⟨g334, rfl, F334⟩ hS333
                            replace h99 := OwS.fr h99 F334 (fun c' hc (hm : N + 16 ≤ c') => by omega)
                            replace h103 := OwS.fr h103 F334 (fun c' hc (hm : N + 16 ≤ c') => by omega)
                            replace h16 := OwS.fr h16 F334 (fun c' hc (hm : N + 16 ≤ c') => by omega)
                            replace h81 := h81.fr F334 (fun (hm : N + 16 ≤ N + 2) => by omega)
                            replace h85 := OwS.fr h85 F334 (fun c' hc (hm : N + 16 ≤ c') => by omega)
                            replace h91 := h91.fr F334 (fun (hm : N + 16 ≤ N + 5) => by omega)
                            replace h95 := OwS.fr h95 F334 (fun c' hc (hm : N + 16 ≤ c') => by omega)
                            replace hp1 := RdS.fr hp1 F334 (by decide) (fun q (hq : C1 q) (hm : N + 16 ≤ q) => by have := hC1 q hq; omega)
                            replace hF := hF.trans F334 (fun c' (hm : N + 16 ≤ c') => by show N ≤ c'; omega)
                            refine st_valW hS333 (want_on hS333 rfl rfl rfl hb298) rfl rfl (r_move hS333 rfl rfl) fun a335 hS335 => st_valW hS335 (want_on hS335 rfl rfl rfl hb298) rfl rfl (r_move hS335 rfl rfl) fun a336 hS336 => st_valW hS336 (want_on hS336 rfl rfl rfl hb298) rfl rfl (r_move hS336 rfl rfl) fun a337 hS337 => ?_
                            refine st_enterW hS337 (want_on hS337 rfl rfl rfl hb298) rfl rfl (r_call hS337 rfl rfl (by kernel_rfl)) (ref25_Rails_Powered.calls (c0 := N + 5) (b_p0 := b90) (A_R_p0 := A93) (cap_R_p0 := cap94) (A_N_p0 := A97) (cap_N_p0 := cap98) (A_Done_p0 := A101) (cap_Done_p0 := cap102) (p0 := r153.1) (p1 := m1_0) (p2 := (wu (r153.1.Clock + (Int.tmod p2 60)))) (g := g334) (N + 16)  ⟨h91, h95, h99, h103⟩ (by omega) hr339) ?_
                            rintro _ a340 w341 ⟨g341, rfl, F341⟩ hS340
                            replace h99 := OwS.fr h99 F341 (fun c' hc (hm : N + 16 ≤ c') => by omega)
                            replace h103 := OwS.fr h103 F341 (fun c' hc (hm : N + 16 ≤ c') => by omega)
                            replace h16 := OwS.fr h16 F341 (fun c' hc (hm : N + 16 ≤ c') => by omega)
                            replace h81 := h81.fr F341 (fun (hm : N + 16 ≤ N + 2) => by omega)
                            replace h85 := OwS.fr h85 F341 (fun c' hc (hm : N + 16 ≤ c') => by omega)
                            replace h91 := h91.fr F341 (fun (hm : N + 16 ≤ N + 5) => by omega)
                            replace h95 := OwS.fr h95 F341 (fun c' hc (hm : N + 16 ≤ c') => by omega)
                            replace hp1 := RdS.fr hp1 F341 (by decide) (fun q (hq : C1 q) (hm : N + 16 ≤ q) => by have := hC1 q hq; omega)
                            replace hF := hF.trans F341 (fun c' (hm : N + 16 ≤ c') => by show N ≤ c'; omega)
                            refine st_valW hS340 (want_on hS340 rfl rfl rfl hb298) rfl rfl (r_binB hS340 rfl rfl rfl (b_neqB (by kernel_rfl))) fun a342 hS342 => ?_
                            refine st_val hS342 rfl rfl rfl (r_pickF hS342 rfl rfl rfl hb298) fun a344 hS344 => hk _ _ ?_
                            exact ⟨g341, hS344.re ⟨rfl, rfl, rfl, rfl, rfl, rfl, rfl, (by rw [← e343]; rfl), trivial⟩, h99, h103, h16, h81, h85, h91, h95, hp1, hF⟩
                        rintro a345 w316 ⟨g316, hS345, h99, h103, h16, h81, h85, h91, h95, hp1, hF⟩
                        refine wpList_nil (hK _ _ ?_)
                        replace hS : Sl 147 _ [(1, .slice A1 p1.length cap1), (2, .int .u64 p2), (7, .slice A14 r12.length cap15), (8, .pointer (some ⟨b80, 0, none⟩)), (10, .pointer (some ⟨b90, 0, none⟩)), (12, .int .i64 m0_2), (18, .int .i64 m1_0), (145, .bool t314)] := hS345.re ⟨rfl, rfl, rfl, rfl, rfl, rfl, rfl, rfl, trivial⟩
                        clear hK K
                        try clear hS237 hS238 hS239 hS240 hS253 hS254 hS296 hS297 hS345
                        obtain ⟨a, ha⟩ : ∃ a', a' = a345 := ⟨_, rfl⟩
                        rw [← ha] at hS ⊢; clear ha
                        refine c_cond hS rfl (fun hb346 => ?_) (fun hb346 => ?_)
                        · replace H := ite_t hb346 H
                          refine c_pure [(6, .bool false)] (fun R hR => st_val hS rfl rfl rfl (r_assign hS rfl rfl) fun a347 hS347 => wpList_nil (hR _ (hS347.re ⟨rfl, trivial⟩))) ?_
                          clear hS
                          clear a
                          intro a hS
                          refine wp_ret ?_
                          have e := Option.some.inj H
                          subst e
                          replace H := Fl.go_out Hl116
                          have e := Option.some.inj H
                          subst e
                          replace H := Fl.go_out Hl76
                          have e := Option.some.inj H
                          subst e
                          repeat (with_reducible first | refine then_ret ?_ | refine inBlock_ret ?_)
                          exact c_ret1 hS Try.results4 rfl ⟨_, rfl, g316, rfl, hF⟩
                        · replace H := ite_f hb346 H
                          refine wp_skip ?_
                          change Code.wp _ _ _ _ _
                          refine c_pure1 [(1, .slice A1 p1.length cap1), (2, .int .u64 p2), (7, .slice A14 r12.length cap15), (8, .pointer (some ⟨b80, 0, none⟩)), (10, .pointer (some ⟨b90, 0, none⟩)), (12, .int .i64 m0_2), (18, .int .i64 (wi (m1_0 + 1)))] (fun R hR => st_val hS rfl rfl rfl (r_move hS rfl rfl) fun a348 hS348 => st_val hS348 rfl rfl rfl (r_bin hS348 rfl rfl rfl b_add) fun a349 hS349 => st_val hS349 rfl rfl rfl (r_assign hS349 rfl rfl) fun a350 hS350 => wpList_nil (hR _ (hS350.re ⟨rfl, rfl, rfl, rfl, rfl, rfl, rfl, trivial⟩))) ?_
                          clear hS
                          clear a
                          intro a hS
                          refine ⟨k201, Nat.lt_succ_self _, ?_⟩
                          exact ⟨wi (m1_0 + 1), g316, H, hS.re ⟨rfl, rfl, rfl, rfl, rfl, rfl, rfl, trivial⟩, h99, h103, h16, h81, h85, h91, h95, hp1, hF⟩
                      · replace H := ite_f hb206 H
                        refine wp_exit ?_
                        have e := Option.some.inj H
                        exact ⟨(r132.1, r153.1), g200, e.symm, hS.re ⟨rfl, rfl, rfl, rfl, rfl, rfl, trivial⟩, h99, h103, h16, h81, h85, h91, h95, hp1, hF⟩
              · clear H
                clear hp1 h16 h85 h81 h95 h99 h103 h91 hF
                clear hS
                rintro a w113 ⟨v114, g113, hpre0, hS, h99, h103, h16, h81, h85, h91, h95, hp1, hF⟩
                subst hpre0
                have H := Fl.go_nxt Hl116
                clear Hl116
                refine c_pure1 [(1, .slice A1 p1.length cap1), (2, .int .u64 p2), (7, .slice A14 r12.length cap15), (8, .pointer (some ⟨b80, 0, none⟩)), (10, .pointer (some ⟨b90, 0, none⟩)), (12, .int .i64 (wi (m0_2 + 1)))] (fun R hR => st_val hS rfl rfl rfl (r_move hS rfl rfl) fun a351 hS351 => st_val hS351 rfl rfl rfl (r_bin hS351 rfl rfl rfl b_add) fun a352 hS352 => st_val hS352 rfl rfl rfl (r_assign hS352 rfl rfl) fun a353 hS353 => wpList_nil (hR _ (hS353.re ⟨rfl, rfl, rfl, rfl, rfl, rfl, trivial⟩))) ?_
                clear hS
                clear a
                intro a hS
                refine ⟨k107, Nat.lt_succ_self _, ?_⟩
                exact ⟨v114.1, v114.2, wi (m0_2 + 1), g113, H, hS.re ⟨rfl, rfl, rfl, rfl, rfl, rfl, trivial⟩, h99, h103, h16, h81, h85, h91, h95, hp1, hF⟩
            · replace H := ite_f hb112 H
              refine wp_exit ?_
              have e := Option.some.inj H
              exact ⟨g106, e.symm, hS.re trivial, hF⟩
      · clear H
        clear hp1 h16 h25 h38 hF
        clear hS
        rintro a w73 ⟨g73, hpre0, hS, hF⟩
        subst hpre0
        have H := Fl.go_nxt Hl76
        clear Hl76
        obtain ⟨r354, hr355, H⟩ := bind_el H
        refine c_region (fun K hK => ?_)
        refine st_enter hS rfl rfl rfl (r_call hS rfl rfl (by kernel_rfl)) (law25_awake.calls (g := g73) (N + 16)   hr355) ?_
        rintro _ a356 w357 ⟨g357, rfl, F357⟩ hS356
        replace hF := hF.trans F357 (fun c' (hm : N + 16 ≤ c') => by show N ≤ c'; omega)
        refine st_val hS356 rfl rfl rfl (r_assign hS356 rfl rfl) fun a358 hS358 => wpList_nil (hK _ _ ?_)
        replace hS : Sl 147 _ [(6, .bool r354)] := hS358.re ⟨rfl, trivial⟩
        clear hK K
        try clear hS356 hS358
        obtain ⟨a, ha⟩ : ∃ a', a' = a358 := ⟨_, rfl⟩
        rw [← ha] at hS ⊢; clear ha
        refine wp_ret ?_
        have e := Option.some.inj H
        subst e
        repeat (with_reducible first | refine then_ret ?_ | refine inBlock_ret ?_)
        exact c_ret1 hS Try.results4 rfl ⟨_, rfl, g357, rfl, hF⟩

/-- What is left of law25_RailsCallsAgree: about plain values alone. -/
def law25_RailsCallsAgree.Pure : Prop := ∀ (p0 : List api_Rail) (p1 : List law25_Call) (p2 : Int), (p0.length ≤ maxLen ∧ ∀ p0' ∈ p0, Wf_api_Rail p0') → (p1.length ≤ maxLen ∧ ∀ p1' ∈ p1, Wf_law25_Call p1') → (Lit.int .u64 p2).wf = true → law25_RailsCallsAgree.f p0 p1 p2 = some true

end Go.Proofs.Ytfiodhdldleocaa.Sim
