/-
  Printed by a program of this session (wip/tools): plain functions with the same answers as the Go functions, and the proofs of it.
-/
import Derived.Test.YtfiodhdldleocaaFn
import Derived.Test.YtfiodhdldleocaaOp
namespace Go.Proofs.Ytfiodhdldleocaa.Sim
open Go
set_option linter.unusedVariables false
set_option linter.unusedSimpArgs false

/-! ### law25_RailsOperationsAlternate: function 5 -/
def law25_RailsOperationsAlternate.l0 (r12 : (List api_Rail)) (r23 : (List api_RailOp) × Bool) : Nat → (List Bool) → (List Int) → Int → Option (Fl (Bool) (Unit))
  | 0, _, _, _ => none
  | k162 + 1, m0_0, m0_1, m0_2 => if decide (m0_2 < (r23.1.length : Int)) = true then ((idx r23.1 m0_2).bind fun x170 => (idx r12 x170.Rail).bind fun x184 => (if x170.On = true then (some x184.RampUp) else (some x184.RampDown) : Option (Int)).bind fun v190 => (idx m0_0 x170.Rail).bind fun x209 => (if (x170.On == x209) = true then some true else (idx m0_1 x170.Rail).bind fun x221 => some (decide (x170.Start < x221))).bind fun t226 => if (t226 || (x170.Done != (wu (x170.Start + v190)))) = true then (some (.out false)) else ((idx m0_1 x170.Rail).bind fun x279 => law25_RailsOperationsAlternate.l0 r12 r23 k162 (upd m0_0 x170.Rail x170.On) (upd m0_1 x170.Rail x170.Done) (wi (m0_2 + 1)))) else (some (.nxt ()))
def law25_RailsOperationsAlternate.f (p0 : List api_Rail) (p1 : List law25_Call) : Option (Bool) := if decide (40 < (p1.length : Int)) = true then ((law25_awake.f ).bind fun r6 => some r6) else ((law25_Some.f p0).bind fun r12 => (law25_log.f r12 p1).bind fun r23 => (if (!r23.2) = true then some true else (law25_named.f r23.1 (r12.length : Int)).bind fun r43 => some (!r43)).bind fun t48 => if t48 = true then (some false) else ((mk (r12.length : Int) false).bind fun y71 => (mk (r12.length : Int) 0).bind fun y77 => (law25_RailsOperationsAlternate.l0 r12 r23 FUEL y71 y77 0 : Option (Fl (Bool) (Unit))).bind fun o158 => o158.go fun _ => (law25_awake.f ).bind fun r301 => some r301))
set_option maxRecDepth 100000 in
set_option maxHeartbeats 4000000 in
theorem law25_RailsOperationsAlternate.calls {p0 : List api_Rail} {A0 : Option Addr} {cap0 : Nat} {C0 : Nat → Prop} {p1 : List law25_Call} {A1 : Option Addr} {cap1 : Nat} {C1 : Nat → Prop} {w : World} {g : Nat → Nat} {out : Bool} (N : Nat) (hp0 : RdS kd_api_Rail w g C0 A0 cap0 p0) (hC0 : ∀ c, C0 c → c < N) (hp1 : RdS kd_law25_Call w g C1 A1 cap1 p1) (hC1 : ∀ c, C1 c → c < N) (H : law25_RailsOperationsAlternate.f p0 p1 = some out) :
    Calls Try.prog 5 #[.slice A0 p0.length cap0, .slice A1 p1.length cap1] w (fun e w' => ∃ v, e = .returned v ∧ ∃ (g' : Nat → Nat), v = .bool out ∧ Fr (fun q => N ≤ q) w g w' g') := by
  unfold law25_RailsOperationsAlternate.f at H
  refine calls_enter Try.func5 rfl Try.ntmps5 rfl (fun a hS => ?_)
  replace hS : Sl 104 a [(0, .slice A0 p0.length cap0), (1, .slice A1 p1.length cap1)] := hS
  have hF : Fr (fun q => N ≤ q) w g w g := Fr.refl _ _ _
  refine c_pure [(0, .slice A0 p0.length cap0), (1, .slice A1 p1.length cap1)] (fun R hR => st_val hS rfl rfl rfl (r_assign hS rfl rfl) fun a1 hS1 => wpList_nil (hR _ (hS1.re ⟨rfl, rfl, trivial⟩))) ?_
  clear hS
  clear a
  intro a hS
  refine wp_seq ?_
  refine c_pure [(0, .slice A0 p0.length cap0), (1, .slice A1 p1.length cap1), (15, .bool (decide (40 < (p1.length : Int))))] (fun R hR => st_val hS rfl rfl rfl (r_move hS rfl rfl) fun a2 hS2 => st_val hS2 rfl rfl rfl (r_len (e := 46) (sz := 4) (by_ := 32) hS2 rfl rfl (by kernel_rfl)) fun a3 hS3 => st_val hS3 rfl rfl rfl (r_bin hS3 rfl rfl rfl b_gtr) fun a4 hS4 => wpList_nil (hR _ (hS4.re ⟨rfl, rfl, rfl, trivial⟩))) ?_
  clear hS
  clear a
  intro a hS
  refine c_cond hS rfl (fun hb5 => ?_) (fun hb5 => ?_)
  · replace H := ite_t hb5 H
    obtain ⟨r6, hr7, H⟩ := bind_el H
    refine c_region (fun K hK => ?_)
    refine st_enter hS rfl rfl rfl (r_call hS rfl rfl (by kernel_rfl)) (law25_awake.calls (g := g) (N + 10)   hr7) ?_
    rintro _ a8 w9 ⟨g9, rfl, F9⟩ hS8
    replace hp0 := RdS.fr hp0 F9 (by decide) (fun q (hq : C0 q) (hm : N + 10 ≤ q) => by have := hC0 q hq; omega)
    replace hp1 := RdS.fr hp1 F9 (by decide) (fun q (hq : C1 q) (hm : N + 10 ≤ q) => by have := hC1 q hq; omega)
    replace hF := hF.trans F9 (fun c' (hm : N + 10 ≤ c') => by show N ≤ c'; omega)
    refine st_val hS8 rfl rfl rfl (r_assign hS8 rfl rfl) fun a10 hS10 => wpList_nil (hK _ _ ?_)
    replace hS : Sl 104 _ [(4, .bool r6)] := hS10.re ⟨rfl, trivial⟩
    clear hK K
    try clear hS8 hS10
    obtain ⟨a, ha⟩ : ∃ a', a' = a10 := ⟨_, rfl⟩
    rw [← ha] at hS ⊢; clear ha
    refine wp_ret ?_
    have e := Option.some.inj H
    subst e
    repeat (with_reducible first | refine then_ret ?_ | refine inBlock_ret ?_)
    exact c_ret1 hS Try.results5 rfl ⟨_, rfl, g9, rfl, hF⟩
  · replace H := ite_f hb5 H
    refine wp_skip ?_
    change Code.wp _ _ _ _ _
    obtain ⟨r12, hr13, H⟩ := bind_el H
    refine c_region (fun K hK => ?_)
    refine st_val hS rfl rfl rfl (r_move hS rfl rfl) fun a11 hS11 => ?_
    refine st_enter hS11 rfl rfl rfl (r_call hS11 rfl rfl (by kernel_rfl)) (law25_Some.calls (C0 := C0) (p0 := p0) (g := g) (N + 10) (N + 0) hp0 (fun q (hq : C0 q) => by have := hC0 q hq; omega) (by omega) hr13) ?_
    rintro _ a18 w19 ⟨g19, A14, cap15, rfl, h16, F19⟩ hS18
    replace hp0 := RdS.fr hp0 F19 (by decide) (fun q (hq : C0 q) (hm : (N + 0 ≤ q ∧ q < N + 0 + 2) ∨ N + 10 ≤ q) => by have := hC0 q hq; omega)
    replace hp1 := RdS.fr hp1 F19 (by decide) (fun q (hq : C1 q) (hm : (N + 0 ≤ q ∧ q < N + 0 + 2) ∨ N + 10 ≤ q) => by have := hC1 q hq; omega)
    replace hF := hF.trans F19 (fun c' (hm : (N + 0 ≤ c' ∧ c' < N + 0 + 2) ∨ N + 10 ≤ c') => by show N ≤ c'; omega)
    refine st_val hS18 rfl rfl rfl (r_assign hS18 rfl rfl) fun a20 hS20 => wpList_nil (hK _ _ ?_)
    replace hS : Sl 104 _ [(1, .slice A1 p1.length cap1), (5, .slice A14 r12.length cap15)] := hS20.re ⟨rfl, rfl, trivial⟩
    clear hK K
    try clear hS11 hS18 hS20
    obtain ⟨a, ha⟩ : ∃ a', a' = a20 := ⟨_, rfl⟩
    rw [← ha] at hS ⊢; clear ha
    obtain ⟨r23, hr24, H⟩ := bind_el H
    refine c_region (fun K hK => ?_)
    refine st_val hS rfl rfl rfl (r_move hS rfl rfl) fun a21 hS21 => st_val hS21 rfl rfl rfl (r_move hS21 rfl rfl) fun a22 hS22 => ?_
    refine st_enter hS22 rfl rfl rfl (r_call hS22 rfl rfl (by kernel_rfl)) (law25_log.calls (C0 := (fun q => q = N + 0)) (C1 := C1) (p0 := r12) (p1 := p1) (g := g19) (N + 10) (N + 2) (OwD.rdf (fun _ _ _ _ _ _ h => h) h16) (fun q (hq : q = N + 0) => by omega) hp1 (fun q (hq : C1 q) => by have := hC1 q hq; omega) (by omega) hr24) ?_
    rintro _ a29 w30 ⟨g30, A25, cap26, rfl, h27, F30⟩ hS29
    replace h16 := OwS.fr h16 F30 (fun c' hc (hm : (N + 2 ≤ c' ∧ c' < N + 2 + 2) ∨ N + 10 ≤ c') => by omega)
    replace hp1 := RdS.fr hp1 F30 (by decide) (fun q (hq : C1 q) (hm : (N + 2 ≤ q ∧ q < N + 2 + 2) ∨ N + 10 ≤ q) => by have := hC1 q hq; omega)
    replace hF := hF.trans F30 (fun c' (hm : (N + 2 ≤ c' ∧ c' < N + 2 + 2) ∨ N + 10 ≤ c') => by show N ≤ c'; omega)
    refine st_val hS29 rfl rfl rfl (r_move hS29 rfl rfl) fun a31 hS31 => st_val hS31 rfl rfl rfl (r_extract hS31 rfl rfl rfl) fun a32 hS32 => st_val hS32 rfl rfl rfl (r_extract hS32 rfl rfl rfl) fun a33 hS33 => st_val hS33 rfl rfl rfl (r_assign hS33 rfl rfl) fun a34 hS34 => st_val hS34 rfl rfl rfl (r_assign hS34 rfl rfl) fun a35 hS35 => wpList_nil (hK _ _ ?_)
    replace hS : Sl 104 _ [(5, .slice A14 r12.length cap15), (6, .slice A25 r23.1.length cap26), (7, .bool r23.2)] := hS35.re ⟨rfl, rfl, rfl, trivial⟩
    clear hK K
    try clear hS21 hS22 hS29 hS31 hS32 hS33 hS34 hS35
    obtain ⟨a, ha⟩ : ∃ a', a' = a35 := ⟨_, rfl⟩
    rw [← ha] at hS ⊢; clear ha
    refine wp_seq ?_
    obtain ⟨t48, ht49, H⟩ := bind_el H
    refine c_region (fun K hK => ?_)
    refine st_val hS rfl rfl rfl (r_move hS rfl rfl) fun a36 hS36 => st_val hS36 rfl rfl rfl (r_not hS36 rfl rfl) fun a37 hS37 => st_val hS37 rfl rfl rfl (r_move hS37 rfl rfl) fun a38 hS38 => ?_
    refine g_joinR 6 (fun a w50 => ∃ (g50 : Nat → Nat), Sl 104 a [(5, .slice A14 r12.length cap15), (6, .slice A25 r23.1.length cap26), (33, .bool t48)] ∧ OwS kd_api_Rail 35 w50 g50 (N + 0) A14 cap15 r12 ∧ OwS kd_api_RailOp 50 w50 g50 (N + 2) A25 cap26 r23.1 ∧ Fr (fun q => N ≤ q) w g w50 g50) ?_ (fun hk => ?_)
    rotate_left
    · rcases Bool.eq_false_or_eq_true ((!r23.2)) with hb39 | hb39
      · have H := ite_t hb39 ht49
        have e51 := Option.some.inj H
        refine st_off hS38 (want_off hS38 rfl rfl rfl hb39) rfl rfl fun a52 hS52 => st_off hS52 (want_off hS52 rfl rfl rfl hb39) rfl rfl fun a53 hS53 => st_off hS53 (want_off hS53 rfl rfl rfl hb39) rfl rfl fun a54 hS54 => st_off hS54 (want_off hS54 rfl rfl rfl hb39) rfl rfl fun a55 hS55 => st_off hS55 (want_off hS55 rfl rfl rfl hb39) rfl rfl fun a56 hS56 => st_val hS56 rfl rfl rfl (r_pickT hS56 rfl rfl rfl hb39) fun a57 hS57 => hk _ _ ?_
        exact ⟨g30, hS57.re ⟨rfl, rfl, (by rw [← e51]; rfl), trivial⟩, h16, h27, hF⟩
      · have H := ite_f hb39 ht49
        obtain ⟨r61, hr62, H⟩ := bind_el H
        have e66 := Option.some.inj H
        refine st_valW hS38 (want_on hS38 rfl rfl rfl hb39) rfl rfl (r_move hS38 rfl rfl) fun a58 hS58 => st_valW hS58 (want_on hS58 rfl rfl rfl hb39) rfl rfl (r_move hS58 rfl rfl) fun a59 hS59 => st_valW hS59 (want_on hS59 rfl rfl rfl hb39) rfl rfl (r_len (e := 35) (sz := 3) (by_ := 24) hS59 rfl rfl (by kernel_rfl)) fun a60 hS60 => ?_
        refine st_enterW hS60 (want_on hS60 rfl rfl rfl hb39) rfl rfl (r_call hS60 rfl rfl (by kernel_rfl)) (law25_named.calls (C0 := (fun q => q = N + 2)) (p0 := r23.1) (p1 := (r12.length : Int)) (g := g30) (N + 10)  (OwD.rdf (fun _ _ _ _ _ _ h => h) h27) (fun q (hq : q = N + 2) => by omega) hr62) ?_
        rintro _ a63 w64 ⟨g64, rfl, F64⟩ hS63
        replace h16 := OwS.fr h16 F64 (fun c' hc (hm : N + 10 ≤ c') => by omega)
        replace h27 := OwS.fr h27 F64 (fun c' hc (hm : N + 10 ≤ c') => by omega)
        replace hF := hF.trans F64 (fun c' (hm : N + 10 ≤ c') => by show N ≤ c'; omega)
        refine st_valW hS63 (want_on hS63 rfl rfl rfl hb39) rfl rfl (r_not hS63 rfl rfl) fun a65 hS65 => ?_
        refine st_val hS65 rfl rfl rfl (r_pickF hS65 rfl rfl rfl hb39) fun a67 hS67 => hk _ _ ?_
        exact ⟨g64, hS67.re ⟨rfl, rfl, (by rw [← e66]; rfl), trivial⟩, h16, h27, hF⟩
    rintro a68 w50 ⟨g50, hS68, h16, h27, hF⟩
    refine wpList_nil (hK _ _ ?_)
    replace hS : Sl 104 _ [(5, .slice A14 r12.length cap15), (6, .slice A25 r23.1.length cap26), (33, .bool t48)] := hS68.re ⟨rfl, rfl, rfl, trivial⟩
    clear hK K
    try clear hS36 hS37 hS38 hS68
    obtain ⟨a, ha⟩ : ∃ a', a' = a68 := ⟨_, rfl⟩
    rw [← ha] at hS ⊢; clear ha
    refine c_cond hS rfl (fun hb69 => ?_) (fun hb69 => ?_)
    · replace H := ite_t hb69 H
      refine c_pure [(4, .bool false)] (fun R hR => st_val hS rfl rfl rfl (r_assign hS rfl rfl) fun a70 hS70 => wpList_nil (hR _ (hS70.re ⟨rfl, trivial⟩))) ?_
      clear hS
      clear a
      intro a hS
      refine wp_ret ?_
      have e := Option.some.inj H
      subst e
      repeat (with_reducible first | refine then_ret ?_ | refine inBlock_ret ?_)
      exact c_ret1 hS Try.results5 rfl ⟨_, rfl, g50, rfl, hF⟩
    · replace H := ite_f hb69 H
      refine wp_skip ?_
      change Code.wp _ _ _ _ _
      obtain ⟨y71, hy72, H⟩ := bind_el H
      obtain ⟨y77, hy78, H⟩ := bind_el H
      refine c_cut (fun a w116 => ∃ (g116 : Nat → Nat), ∃ (A117 : Option Addr), ∃ (cap118 : Nat), ∃ (A120 : Option Addr), ∃ (cap121 : Nat), Sl 104 a [(5, .slice A14 r12.length cap15), (6, .slice A25 r23.1.length cap26), (8, .slice A117 y71.length cap118), (9, .slice A120 y77.length cap121)] ∧ OwS kd_api_Rail 35 w116 g116 (N + 0) A14 cap15 r12 ∧ OwS kd_api_RailOp 50 w116 g116 (N + 2) A25 cap26 r23.1 ∧ OwS kbool 4 w116 g116 (N + 4) A117 cap118 y71 ∧ OwS (kint .u64) 33 w116 g116 (N + 6) A120 cap121 y77 ∧ Fr (fun q => N ≤ q) w g w116 g116) (d_start (fun q => False) g50 [] 8 #[false, false, false, false, false, false, false, false] (by kernel_rfl) rfl rfl (fun w123 hw123 => ?_)) ?_
      · have F123 : Fr (fun _ => False) w50 g50 w123 g50 := by rw [hw123]; exact Fr.drew _ _ _
        replace h16 := OwS.fr h16 F123 (fun _ _ h => h)
        replace h27 := OwS.fr h27 F123 (fun _ _ h => h)
        replace hF := hF.trans F123 (fun _ h => h.elim)
        have hC : Fr (fun q => False) w123 g50 w123 g50 := Fr.refl _ _ _
        refine d_pure hS 0 #[true, false, false, false, false, false, false, false] rfl rfl rfl rfl (by kernel_rfl) (fun _ _ _ h => h) (fun _ => (r_move hS rfl rfl)) fun a124 hS124 => d_pure hS124 1 #[true, true, false, false, false, false, false, false] rfl rfl rfl rfl (by kernel_rfl) (fun _ _ _ h => h) (fun _ => (r_len (e := 35) (sz := 3) (by_ := 24) hS124 rfl rfl (by kernel_rfl))) fun a125 hS125 => d_pure hS125 3 #[true, true, false, true, false, false, false, false] rfl rfl rfl rfl (by kernel_rfl) (fun _ _ _ h => h) (fun _ => (r_move hS125 rfl rfl)) fun a126 hS126 => d_pure hS126 4 #[true, true, false, true, true, false, false, false] rfl rfl rfl rfl (by kernel_rfl) (fun _ _ _ h => h) (fun _ => (r_len (e := 35) (sz := 3) (by_ := 24) hS126 rfl rfl (by kernel_rfl))) fun a127 hS127 => ?_
        refine d_two 2 5 #[true, true, true, true, true, false, false, false] #[true, true, false, true, true, true, false, false] rfl rfl (by kernel_rfl) (arm_eff hS127 rfl rfl rfl (e_make (e := 4) (sz := 1) (by_ := 1) (z := [.bool false]) (kd := kbool) (N + 4) g50 hS127 rfl rfl (by kernel_rfl) (by kernel_rfl) rfl rfl rfl (fun _ _ _ => by exact rfl) hy72) (fun _ _ g' hR _ => ⟨g', hC.trans hR.2 (fun _ h => h.elim)⟩) ?_) (arm_eff hS127 rfl rfl rfl (e_make (e := 33) (sz := 1) (by_ := 8) (z := [.int .u64 0]) (kd := (kint .u64)) (N + 6) g50 hS127 rfl rfl (by kernel_rfl) (by kernel_rfl) rfl rfl rfl (fun _ _ _ => by exact rfl) hy78) (fun _ _ g' hR _ => ⟨g', hC.trans hR.2 (fun _ h => h.elim)⟩) ?_)
        · rintro _ a132 w133 g133 ⟨⟨A128, cap129, rfl, h130⟩, F133⟩ hS132
          have hC133 := hC.trans F133 (fun _ h => h.elim)
          replace h16 := OwS.fr h16 F133 (fun _ _ h => h)
          replace h27 := OwS.fr h27 F133 (fun _ _ h => h)
          replace hF := hF.trans F133 (fun _ h => h.elim)
          refine d_pure hS132 6 #[true, true, true, true, true, false, true, false] rfl rfl rfl rfl (by kernel_rfl) (fun _ _ _ h => h) (fun _ => (r_assign hS132 rfl rfl)) fun a134 hS134 => ?_
          refine d_one 5 #[true, true, true, true, true, true, true, false] rfl (by kernel_rfl) (arm_eff hS134 rfl rfl rfl (e_make (e := 33) (sz := 1) (by_ := 8) (z := [.int .u64 0]) (kd := (kint .u64)) (N + 6) g133 hS134 rfl rfl (by kernel_rfl) (by kernel_rfl) rfl rfl rfl (fun _ _ _ => by exact rfl) hy78) (fun _ _ g' hR _ => ⟨g', hC133.trans hR.2 (fun _ h => h.elim)⟩) ?_)
          rintro _ a139 w140 g140 ⟨⟨A135, cap136, rfl, h137⟩, F140⟩ hS139
          have hC140 := hC133.trans F140 (fun _ h => h.elim)
          replace h130 := OwS.fr h130 F140 (fun _ _ h => h)
          replace h16 := OwS.fr h16 F140 (fun _ _ h => h)
          replace h27 := OwS.fr h27 F140 (fun _ _ h => h)
          replace hF := hF.trans F140 (fun _ h => h.elim)
          refine d_pure hS139 7 #[true, true, true, true, true, true, true, true] rfl rfl rfl rfl (by kernel_rfl) (fun _ _ _ h => h) (fun _ => (r_assign hS139 rfl rfl)) fun a141 hS141 => d_done (by kernel_rfl) ?_
          exact ⟨g140, A128, cap129, A135, cap136, hS141.re ⟨rfl, rfl, rfl, rfl, trivial⟩, h16, h27, h130, h137, hF⟩
        · rintro _ a146 w147 g147 ⟨⟨A142, cap143, rfl, h144⟩, F147⟩ hS146
          have hC147 := hC.trans F147 (fun _ h => h.elim)
          replace h16 := OwS.fr h16 F147 (fun _ _ h => h)
          replace h27 := OwS.fr h27 F147 (fun _ _ h => h)
          replace hF := hF.trans F147 (fun _ h => h.elim)
          refine d_one 2 #[true, true, true, true, true, true, false, false] rfl (by kernel_rfl) (arm_eff hS146 rfl rfl rfl (e_make (e := 4) (sz := 1) (by_ := 1) (z := [.bool false]) (kd := kbool) (N + 4) g147 hS146 rfl rfl (by kernel_rfl) (by kernel_rfl) rfl rfl rfl (fun _ _ _ => by exact rfl) hy72) (fun _ _ g' hR _ => ⟨g', hC147.trans hR.2 (fun _ h => h.elim)⟩) ?_)
          rintro _ a152 w153 g153 ⟨⟨A148, cap149, rfl, h150⟩, F153⟩ hS152
          have hC153 := hC147.trans F153 (fun _ h => h.elim)
          replace h144 := OwS.fr h144 F153 (fun _ _ h => h)
          replace h16 := OwS.fr h16 F153 (fun _ _ h => h)
          replace h27 := OwS.fr h27 F153 (fun _ _ h => h)
          replace hF := hF.trans F153 (fun _ h => h.elim)
          refine d_pure hS152 6 #[true, true, true, true, true, true, true, false] rfl rfl rfl rfl (by kernel_rfl) (fun _ _ _ h => h) (fun _ => (r_assign hS152 rfl rfl)) fun a154 hS154 => d_pure hS154 7 #[true, true, true, true, true, true, true, true] rfl rfl rfl rfl (by kernel_rfl) (fun _ _ _ h => h) (fun _ => (r_assign hS154 rfl rfl)) fun a155 hS155 => d_done (by kernel_rfl) ?_
          exact ⟨g153, A148, cap149, A142, cap143, hS155.re ⟨rfl, rfl, rfl, rfl, trivial⟩, h16, h27, h150, h144, hF⟩
      clear h16 h27 hF
      clear hS
      rintro a w116 ⟨g116, A117, cap118, A120, cap121, hS, h16, h27, h119, h122, hF⟩
      obtain ⟨o158, H, Hl159⟩ := bind_el H
      refine c_cut (fun a w156 => ∃ (g156 : Nat → Nat), o158 = .nxt () ∧ Sl 104 a [] ∧ Fr (fun q => N ≤ q) w g w156 g156) ?_ ?_
      · refine c_pure [(5, .slice A14 r12.length cap15), (6, .slice A25 r23.1.length cap26), (8, .slice A117 y71.length cap118), (9, .slice A120 y77.length cap121), (10, .int .i64 0)] (fun R hR => st_val hS rfl rfl rfl (r_assign hS rfl rfl) fun a160 hS160 => wpList_nil (hR _ (hS160.re ⟨rfl, rfl, rfl, rfl, rfl, trivial⟩))) ?_
        clear hS
        clear a
        intro a hS
        refine wp_block ?_
        refine wp_loop_ghost (fun kq => fun a w161 => ∃ (m0_0 : List Bool), ∃ (m0_1 : List Int), ∃ (m0_2 : Int), ∃ (g161 : Nat → Nat), law25_RailsOperationsAlternate.l0 r12 r23 kq m0_0 m0_1 m0_2 = some o158 ∧ Sl 104 a [(5, .slice A14 r12.length cap15), (6, .slice A25 r23.1.length cap26), (8, .slice A117 m0_0.length cap118), (9, .slice A120 m0_1.length cap121), (10, .int .i64 m0_2)] ∧ OwS kd_api_Rail 35 w161 g161 (N + 0) A14 cap15 r12 ∧ OwS kd_api_RailOp 50 w161 g161 (N + 2) A25 cap26 r23.1 ∧ OwS kbool 4 w161 g161 (N + 4) A117 cap118 m0_0 ∧ OwS (kint .u64) 33 w161 g161 (N + 6) A120 cap121 m0_1 ∧ Fr (fun q => N ≤ q) w g w161 g161) FUEL ?_ ?_
        · exact ⟨y71, y77, 0, g116, H, hS.re ⟨rfl, rfl, rfl, rfl, rfl, trivial⟩, h16, h27, h119, h122, hF⟩
        · clear H
          clear h16 h27 h119 h122 hF
          clear hS
          rintro k162 a w161 ⟨m0_0, m0_1, m0_2, g161, hpre0, hS, h16, h27, h119, h122, hF⟩
          have H := hpre0
          clear hpre0
          cases k162 with
          | zero => exact absurd H (by simp [law25_RailsOperationsAlternate.l0])
          | succ k162 =>
            rw [law25_RailsOperationsAlternate.l0] at H
            refine wp_seq ?_
            refine c_pure [(5, .slice A14 r12.length cap15), (6, .slice A25 r23.1.length cap26), (8, .slice A117 m0_0.length cap118), (9, .slice A120 m0_1.length cap121), (10, .int .i64 m0_2), (43, .bool (decide (m0_2 < (r23.1.length : Int))))] (fun R hR => st_val hS rfl rfl rfl (r_move hS rfl rfl) fun a163 hS163 => st_val hS163 rfl rfl rfl (r_move hS163 rfl rfl) fun a164 hS164 => st_val hS164 rfl rfl rfl (r_len (e := 50) (sz := 4) (by_ := 32) hS164 rfl rfl (by kernel_rfl)) fun a165 hS165 => st_val hS165 rfl rfl rfl (r_bin hS165 rfl rfl rfl b_lss) fun a166 hS166 => wpList_nil (hR _ (hS166.re ⟨rfl, rfl, rfl, rfl, rfl, rfl, trivial⟩))) ?_
            clear hS
            clear a
            intro a hS
            refine c_cond hS rfl (fun hb167 => ?_) (fun hb167 => ?_)
            · replace H := ite_t hb167 H
              refine wp_skip ?_
              change Code.wp _ _ _ _ _
              refine wp_seq ?_
              refine wp_block ?_
              obtain ⟨x170, hx171, H⟩ := bind_el H
              refine c_region (fun K hK => ?_)
              refine st_val hS rfl rfl rfl (r_move hS rfl rfl) fun a168 hS168 => st_val hS168 rfl rfl rfl (r_move hS168 rfl rfl) fun a169 hS169 => st_val hS169 rfl rfl rfl (r_index (e := 50) (sz := 4) (by_ := 32) hS169 rfl rfl rfl (by kernel_rfl) (RdS.some_ (OwS.rd h27) hx171) (idx_lo hx171) (idx_hi hx171)) fun a172 hS172 => st_val hS172 rfl rfl rfl (r_loadN (n := 4) (cs := [.int .i64 x170.Rail, .bool x170.On, .int .u64 x170.Start, .int .u64 x170.Done]) hS172 rfl rfl (by kernel_rfl) rfl (RdS.cells_off (OwS.rd h27) hx171 0 4)) fun a173 hS173 => ?_
              refine st_eff hS173 rfl rfl rfl (e_alloc (cs := [.int .i64 0, .bool false, .int .u64 0, .int .u64 0]) (N + 8) g161 hS173 rfl (by kernel_rfl)) ?_
              rintro _ a177 w178 g178 ⟨⟨b174, rfl, h175⟩, F178⟩ hS177
              replace h16 := OwS.fr h16 F178 (fun _ _ h => h)
              replace h27 := OwS.fr h27 F178 (fun _ _ h => h)
              replace h119 := OwS.fr h119 F178 (fun _ _ h => h)
              replace h122 := OwS.fr h122 F178 (fun _ _ h => h)
              replace hF := hF.trans F178 (fun _ h => h.elim)
              refine st_effS hS177 rfl rfl (e_storeB (n := 4) (bb := true) (cs' := [.int .i64 x170.Rail, .bool x170.On, .int .u64 x170.Start, .int .u64 x170.Done]) g178 hS177 rfl rfl rfl (by kernel_rfl) rfl rfl rfl h175 rfl rfl) ?_
              rintro a179 w180 g180 ⟨h175, F180⟩ hS179
              replace h16 := OwS.fr h16 F180 (fun c' hc (hm : c' = N + 8) => by omega)
              replace h27 := OwS.fr h27 F180 (fun c' hc (hm : c' = N + 8) => by omega)
              replace h119 := OwS.fr h119 F180 (fun c' hc (hm : c' = N + 8) => by omega)
              replace h122 := OwS.fr h122 F180 (fun c' hc (hm : c' = N + 8) => by omega)
              replace hF := hF.trans F180 (fun c' (hm : c' = N + 8) => by show N ≤ c'; omega)
              refine wpList_nil (hK _ _ ?_)
              replace hS : Sl 104 _ [(5, .slice A14 r12.length cap15), (6, .slice A25 r23.1.length cap26), (8, .slice A117 m0_0.length cap118), (9, .slice A120 m0_1.length cap121), (10, .int .i64 m0_2), (11, .pointer (some ⟨b174, 0, none⟩))] := hS179.re ⟨rfl, rfl, rfl, rfl, rfl, rfl, trivial⟩
              clear hK K
              try clear hS168 hS169 hS172 hS173 hS177 hS179
              obtain ⟨a, ha⟩ : ∃ a', a' = a179 := ⟨_, rfl⟩
              rw [← ha] at hS ⊢; clear ha
              obtain ⟨x184, hx185, H⟩ := bind_el H
              refine c_pure [(5, .slice A14 r12.length cap15), (6, .slice A25 r23.1.length cap26), (8, .slice A117 m0_0.length cap118), (9, .slice A120 m0_1.length cap121), (10, .int .i64 m0_2), (11, .pointer (some ⟨b174, 0, none⟩)), (12, .int .u64 x184.RampDown)] (fun R hR => st_val hS rfl rfl rfl (r_move hS rfl rfl) fun a181 hS181 => st_val hS181 rfl rfl rfl (r_fieldB (off := 0) hS181 rfl rfl (by kernel_rfl)) fun a182 hS182 => st_val hS182 rfl rfl rfl (r_load1 (n := 1) hS182 rfl rfl (by kernel_rfl) (Bx.cell h175 rfl)) fun a183 hS183 => st_val hS183 rfl rfl rfl (r_index (e := 35) (sz := 3) (by_ := 24) hS183 rfl rfl rfl (by kernel_rfl) (RdS.some_ (OwS.rd h16) hx185) (idx_lo hx185) (idx_hi hx185)) fun a186 hS186 => st_val hS186 rfl rfl rfl (r_fieldE (off := 2) hS186 rfl rfl (by kernel_rfl)) fun a187 hS187 => st_val hS187 rfl rfl rfl (r_load1 (n := 1) hS187 rfl rfl (by kernel_rfl) (RdS.cell (i := x170.Rail) (sz := 3) (j := 2) (OwS.rd h16) hx185 rfl)) fun a188 hS188 => st_val hS188 rfl rfl rfl (r_assign hS188 rfl rfl) fun a189 hS189 => wpList_nil (hR _ (hS189.re ⟨rfl, rfl, rfl, rfl, rfl, rfl, rfl, trivial⟩))) ?_
              clear hS
              clear a
              intro a hS
              obtain ⟨v190, H, Hl192⟩ := bind_el H
              refine c_cut (fun a w' => w180 = w' ∧ Sl 104 a [(5, .slice A14 r12.length cap15), (6, .slice A25 r23.1.length cap26), (8, .slice A117 m0_0.length cap118), (9, .slice A120 m0_1.length cap121), (10, .int .i64 m0_2), (11, .pointer (some ⟨b174, 0, none⟩)), (12, .int .u64 v190)]) ?_ ?_
              · refine c_pure [(5, .slice A14 r12.length cap15), (6, .slice A25 r23.1.length cap26), (8, .slice A117 m0_0.length cap118), (9, .slice A120 m0_1.length cap121), (10, .int .i64 m0_2), (11, .pointer (some ⟨b174, 0, none⟩)), (12, .int .u64 x184.RampDown), (57, .bool x170.On)] (fun R hR => st_val hS rfl rfl rfl (r_fieldB (off := 1) hS rfl rfl (by kernel_rfl)) fun a193 hS193 => st_val hS193 rfl rfl rfl (r_load1 (n := 1) hS193 rfl rfl (by kernel_rfl) (Bx.cell h175 rfl)) fun a194 hS194 => wpList_nil (hR _ (hS194.re ⟨rfl, rfl, rfl, rfl, rfl, rfl, rfl, rfl, trivial⟩))) ?_
                clear hS
                clear a
                intro a hS
                refine c_cond hS rfl (fun hb195 => ?_) (fun hb195 => ?_)
                · replace H := ite_t hb195 H
                  refine c_pure1 [(5, .slice A14 r12.length cap15), (6, .slice A25 r23.1.length cap26), (8, .slice A117 m0_0.length cap118), (9, .slice A120 m0_1.length cap121), (10, .int .i64 m0_2), (11, .pointer (some ⟨b174, 0, none⟩)), (12, .int .u64 x184.RampUp)] (fun R hR => st_val hS rfl rfl rfl (r_move hS rfl rfl) fun a196 hS196 => st_val hS196 rfl rfl rfl (r_fieldB (off := 0) hS196 rfl rfl (by kernel_rfl)) fun a197 hS197 => st_val hS197 rfl rfl rfl (r_load1 (n := 1) hS197 rfl rfl (by kernel_rfl) (Bx.cell h175 rfl)) fun a198 hS198 => st_val hS198 rfl rfl rfl (r_index (e := 35) (sz := 3) (by_ := 24) hS198 rfl rfl rfl (by kernel_rfl) (RdS.some_ (OwS.rd h16) hx185) (idx_lo hx185) (idx_hi hx185)) fun a199 hS199 => st_val hS199 rfl rfl rfl (r_fieldE (off := 1) hS199 rfl rfl (by kernel_rfl)) fun a200 hS200 => st_val hS200 rfl rfl rfl (r_load1 (n := 1) hS200 rfl rfl (by kernel_rfl) (RdS.cell (i := x170.Rail) (sz := 3) (j := 1) (OwS.rd h16) hx185 rfl)) fun a201 hS201 => st_val hS201 rfl rfl rfl (r_assign hS201 rfl rfl) fun a202 hS202 => wpList_nil (hR _ (hS202.re ⟨rfl, rfl, rfl, rfl, rfl, rfl, rfl, trivial⟩))) ?_
                  clear hS
                  clear a
                  intro a hS
                  have e := Option.some.inj H
                  subst e
                  exact ⟨rfl, hS.re ⟨rfl, rfl, rfl, rfl, rfl, rfl, rfl, trivial⟩⟩
                · replace H := ite_f hb195 H
                  refine wp_skip ?_
                  have e := Option.some.inj H
                  subst e
                  exact ⟨rfl, hS.re ⟨rfl, rfl, rfl, rfl, rfl, rfl, rfl, trivial⟩⟩
              · clear H
                clear hS
                rintro a w' ⟨hw, hS⟩
                subst hw
                have H := Hl192
                clear Hl192
                refine wp_seq ?_
                obtain ⟨x209, hx210, H⟩ := bind_el H
                obtain ⟨t226, ht227, H⟩ := bind_el H
                refine c_draw (fun K hK => d_start (fun q => False) g180 [] 27 #[false, false, false, false, false, false, false, false, false, false, false, false, false, false, false, false, false, false, false, false, false, false, false, false, false, false, false] (by kernel_rfl) rfl rfl (fun w203 hw203 => ?_))
                have F203 : Fr (fun _ => False) w180 g180 w203 g180 := by rw [hw203]; exact Fr.drew _ _ _
                replace h16 := OwS.fr h16 F203 (fun _ _ h => h)
                replace h175 := h175.fr F203 (fun h => h)
                replace h27 := OwS.fr h27 F203 (fun _ _ h => h)
                replace h119 := OwS.fr h119 F203 (fun _ _ h => h)
                replace h122 := OwS.fr h122 F203 (fun _ _ h => h)
                replace hF := hF.trans F203 (fun _ h => h.elim)
                have hC : Fr (fun q => False) w203 g180 w203 g180 := Fr.refl _ _ _
                refine d_pure hS 0 #[true, false, false, false, false, false, false, false, false, false, false, false, false, false, false, false, false, false, false, false, false, false, false, false, false, false, false] rfl rfl rfl rfl (by kernel_rfl) (fun _ _ _ h => h) (fun _ => (r_fieldB (off := 1) hS rfl rfl (by kernel_rfl))) fun a204 hS204 => d_take hS204 1 #[true, true, false, false, false, false, false, false, false, false, false, false, false, false, false, false, false, false, false, false, false, false, false, false, false, false, false] rfl rfl rfl rfl (by kernel_rfl) (fun _ _ _ h => h) ⟨_, hC⟩ (fun w' g' Fz => (r_load1 (n := 1) hS204 rfl rfl (by kernel_rfl) (Bx.cell (h175.fr Fz (fun h => h)) rfl))) fun a205 hS205 => d_pure hS205 2 #[true, true, true, false, false, false, false, false, false, false, false, false, false, false, false, false, false, false, false, false, false, false, false, false, false, false, false] rfl rfl rfl rfl (by kernel_rfl) (fun _ _ _ h => h) (fun _ => (r_move hS205 rfl rfl)) fun a206 hS206 => d_pure hS206 3 #[true, true, true, true, false, false, false, false, false, false, false, false, false, false, false, false, false, false, false, false, false, false, false, false, false, false, false] rfl rfl rfl rfl (by kernel_rfl) (fun _ _ _ h => h) (fun _ => (r_fieldB (off := 0) hS206 rfl rfl (by kernel_rfl))) fun a207 hS207 => d_take hS207 4 #[true, true, true, true, true, false, false, false, false, false, false, false, false, false, false, false, false, false, false, false, false, false, false, false, false, false, false] rfl rfl rfl rfl (by kernel_rfl) (fun _ _ _ h => h) ⟨_, hC⟩ (fun w' g' Fz => (r_load1 (n := 1) hS207 rfl rfl (by kernel_rfl) (Bx.cell (h175.fr Fz (fun h => h)) rfl))) fun a208 hS208 => d_pure hS208 5 #[true, true, true, true, true, true, false, false, false, false, false, false, false, false, false, false, false, false, false, false, false, false, false, false, false, false, false] rfl rfl rfl rfl (by kernel_rfl) (fun _ _ _ h => h) (fun _ => (r_index (e := 4) (sz := 1) (by_ := 1) hS208 rfl rfl rfl (by kernel_rfl) (RdS.some_ (OwS.rd h119) hx210) (idx_lo hx210) (idx_hi hx210))) fun a211 hS211 => d_take hS211 6 #[true, true, true, true, true, true, true, false, false, false, false, false, false, false, false, false, false, false, false, false, false, false, false, false, false, false, false] rfl rfl rfl rfl (by kernel_rfl) (fun _ _ _ h => h) ⟨_, hC⟩ (fun w' g' Fz => (r_load1 (n := 1) hS211 rfl rfl (by kernel_rfl) (RdS.cell (i := x170.Rail) (sz := 1) (j := 0) (OwS.rd (OwS.fr h119 Fz (fun _ _ h => h))) hx210 rfl))) fun a212 hS212 => d_pure hS212 7 #[true, true, true, true, true, true, true, true, false, false, false, false, false, false, false, false, false, false, false, false, false, false, false, false, false, false, false] rfl rfl rfl rfl (by kernel_rfl) (fun _ _ _ h => h) (fun _ => (r_binB hS212 rfl rfl rfl (b_eqlB (by kernel_rfl)))) fun a213 hS213 => d_pure hS213 8 #[true, true, true, true, true, true, true, true, true, false, false, false, false, false, false, false, false, false, false, false, false, false, false, false, false, false, false] rfl rfl rfl rfl (by kernel_rfl) (fun _ _ _ h => h) (fun _ => (r_move hS213 rfl rfl)) fun a214 hS214 => ?_
                refine d_join (N := 104) 9 #[true, true, true, true, true, true, true, true, true, true, true, true, true, true, true, true, true, true, false, false, false, false, false, false, false, false, false] [(5, .slice A14 r12.length cap15), (6, .slice A25 r23.1.length cap26), (8, .slice A117 m0_0.length cap118), (9, .slice A120 m0_1.length cap121), (10, .int .i64 m0_2), (11, .pointer (some ⟨b174, 0, none⟩)), (12, .int .u64 v190), (81, .bool t226)] ?_ (fun hk => ?_)
                rotate_left
                · rcases Bool.eq_false_or_eq_true ((x170.On == x209)) with hb215 | hb215
                  · have H := ite_t hb215 ht227
                    have e228 := Option.some.inj H
                    refine d_off hS214 9 #[true, true, true, true, true, true, true, true, true, true, false, false, false, false, false, false, false, false, false, false, false, false, false, false, false, false, false] rfl (want_off hS214 rfl rfl rfl hb215) rfl rfl (by kernel_rfl) (fun _ _ _ h => h) fun a229 hS229 => d_off hS229 10 #[true, true, true, true, true, true, true, true, true, true, true, false, false, false, false, false, false, false, false, false, false, false, false, false, false, false, false] rfl (want_off hS229 rfl rfl rfl hb215) rfl rfl (by kernel_rfl) (fun _ _ _ h => h) fun a230 hS230 => d_off hS230 11 #[true, true, true, true, true, true, true, true, true, true, true, true, false, false, false, false, false, false, false, false, false, false, false, false, false, false, false] rfl (want_off hS230 rfl rfl rfl hb215) rfl rfl (by kernel_rfl) (fun _ _ _ h => h) fun a231 hS231 => d_off hS231 12 #[true, true, true, true, true, true, true, true, true, true, true, true, true, false, false, false, false, false, false, false, false, false, false, false, false, false, false] rfl (want_off hS231 rfl rfl rfl hb215) rfl rfl (by kernel_rfl) (fun _ _ _ h => h) fun a232 hS232 => d_off hS232 13 #[true, true, true, true, true, true, true, true, true, true, true, true, true, true, false, false, false, false, false, false, false, false, false, false, false, false, false] rfl (want_off hS232 rfl rfl rfl hb215) rfl rfl (by kernel_rfl) (fun _ _ _ h => h) fun a233 hS233 => d_off hS233 14 #[true, true, true, true, true, true, true, true, true, true, true, true, true, true, true, false, false, false, false, false, false, false, false, false, false, false, false] rfl (want_off hS233 rfl rfl rfl hb215) rfl rfl (by kernel_rfl) (fun _ _ _ h => h) fun a234 hS234 => d_off hS234 15 #[true, true, true, true, true, true, true, true, true, true, true, true, true, true, true, true, false, false, false, false, false, false, false, false, false, false, false] rfl (want_off hS234 rfl rfl rfl hb215) rfl rfl (by kernel_rfl) (fun _ _ _ h => h) fun a235 hS235 => d_off hS235 16 #[true, true, true, true, true, true, true, true, true, true, true, true, true, true, true, true, true, false, false, false, false, false, false, false, false, false, false] rfl (want_off hS235 rfl rfl rfl hb215) rfl rfl (by kernel_rfl) (fun _ _ _ h => h) fun a236 hS236 => d_pure hS236 17 #[true, true, true, true, true, true, true, true, true, true, true, true, true, true, true, true, true, true, false, false, false, false, false, false, false, false, false] rfl rfl rfl rfl (by kernel_rfl) (fun _ _ _ h => h) (fun _ => (r_pickT hS236 rfl rfl rfl hb215)) fun a237 hS237 => hk _ (hS237.re ⟨rfl, rfl, rfl, rfl, rfl, rfl, rfl, (by rw [← e228]; rfl), trivial⟩)
                  · have H := ite_f hb215 ht227
                    obtain ⟨x243, hx244, H⟩ := bind_el H
                    have e248 := Option.some.inj H
                    refine d_pureW hS214 9 #[true, true, true, true, true, true, true, true, true, true, false, false, false, false, false, false, false, false, false, false, false, false, false, false, false, false, false] rfl (want_on hS214 rfl rfl rfl hb215) rfl rfl (by kernel_rfl) (fun _ _ _ h => h) (fun _ => (r_fieldB (off := 2) hS214 rfl rfl (by kernel_rfl))) fun a238 hS238 => d_takeW hS238 10 #[true, true, true, true, true, true, true, true, true, true, true, false, false, false, false, false, false, false, false, false, false, false, false, false, false, false, false] rfl (want_on hS238 rfl rfl rfl hb215) rfl rfl (by kernel_rfl) (fun _ _ _ h => h) ⟨_, hC⟩ (fun w' g' Fz => (r_load1 (n := 1) hS238 rfl rfl (by kernel_rfl) (Bx.cell (h175.fr Fz (fun h => h)) rfl))) fun a239 hS239 => d_pureW hS239 11 #[true, true, true, true, true, true, true, true, true, true, true, true, false, false, false, false, false, false, false, false, false, false, false, false, false, false, false] rfl (want_on hS239 rfl rfl rfl hb215) rfl rfl (by kernel_rfl) (fun _ _ _ h => h) (fun _ => (r_move hS239 rfl rfl)) fun a240 hS240 => d_pureW hS240 12 #[true, true, true, true, true, true, true, true, true, true, true, true, true, false, false, false, false, false, false, false, false, false, false, false, false, false, false] rfl (want_on hS240 rfl rfl rfl hb215) rfl rfl (by kernel_rfl) (fun _ _ _ h => h) (fun _ => (r_fieldB (off := 0) hS240 rfl rfl (by kernel_rfl))) fun a241 hS241 => d_takeW hS241 13 #[true, true, true, true, true, true, true, true, true, true, true, true, true, true, false, false, false, false, false, false, false, false, false, false, false, false, false] rfl (want_on hS241 rfl rfl rfl hb215) rfl rfl (by kernel_rfl) (fun _ _ _ h => h) ⟨_, hC⟩ (fun w' g' Fz => (r_load1 (n := 1) hS241 rfl rfl (by kernel_rfl) (Bx.cell (h175.fr Fz (fun h => h)) rfl))) fun a242 hS242 => d_pureW hS242 14 #[true, true, true, true, true, true, true, true, true, true, true, true, true, true, true, false, false, false, false, false, false, false, false, false, false, false, false] rfl (want_on hS242 rfl rfl rfl hb215) rfl rfl (by kernel_rfl) (fun _ _ _ h => h) (fun _ => (r_index (e := 33) (sz := 1) (by_ := 8) hS242 rfl rfl rfl (by kernel_rfl) (RdS.some_ (OwS.rd h122) hx244) (idx_lo hx244) (idx_hi hx244))) fun a245 hS245 => d_takeW hS245 15 #[true, true, true, true, true, true, true, true, true, true, true, true, true, true, true, true, false, false, false, false, false, false, false, false, false, false, false] rfl (want_on hS245 rfl rfl rfl hb215) rfl rfl (by kernel_rfl) (fun _ _ _ h => h) ⟨_, hC⟩ (fun w' g' Fz => (r_load1 (n := 1) hS245 rfl rfl (by kernel_rfl) (RdS.cell (i := x170.Rail) (sz := 1) (j := 0) (OwS.rd (OwS.fr h122 Fz (fun _ _ h => h))) hx244 rfl))) fun a246 hS246 => d_pureW hS246 16 #[true, true, true, true, true, true, true, true, true, true, true, true, true, true, true, true, true, false, false, false, false, false, false, false, false, false, false] rfl (want_on hS246 rfl rfl rfl hb215) rfl rfl (by kernel_rfl) (fun _ _ _ h => h) (fun _ => (r_bin hS246 rfl rfl rfl b_lss)) fun a247 hS247 => d_pure hS247 17 #[true, true, true, true, true, true, true, true, true, true, true, true, true, true, true, true, true, true, false, false, false, false, false, false, false, false, false] rfl rfl rfl rfl (by kernel_rfl) (fun _ _ _ h => h) (fun _ => (r_pickF hS247 rfl rfl rfl hb215)) fun a249 hS249 => hk _ (hS249.re ⟨rfl, rfl, rfl, rfl, rfl, rfl, rfl, (by rw [← e248]; rfl), trivial⟩)
                intro a250 hS250
                refine d_pure hS250 18 #[true, true, true, true, true, true, true, true, true, true, true, true, true, true, true, true, true, true, true, false, false, false, false, false, false, false, false] rfl rfl rfl rfl (by kernel_rfl) (fun _ _ _ h => h) (fun _ => (r_move hS250 rfl rfl)) fun a251 hS251 => ?_
                refine d_join (N := 104) 0 #[true, true, true, true, true, true, true, true, true, true, true, true, true, true, true, true, true, true, true, true, true, true, true, true, true, true, true] [(5, .slice A14 r12.length cap15), (6, .slice A25 r23.1.length cap26), (8, .slice A117 m0_0.length cap118), (9, .slice A120 m0_1.length cap121), (10, .int .i64 m0_2), (11, .pointer (some ⟨b174, 0, none⟩)), (90, .bool (t226 || (x170.Done != (wu (x170.Start + v190)))))] ?_ (fun hk => ?_)
                rotate_left
                · rcases Bool.eq_false_or_eq_true (t226) with hb252 | hb252
                  · refine d_off hS251 19 #[true, true, true, true, true, true, true, true, true, true, true, true, true, true, true, true, true, true, true, true, false, false, false, false, false, false, false] rfl (want_off hS251 rfl rfl rfl hb252) rfl rfl (by kernel_rfl) (fun _ _ _ h => h) fun a260 hS260 => d_off hS260 20 #[true, true, true, true, true, true, true, true, true, true, true, true, true, true, true, true, true, true, true, true, true, false, false, false, false, false, false] rfl (want_off hS260 rfl rfl rfl hb252) rfl rfl (by kernel_rfl) (fun _ _ _ h => h) fun a261 hS261 => d_off hS261 21 #[true, true, true, true, true, true, true, true, true, true, true, true, true, true, true, true, true, true, true, true, true, true, false, false, false, false, false] rfl (want_off hS261 rfl rfl rfl hb252) rfl rfl (by kernel_rfl) (fun _ _ _ h => h) fun a262 hS262 => d_off hS262 22 #[true, true, true, true, true, true, true, true, true, true, true, true, true, true, true, true, true, true, true, true, true, true, true, false, false, false, false] rfl (want_off hS262 rfl rfl rfl hb252) rfl rfl (by kernel_rfl) (fun _ _ _ h => h) fun a263 hS263 => d_off hS263 23 #[true, true, true, true, true, true, true, true, true, true, true, true, true, true, true, true, true, true, true, true, true, true, true, true, false, false, false] rfl (want_off hS263 rfl rfl rfl hb252) rfl rfl (by kernel_rfl) (fun _ _ _ h => h) fun a264 hS264 => d_off hS264 24 #[true, true, true, true, true, true, true, true, true, true, true, true, true, true, true, true, true, true, true, true, true, true, true, true, true, false, false] rfl (want_off hS264 rfl rfl rfl hb252) rfl rfl (by kernel_rfl) (fun _ _ _ h => h) fun a265 hS265 => d_off hS265 25 #[true, true, true, true, true, true, true, true, true, true, true, true, true, true, true, true, true, true, true, true, true, true, true, true, true, true, false] rfl (want_off hS265 rfl rfl rfl hb252) rfl rfl (by kernel_rfl) (fun _ _ _ h => h) fun a266 hS266 => d_pure hS266 26 #[true, true, true, true, true, true, true, true, true, true, true, true, true, true, true, true, true, true, true, true, true, true, true, true, true, true, true] rfl rfl rfl rfl (by kernel_rfl) (fun _ _ _ h => h) (fun _ => (r_pickT hS266 rfl rfl rfl hb252)) fun a267 hS267 => hk _ (hS267.re ⟨rfl, rfl, rfl, rfl, rfl, rfl, (by rw [hb252]; rfl), trivial⟩)
                  · refine d_pureW hS251 19 #[true, true, true, true, true, true, true, true, true, true, true, true, true, true, true, true, true, true, true, true, false, false, false, false, false, false, false] rfl (want_on hS251 rfl rfl rfl hb252) rfl rfl (by kernel_rfl) (fun _ _ _ h => h) (fun _ => (r_fieldB (off := 3) hS251 rfl rfl (by kernel_rfl))) fun a268 hS268 => d_takeW hS268 20 #[true, true, true, true, true, true, true, true, true, true, true, true, true, true, true, true, true, true, true, true, true, false, false, false, false, false, false] rfl (want_on hS268 rfl rfl rfl hb252) rfl rfl (by kernel_rfl) (fun _ _ _ h => h) ⟨_, hC⟩ (fun w' g' Fz => (r_load1 (n := 1) hS268 rfl rfl (by kernel_rfl) (Bx.cell (h175.fr Fz (fun h => h)) rfl))) fun a269 hS269 => d_pureW hS269 21 #[true, true, true, true, true, true, true, true, true, true, true, true, true, true, true, true, true, true, true, true, true, true, false, false, false, false, false] rfl (want_on hS269 rfl rfl rfl hb252) rfl rfl (by kernel_rfl) (fun _ _ _ h => h) (fun _ => (r_fieldB (off := 2) hS269 rfl rfl (by kernel_rfl))) fun a270 hS270 => d_takeW hS270 22 #[true, true, true, true, true, true, true, true, true, true, true, true, true, true, true, true, true, true, true, true, true, true, true, false, false, false, false] rfl (want_on hS270 rfl rfl rfl hb252) rfl rfl (by kernel_rfl) (fun _ _ _ h => h) ⟨_, hC⟩ (fun w' g' Fz => (r_load1 (n := 1) hS270 rfl rfl (by kernel_rfl) (Bx.cell (h175.fr Fz (fun h => h)) rfl))) fun a271 hS271 => d_pureW hS271 23 #[true, true, true, true, true, true, true, true, true, true, true, true, true, true, true, true, true, true, true, true, true, true, true, true, false, false, false] rfl (want_on hS271 rfl rfl rfl hb252) rfl rfl (by kernel_rfl) (fun _ _ _ h => h) (fun _ => (r_move hS271 rfl rfl)) fun a272 hS272 => d_pureW hS272 24 #[true, true, true, true, true, true, true, true, true, true, true, true, true, true, true, true, true, true, true, true, true, true, true, true, true, false, false] rfl (want_on hS272 rfl rfl rfl hb252) rfl rfl (by kernel_rfl) (fun _ _ _ h => h) (fun _ => (r_bin hS272 rfl rfl rfl b_add)) fun a273 hS273 => d_pureW hS273 25 #[true, true, true, true, true, true, true, true, true, true, true, true, true, true, true, true, true, true, true, true, true, true, true, true, true, true, false] rfl (want_on hS273 rfl rfl rfl hb252) rfl rfl (by kernel_rfl) (fun _ _ _ h => h) (fun _ => (r_bin hS273 rfl rfl rfl b_neq)) fun a274 hS274 => d_pure hS274 26 #[true, true, true, true, true, true, true, true, true, true, true, true, true, true, true, true, true, true, true, true, true, true, true, true, true, true, true] rfl rfl rfl rfl (by kernel_rfl) (fun _ _ _ h => h) (fun _ => (r_pickF hS274 rfl rfl rfl hb252)) fun a275 hS275 => hk _ (hS275.re ⟨rfl, rfl, rfl, rfl, rfl, rfl, (by rw [hb252]; rfl), trivial⟩)
                intro a276 hS276
                refine d_done (by kernel_rfl) (hK _ _ ?_)
                replace hS : Sl 104 _ [(5, .slice A14 r12.length cap15), (6, .slice A25 r23.1.length cap26), (8, .slice A117 m0_0.length cap118), (9, .slice A120 m0_1.length cap121), (10, .int .i64 m0_2), (11, .pointer (some ⟨b174, 0, none⟩)), (90, .bool (t226 || (x170.Done != (wu (x170.Start + v190)))))] := hS276.re ⟨rfl, rfl, rfl, rfl, rfl, rfl, rfl, trivial⟩
                clear hK K hC
                try clear hS204 hS205 hS206 hS207 hS208 hS211 hS212 hS213 hS214 hS250 hS251 hS276
                obtain ⟨a, ha⟩ : ∃ a', a' = a276 := ⟨_, rfl⟩
                rw [← ha] at hS ⊢; clear ha
                refine c_cond hS rfl (fun hb277 => ?_) (fun hb277 => ?_)
                · replace H := ite_t hb277 H
                  refine c_pure [(4, .bool false)] (fun R hR => st_val hS rfl rfl rfl (r_assign hS rfl rfl) fun a278 hS278 => wpList_nil (hR _ (hS278.re ⟨rfl, trivial⟩))) ?_
                  clear hS
                  clear a
                  intro a hS
                  refine wp_ret ?_
                  have e := Option.some.inj H
                  subst e
                  replace H := Fl.go_out Hl159
                  have e := Option.some.inj H
                  subst e
                  repeat (with_reducible first | refine then_ret ?_ | refine inBlock_ret ?_)
                  exact c_ret1 hS Try.results5 rfl ⟨_, rfl, g180, rfl, hF⟩
                · replace H := ite_f hb277 H
                  refine wp_skip ?_
                  change Code.wp _ _ _ _ _
                  obtain ⟨x279, hx280, H⟩ := bind_el H
                  refine c_draw1 (fun K hK => d_start (fun q => q = N + 4) g180 [13] 14 #[false, false, false, false, false, false, false, false, false, false, false, false, false, false] (by kernel_rfl) rfl rfl (fun w281 hw281 => ?_))
                  have F281 : Fr (fun _ => False) w203 g180 w281 g180 := by rw [hw281]; exact Fr.drew _ _ _
                  replace h16 := OwS.fr h16 F281 (fun _ _ h => h)
                  replace h175 := h175.fr F281 (fun h => h)
                  replace h27 := OwS.fr h27 F281 (fun _ _ h => h)
                  replace h119 := OwS.fr h119 F281 (fun _ _ h => h)
                  replace h122 := OwS.fr h122 F281 (fun _ _ h => h)
                  replace hF := hF.trans F281 (fun _ h => h.elim)
                  have hC : Fr (fun q => q = N + 4) w281 g180 w281 g180 := Fr.refl _ _ _
                  refine d_pure hS 0 #[true, false, false, false, false, false, false, false, false, false, false, false, false, false] rfl rfl rfl rfl (by kernel_rfl) (fun _ _ _ h => h) (fun _ => (r_move hS rfl rfl)) fun a282 hS282 => d_pure hS282 1 #[true, true, false, false, false, false, false, false, false, false, false, false, false, false] rfl rfl rfl rfl (by kernel_rfl) (fun _ _ _ h => h) (fun _ => (r_fieldB (off := 0) hS282 rfl rfl (by kernel_rfl))) fun a283 hS283 => d_take hS283 2 #[true, true, true, false, false, false, false, false, false, false, false, false, false, false] rfl rfl rfl rfl (by kernel_rfl) (fun _ _ _ h => h) ⟨_, hC⟩ (fun w' g' Fz => (r_load1 (n := 1) hS283 rfl rfl (by kernel_rfl) (Bx.cell (h175.fr Fz (fun (hm : N + 8 = N + 4) => by omega)) rfl))) fun a284 hS284 => d_pure hS284 3 #[true, true, true, true, false, false, false, false, false, false, false, false, false, false] rfl rfl rfl rfl (by kernel_rfl) (fun _ _ _ h => h) (fun _ => (r_move hS284 rfl rfl)) fun a285 hS285 => d_pure hS285 4 #[true, true, true, true, true, false, false, false, false, false, false, false, false, false] rfl rfl rfl rfl (by kernel_rfl) (fun _ _ _ h => h) (fun _ => (r_fieldB (off := 0) hS285 rfl rfl (by kernel_rfl))) fun a286 hS286 => d_take hS286 5 #[true, true, true, true, true, true, false, false, false, false, false, false, false, false] rfl rfl rfl rfl (by kernel_rfl) (fun _ _ _ h => h) ⟨_, hC⟩ (fun w' g' Fz => (r_load1 (n := 1) hS286 rfl rfl (by kernel_rfl) (Bx.cell (h175.fr Fz (fun (hm : N + 8 = N + 4) => by omega)) rfl))) fun a287 hS287 => d_pure hS287 6 #[true, true, true, true, true, true, true, false, false, false, false, false, false, false] rfl rfl rfl rfl (by kernel_rfl) (fun _ _ _ h => h) (fun _ => (r_fieldB (off := 1) hS287 rfl rfl (by kernel_rfl))) fun a288 hS288 => d_take hS288 7 #[true, true, true, true, true, true, true, true, false, false, false, false, false, false] rfl rfl rfl rfl (by kernel_rfl) (fun _ _ _ h => h) ⟨_, hC⟩ (fun w' g' Fz => (r_load1 (n := 1) hS288 rfl rfl (by kernel_rfl) (Bx.cell (h175.fr Fz (fun (hm : N + 8 = N + 4) => by omega)) rfl))) fun a289 hS289 => d_pure hS289 8 #[true, true, true, true, true, true, true, true, true, false, false, false, false, false] rfl rfl rfl rfl (by kernel_rfl) (fun _ _ _ h => h) (fun _ => (r_fieldB (off := 3) hS289 rfl rfl (by kernel_rfl))) fun a290 hS290 => d_take hS290 9 #[true, true, true, true, true, true, true, true, true, true, false, false, false, false] rfl rfl rfl rfl (by kernel_rfl) (fun _ _ _ h => h) ⟨_, hC⟩ (fun w' g' Fz => (r_load1 (n := 1) hS290 rfl rfl (by kernel_rfl) (Bx.cell (h175.fr Fz (fun (hm : N + 8 = N + 4) => by omega)) rfl))) fun a291 hS291 => d_pure hS291 10 #[true, true, true, true, true, true, true, true, true, true, true, false, false, false] rfl rfl rfl rfl (by kernel_rfl) (fun _ _ _ h => h) (fun _ => (r_index (e := 4) (sz := 1) (by_ := 1) hS291 rfl rfl rfl (by kernel_rfl) (RdS.some_ (OwS.rd h119) hx210) (idx_lo hx210) (idx_hi hx210))) fun a292 hS292 => ?_
                  refine d_one 11 #[true, true, true, true, true, true, true, true, true, true, true, true, false, false] rfl (by kernel_rfl) (arm_effS hS292 rfl rfl (e_storeE (n := 1) (bb := false) (kd := kbool) (j := 0) (x' := x170.On) (us := [.bool x170.On]) g180 hS292 rfl rfl rfl rfl (by kernel_rfl) rfl rfl (by intro v hv; simp only [List.mem_cons, List.not_mem_nil, or_false] at hv; rcases hv with rfl <;> rfl) h119 hx210 rfl (fun _ _ cs hR => by rw [show cs = _ from hR]; rfl)) (.inr (fun _ g' hR _ => ⟨g', hC.trans hR.2 (fun c' (hm : c' = N + 4) => by show c' = N + 4; omega)⟩)) ?_)
                  rintro a293 w294 g294 ⟨h119, F294⟩ hS293
                  have hC294 := hC.trans F294 (fun c' (hm : c' = N + 4) => by show c' = N + 4; omega)
                  replace h16 := OwS.fr h16 F294 (fun c' hc (hm : c' = N + 4) => by omega)
                  replace h175 := h175.fr F294 (fun (hm : N + 8 = N + 4) => by omega)
                  replace h27 := OwS.fr h27 F294 (fun c' hc (hm : c' = N + 4) => by omega)
                  replace h122 := OwS.fr h122 F294 (fun c' hc (hm : c' = N + 4) => by omega)
                  replace hF := hF.trans F294 (fun c' (hm : c' = N + 4) => by show N ≤ c'; omega)
                  have hT : Sl 104 a293 [(5, .slice A14 r12.length cap15), (6, .slice A25 r23.1.length cap26), (8, .slice A117 m0_0.length cap118), (9, .slice A120 m0_1.length cap121), (10, .int .i64 m0_2), (94, .slice A120 m0_1.length cap121), (96, .int .i64 x170.Rail), (100, .int .u64 x170.Done)] := hS293.re ⟨rfl, rfl, rfl, rfl, rfl, rfl, rfl, rfl, trivial⟩
                  replace hS293 : Sl 104 a293 [(5, .slice A14 r12.length cap15), (6, .slice A25 r23.1.length cap26), (8, .slice A117 (upd m0_0 x170.Rail x170.On).length cap118), (9, .slice A120 m0_1.length cap121), (10, .int .i64 m0_2), (94, .slice A120 m0_1.length cap121), (96, .int .i64 x170.Rail), (100, .int .u64 x170.Done)] := by simpa only [upd_length] using hT
                  clear hT
                  refine d_pure hS293 12 #[true, true, true, true, true, true, true, true, true, true, true, true, true, false] rfl rfl rfl rfl (by kernel_rfl) (fun _ _ _ h => h) (fun _ => (r_index (e := 33) (sz := 1) (by_ := 8) hS293 rfl rfl rfl (by kernel_rfl) (RdS.some_ (OwS.rd h122) hx280) (idx_lo hx280) (idx_hi hx280))) fun a295 hS295 => ?_
                  refine d_one 13 #[true, true, true, true, true, true, true, true, true, true, true, true, true, true] rfl (by kernel_rfl) (arm_effS hS295 rfl rfl (e_storeE (n := 1) (bb := false) (kd := (kint .u64)) (j := 0) (x' := x170.Done) (us := [.int .u64 x170.Done]) g294 hS295 rfl rfl rfl rfl (by kernel_rfl) rfl rfl (by intro v hv; simp only [List.mem_cons, List.not_mem_nil, or_false] at hv; rcases hv with rfl <;> rfl) h122 hx280 rfl (fun _ _ cs hR => by rw [show cs = _ from hR]; rfl)) (.inl (by decide)) ?_)
                  rintro a296 w297 g297 ⟨h122, F297⟩ hS296
                  replace h16 := OwS.fr h16 F297 (fun c' hc (hm : c' = N + 6) => by omega)
                  replace h175 := h175.fr F297 (fun (hm : N + 8 = N + 6) => by omega)
                  replace h27 := OwS.fr h27 F297 (fun c' hc (hm : c' = N + 6) => by omega)
                  replace h119 := OwS.fr h119 F297 (fun c' hc (hm : c' = N + 6) => by omega)
                  replace hF := hF.trans F297 (fun c' (hm : c' = N + 6) => by show N ≤ c'; omega)
                  have hT : Sl 104 a296 [(5, .slice A14 r12.length cap15), (6, .slice A25 r23.1.length cap26), (8, .slice A117 (upd m0_0 x170.Rail x170.On).length cap118), (9, .slice A120 m0_1.length cap121), (10, .int .i64 m0_2)] := hS296.re ⟨rfl, rfl, rfl, rfl, rfl, trivial⟩
                  replace hS296 : Sl 104 a296 [(5, .slice A14 r12.length cap15), (6, .slice A25 r23.1.length cap26), (8, .slice A117 (upd m0_0 x170.Rail x170.On).length cap118), (9, .slice A120 (upd m0_1 x170.Rail x170.Done).length cap121), (10, .int .i64 m0_2)] := by simpa only [upd_length] using hT
                  clear hT
                  refine d_done (by kernel_rfl) (hK _ _ ?_)
                  replace hS : Sl 104 _ [(5, .slice A14 r12.length cap15), (6, .slice A25 r23.1.length cap26), (8, .slice A117 (upd m0_0 x170.Rail x170.On).length cap118), (9, .slice A120 (upd m0_1 x170.Rail x170.Done).length cap121), (10, .int .i64 m0_2)] := hS296.re ⟨rfl, rfl, rfl, rfl, rfl, trivial⟩
                  clear hK K hC
                  try clear hS282 hS283 hS284 hS285 hS286 hS287 hS288 hS289 hS290 hS291 hS292 hS293 hS295 hS296
                  obtain ⟨a, ha⟩ : ∃ a', a' = a296 := ⟨_, rfl⟩
                  rw [← ha] at hS ⊢; clear ha
                  change Code.wp _ _ _ _ _
                  refine c_pure1 [(5, .slice A14 r12.length cap15), (6, .slice A25 r23.1.length cap26), (8, .slice A117 (upd m0_0 x170.Rail x170.On).length cap118), (9, .slice A120 (upd m0_1 x170.Rail x170.Done).length cap121), (10, .int .i64 (wi (m0_2 + 1)))] (fun R hR => st_val hS rfl rfl rfl (r_move hS rfl rfl) fun a298 hS298 => st_val hS298 rfl rfl rfl (r_bin hS298 rfl rfl rfl b_add) fun a299 hS299 => st_val hS299 rfl rfl rfl (r_assign hS299 rfl rfl) fun a300 hS300 => wpList_nil (hR _ (hS300.re ⟨rfl, rfl, rfl, rfl, rfl, trivial⟩))) ?_
                  clear hS
                  clear a
                  intro a hS
                  refine ⟨k162, Nat.lt_succ_self _, ?_⟩
                  exact ⟨(upd m0_0 x170.Rail x170.On), (upd m0_1 x170.Rail x170.Done), wi (m0_2 + 1), g297, H, hS.re ⟨rfl, rfl, rfl, rfl, rfl, trivial⟩, h16, h27, h119, h122, hF⟩
            · replace H := ite_f hb167 H
              refine wp_exit ?_
              have e := Option.some.inj H
              exact ⟨g161, e.symm, hS.re trivial, hF⟩
      · clear H
        clear h16 h27 h119 h122 hF
        clear hS
        rintro a w156 ⟨g156, hpre0, hS, hF⟩
        subst hpre0
        have H := Fl.go_nxt Hl159
        clear Hl159
        obtain ⟨r301, hr302, H⟩ := bind_el H
        refine c_region (fun K hK => ?_)
        refine st_enter hS rfl rfl rfl (r_call hS rfl rfl (by kernel_rfl)) (law25_awake.calls (g := g156) (N + 10)   hr302) ?_
        rintro _ a303 w304 ⟨g304, rfl, F304⟩ hS303
        replace hF := hF.trans F304 (fun c' (hm : N + 10 ≤ c') => by show N ≤ c'; omega)
        refine st_val hS303 rfl rfl rfl (r_assign hS303 rfl rfl) fun a305 hS305 => wpList_nil (hK _ _ ?_)
        replace hS : Sl 104 _ [(4, .bool r301)] := hS305.re ⟨rfl, trivial⟩
        clear hK K
        try clear hS303 hS305
        obtain ⟨a, ha⟩ : ∃ a', a' = a305 := ⟨_, rfl⟩
        rw [← ha] at hS ⊢; clear ha
        refine wp_ret ?_
        have e := Option.some.inj H
        subst e
        repeat (with_reducible first | refine then_ret ?_ | refine inBlock_ret ?_)
        exact c_ret1 hS Try.results5 rfl ⟨_, rfl, g304, rfl, hF⟩

/-- What is left of law25_RailsOperationsAlternate: about plain values alone. -/
def law25_RailsOperationsAlternate.Pure : Prop := ∀ (p0 : List api_Rail) (p1 : List law25_Call), (p0.length ≤ maxLen ∧ ∀ p0' ∈ p0, Wf_api_Rail p0') → (p1.length ≤ maxLen ∧ ∀ p1' ∈ p1, Wf_law25_Call p1') → law25_RailsOperationsAlternate.f p0 p1 = some true

end Go.Proofs.Ytfiodhdldleocaa.Sim
