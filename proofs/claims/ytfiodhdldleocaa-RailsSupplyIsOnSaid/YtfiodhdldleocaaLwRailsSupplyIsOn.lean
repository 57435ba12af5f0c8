/-
  Printed by a program of this session (wip/tools): plain functions with the same answers as the Go functions, and the proofs of it.
-/
import Derived.Test.YtfiodhdldleocaaFn
import Derived.Test.YtfiodhdldleocaaOp
namespace Go.Proofs.Ytfiodhdldleocaa.Sim
open Go
set_option linter.unusedVariables false
set_option linter.unusedSimpArgs false

/-! ### law25_RailsSupplyIsOn: function 6 -/
def law25_RailsSupplyIsOn.l1 (r12 : (List api_Rail)) (m0_0 : List Bool) (m0_1 : List Int) (x174 : api_RailOp) : Nat → Int → Option (Fl (Fl (Fl (Bool) (Unit)) ((List Bool) × (List Int))) (Unit))
  | 0, _ => none
  | k321 + 1, m1_0 => if ((decide (m1_0 < (r12.length : Int))) && (!x174.On)) = true then ((idx r12 m1_0).bind fun x344 => (if (x344.Supply == x174.Rail) = true then (idx m0_0 m1_0).bind fun x356 => (if x356 = true then some true else (idx m0_1 m1_0).bind fun x364 => some (decide (x174.Start < x364))).bind fun t371 => some t371 else some false).bind fun t394 => if t394 = true then (some (.out (.out (.out false)))) else (law25_RailsSupplyIsOn.l1 r12 m0_0 m0_1 x174 k321 (wi (m1_0 + 1)))) else (some (.nxt ()))
def law25_RailsSupplyIsOn.l0 (r12 : (List api_Rail)) (r23 : (List api_RailOp) × Bool) : Nat → (List Bool) → (List Int) → Int → Option (Fl (Bool) (Unit))
  | 0, _, _, _ => none
  | k162 + 1, m0_0, m0_1, m0_2 => if decide (m0_2 < (r23.1.length : Int)) = true then (((idx r23.1 m0_2).bind fun x174 => (idx r12 x174.Rail).bind fun x188 => (if (x174.On && (decide (0 ≤ x188.Supply))) = true then (idx m0_0 x188.Supply).bind fun x212 => (if (!x212) = true then some true else (idx m0_1 x188.Supply).bind fun x221 => some (decide (x174.Start < x221))).bind fun t228 => some t228 else some false).bind fun t251 => if t251 = true then (some (.out (.out false))) else ((law25_RailsSupplyIsOn.l1 r12 m0_0 m0_1 x174 FUEL 0 : Option (Fl (Fl (Fl (Bool) (Unit)) ((List Bool) × (List Int))) (Unit))).bind fun o317 => o317.go fun _ => (idx m0_0 x174.Rail).bind fun x459 => (idx m0_1 x174.Rail).bind fun x461 => some (.nxt ((upd m0_0 x174.Rail x174.On), (upd m0_1 x174.Rail x174.Done)))) : Option (Fl (Fl (Bool) (Unit)) ((List Bool) × (List Int)))).bind fun o170 => o170.go fun v169 => law25_RailsSupplyIsOn.l0 r12 r23 k162 v169.1 v169.2 (wi (m0_2 + 1))) else (some (.nxt ()))
def law25_RailsSupplyIsOn.f (p0 : List api_Rail) (p1 : List law25_Call) : Option (Bool) := if decide (40 < (p1.length : Int)) = true then ((law25_awake.f ).bind fun r6 => some r6) else ((law25_Some.f p0).bind fun r12 => (law25_log.f r12 p1).bind fun r23 => (if (!r23.2) = true then some true else (law25_named.f r23.1 (r12.length : Int)).bind fun r43 => some (!r43)).bind fun t48 => if t48 = true then (some false) else ((mk (r12.length : Int) false).bind fun y71 => (mk (r12.length : Int) 0).bind fun y77 => (law25_RailsSupplyIsOn.l0 r12 r23 FUEL y71 y77 0 : Option (Fl (Bool) (Unit))).bind fun o158 => o158.go fun _ => (law25_awake.f ).bind fun r483 => some r483))
set_option maxRecDepth 100000 in
set_option maxHeartbeats 4000000 in
theorem law25_RailsSupplyIsOn.calls {p0 : List api_Rail} {A0 : Option Addr} {cap0 : Nat} {C0 : Nat → Prop} {p1 : List law25_Call} {A1 : Option Addr} {cap1 : Nat} {C1 : Nat → Prop} {w : World} {g : Nat → Nat} {out : Bool} (N : Nat) (hp0 : RdS kd_api_Rail w g C0 A0 cap0 p0) (hC0 : ∀ c, C0 c → c < N) (hp1 : RdS kd_law25_Call w g C1 A1 cap1 p1) (hC1 : ∀ c, C1 c → c < N) (H : law25_RailsSupplyIsOn.f p0 p1 = some out) :
    Calls Try.prog 6 #[.slice A0 p0.length cap0, .slice A1 p1.length cap1] w (fun e w' => ∃ v, e = .returned v ∧ ∃ (g' : Nat → Nat), v = .bool out ∧ Fr (fun q => N ≤ q) w g w' g') := by
  unfold law25_RailsSupplyIsOn.f at H
  refine calls_enter Try.func6 rfl Try.ntmps6 rfl (fun a hS => ?_)
  replace hS : Sl 126 a [(0, .slice A0 p0.length cap0), (1, .slice A1 p1.length cap1)] := hS
  have hF : Fr (fun q => N ≤ q) w g w g := Fr.refl _ _ _
  refine c_pure [(0, .slice A0 p0.length cap0), (1, .slice A1 p1.length cap1)] (fun R hR => st_val hS rfl rfl rfl (r_assign hS rfl rfl) fun a1 hS1 => wpList_nil (hR _ (hS1.re ⟨rfl, rfl, trivial⟩))) ?_
  clear hS
  clear a
  intro a hS
  refine wp_seq ?_
  refine c_pure [(0, .slice A0 p0.length cap0), (1, .slice A1 p1.length cap1), (16, .bool (decide (40 < (p1.length : Int))))] (fun R hR => st_val hS rfl rfl rfl (r_move hS rfl rfl) fun a2 hS2 => st_val hS2 rfl rfl rfl (r_len (e := 46) (sz := 4) (by_ := 32) hS2 rfl rfl (by kernel_rfl)) fun a3 hS3 => st_val hS3 rfl rfl rfl (r_bin hS3 rfl rfl rfl b_gtr) fun a4 hS4 => wpList_nil (hR _ (hS4.re ⟨rfl, rfl, rfl, trivial⟩))) ?_
  clear hS
  clear a
  intro a hS
  refine c_cond hS rfl (fun hb5 => ?_) (fun hb5 => ?_)
  · replace H := ite_t hb5 H
    obtain ⟨r6, hr7, H⟩ := bind_el H
    refine c_region (fun K hK => ?_)
    refine st_enter hS rfl rfl rfl (r_call hS rfl rfl (by kernel_rfl)) (law25_awake.calls (g := g) (N + 10)   hr7) ?_
    rintro _ a8 w9 ⟨g9, rfl, F9⟩ hS8
    replace hp0 := RdS.fr hp0 F9 (by decide) (fun q (hq : C0 q) (hm : N + 10 ≤ q) => by have := hC0 q hq; omega)
    replace hp1 := RdS.fr hp1 F9 (by decide) (fun q (hq : C1 q) (hm : N + 10 ≤ q) => by have := hC1 q hq; omega)
    replace hF := hF.trans F9 (fun c' (hm : N + 10 ≤ c') => by show N ≤ c'; omega)
    refine st_val hS8 rfl rfl rfl (r_assign hS8 rfl rfl) fun a10 hS10 => wpList_nil (hK _ _ ?_)
    replace hS : Sl 126 _ [(4, .bool r6)] := hS10.re ⟨rfl, trivial⟩
    clear hK K
    try clear hS8 hS10
    obtain ⟨a, ha⟩ : ∃ a', a' = a10 := ⟨_, rfl⟩
    rw [← ha] at hS ⊢; clear ha
    refine wp_ret ?_
    have e := Option.some.inj H
    subst e
    repeat (with_reducible first | refine then_ret ?_ | refine inBlock_ret ?_)
    exact c_ret1 hS Try.results6 rfl ⟨_, rfl, g9, rfl, hF⟩
  · replace H := ite_f hb5 H
    refine wp_skip ?_
    change Code.wp _ _ _ _ _
    obtain ⟨r12, hr13, H⟩ := bind_el H
    refine c_region (fun K hK => ?_)
    refine st_val hS rfl rfl rfl (r_move hS rfl rfl) fun a11 hS11 => ?_
    refine st_enter hS11 rfl rfl rfl (r_call hS11 rfl rfl (by kernel_rfl)) (law25_Some.calls (C0 := C0) (p0 := p0) (g := g) (N + 10) (N + 0) hp0 (fun q (hq : C0 q) => by have := hC0 q hq; omega) (by omega) hr13) ?_
    rintro _ a18 w19 ⟨g19, A14, cap15, rfl, h16, F19⟩ hS18
    replace hp0 := RdS.fr hp0 F19 (by decide) (fun q (hq : C0 q) (hm : (N + 0 ≤ q ∧ q < N + 0 + 2) ∨ N + 10 ≤ q) => by have := hC0 q hq; omega)
    replace hp1 := RdS.fr hp1 F19 (by decide) (fun q (hq : C1 q) (hm : (N + 0 ≤ q ∧ q < N + 0 + 2) ∨ N + 10 ≤ q) => by have := hC1 q hq; omega)
    replace hF := hF.trans F19 (fun c' (hm : (N + 0 ≤ c' ∧ c' < N + 0 + 2) ∨ N + 10 ≤ c') => by show N ≤ c'; omega)
    refine st_val hS18 rfl rfl rfl (r_assign hS18 rfl rfl) fun a20 hS20 => wpList_nil (hK _ _ ?_)
    replace hS : Sl 126 _ [(1, .slice A1 p1.length cap1), (5, .slice A14 r12.length cap15)] := hS20.re ⟨rfl, rfl, trivial⟩
    clear hK K
    try clear hS11 hS18 hS20
    obtain ⟨a, ha⟩ : ∃ a', a' = a20 := ⟨_, rfl⟩
    rw [← ha] at hS ⊢; clear ha
    obtain ⟨r23, hr24, H⟩ := bind_el H
    refine c_region (fun K hK => ?_)
    refine st_val hS rfl rfl rfl (r_move hS rfl rfl) fun a21 hS21 => st_val hS21 rfl rfl rfl (r_move hS21 rfl rfl) fun a22 hS22 => ?_
    refine st_enter hS22 rfl rfl rfl (r_call hS22 rfl rfl (by kernel_rfl)) (law25_log.calls (C0 := (fun q => q = N + 0)) (C1 := C1) (p0 := r12) (p1 := p1) (g := g19) (N + 10) (N + 2) (OwD.rdf (fun _ _ _ _ _ _ h => h) h16) (fun q (hq : q = N + 0) => by omega) hp1 (fun q (hq : C1 q) => by have := hC1 q hq; omega) (by omega) hr24) ?_
    rintro _ a29 w30 ⟨g30, A25, cap26, rfl, h27, F30⟩ hS29
    replace h16 := OwS.fr h16 F30 (fun c' hc (hm : (N + 2 ≤ c' ∧ c' < N + 2 + 2) ∨ N + 10 ≤ c') => by omega)
    replace hp1 := RdS.fr hp1 F30 (by decide) (fun q (hq : C1 q) (hm : (N + 2 ≤ q ∧ q < N + 2 + 2) ∨ N + 10 ≤ q) => by have := hC1 q hq; omega)
    replace hF := hF.trans F30 (fun c' (hm : (N + 2 ≤ c' ∧ c' < N + 2 + 2) ∨ N + 10 ≤ c') => by show N ≤ c'; omega)
    refine st_val hS29 rfl rfl rfl (r_move hS29 rfl rfl) fun a31 hS31 => st_val hS31 rfl rfl rfl (r_extract hS31 rfl rfl rfl) fun a32 hS32 => st_val hS32 rfl rfl rfl (r_extract hS32 rfl rfl rfl) fun a33 hS33 => st_val hS33 rfl rfl rfl (r_assign hS33 rfl rfl) fun a34 hS34 => st_val hS34 rfl rfl rfl (r_assign hS34 rfl rfl) fun a35 hS35 => wpList_nil (hK _ _ ?_)
    replace hS : Sl 126 _ [(5, .slice A14 r12.length cap15), (6, .slice A25 r23.1.length cap26), (7, .bool r23.2)] := hS35.re ⟨rfl, rfl, rfl, trivial⟩
    clear hK K
    try clear hS21 hS22 hS29 hS31 hS32 hS33 hS34 hS35
    obtain ⟨a, ha⟩ : ∃ a', a' = a35 := ⟨_, rfl⟩
    rw [← ha] at hS ⊢; clear ha
    refine wp_seq ?_
    obtain ⟨t48, ht49, H⟩ := bind_el H
    refine c_region (fun K hK => ?_)
    refine st_val hS rfl rfl rfl (r_move hS rfl rfl) fun a36 hS36 => st_val hS36 rfl rfl rfl (r_not hS36 rfl rfl) fun a37 hS37 => st_val hS37 rfl rfl rfl (r_move hS37 rfl rfl) fun a38 hS38 => ?_
    refine g_joinR 6 (fun a w50 => ∃ (g50 : Nat → Nat), Sl 126 a [(5, .slice A14 r12.length cap15), (6, .slice A25 r23.1.length cap26), (34, .bool t48)] ∧ OwS kd_api_Rail 35 w50 g50 (N + 0) A14 cap15 r12 ∧ OwS kd_api_RailOp 50 w50 g50 (N + 2) A25 cap26 r23.1 ∧ Fr (fun q => N ≤ q) w g w50 g50) ?_ (fun hk => ?_)
    rotate_left
    · rcases Bool.eq_false_or_eq_true ((!r23.2)) with hb39 | hb39
      · have H := ite_t hb39 ht49
        have e51 := Option.some.inj H
        refine st_off hS38 (want_off hS38 rfl rfl rfl hb39) rfl rfl fun a52 hS52 => st_off hS52 (want_off hS52 rfl rfl rfl hb39) rfl rfl fun a53 hS53 => st_off hS53 (want_off hS53 rfl rfl rfl hb39) rfl rfl fun a54 hS54 => st_off hS54 (want_off hS54 rfl rfl rfl hb39) rfl rfl fun a55 hS55 => st_off hS55 (want_off hS55 rfl rfl rfl hb39) rfl rfl fun a56 hS56 => st_val hS56 rfl rfl rfl (r_pickT hS56 rfl rfl rfl hb39) fun a57 hS57 => hk _ _ ?_
        exact ⟨g30, hS57.re ⟨rfl, rfl, (by rw [← e51]; rfl), trivial⟩, h16, h27, hF⟩
      · have H := ite_f hb39 ht49
        obtain ⟨r61, hr62, H⟩ := bind_el H
        have e66 := Option.some.inj H
        refine st_valW hS38 (want_on hS38 rfl rfl rfl hb39) rfl rfl (r_move hS38 rfl rfl) fun a58 hS58 => st_valW hS58 (want_on hS58 rfl rfl rfl hb39) rfl rfl (r_move hS58 rfl rfl) fun a59 hS59 => st_valW hS59 (want_on hS59 rfl rfl rfl hb39) rfl rfl (r_len (e := 35) (sz := 3) (by_ := 24) hS59 rfl rfl (by kernel_rfl)) fun a60 hS60 => ?_
        refine st_enterW hS60 (want_on hS60 rfl rfl rfl hb39) rfl rfl (r_call hS60 rfl rfl (by kernel_rfl)) (law25_named.calls (C0 := (fun q => q = N + 2)) (p0 := r23.1) (p1 := (r12.length : Int)) (g := g30) (N + 10)  (OwD.rdf (fun _ _ _ _ _ _ h => h) h27) (fun q (hq : q = N + 2) => by omega) hr62) ?_
        rintro _ a63 w64 ⟨g64, rfl, F64⟩ hS63
        replace h16 := OwS.fr h16 F64 (fun c' hc (hm : N + 10 ≤ c') => by omega)
        replace h27 := OwS.fr h27 F64 (fun c' hc (hm : N + 10 ≤ c') => by omega)
        replace hF := hF.trans F64 (fun c' (hm : N + 10 ≤ c') => by show N ≤ c'; omega)
        refine st_valW hS63 (want_on hS63 rfl rfl rfl hb39) rfl rfl (r_not hS63 rfl rfl) fun a65 hS65 => ?_
        refine st_val hS65 rfl rfl rfl (r_pickF hS65 rfl rfl rfl hb39) fun a67 hS67 => hk _ _ ?_
        exact ⟨g64, hS67.re ⟨rfl, rfl, (by rw [← e66]; rfl), trivial⟩, h16, h27, hF⟩
    rintro a68 w50 ⟨g50, hS68, h16, h27, hF⟩
    refine wpList_nil (hK _ _ ?_)
    replace hS : Sl 126 _ [(5, .slice A14 r12.length cap15), (6, .slice A25 r23.1.length cap26), (34, .bool t48)] := hS68.re ⟨rfl, rfl, rfl, trivial⟩
    clear hK K
    try clear hS36 hS37 hS38 hS68
    obtain ⟨a, ha⟩ : ∃ a', a' = a68 := ⟨_, rfl⟩
    rw [← ha] at hS ⊢; clear ha
    refine c_cond hS rfl (fun hb69 => ?_) (fun hb69 => ?_)
    · replace H := ite_t hb69 H
      refine c_pure [(4, .bool false)] (fun R hR => st_val hS rfl rfl rfl (r_assign hS rfl rfl) fun a70 hS70 => wpList_nil (hR _ (hS70.re ⟨rfl, trivial⟩))) ?_
      clear hS
      clear a
      intro a hS
      refine wp_ret ?_
      have e := Option.some.inj H
      subst e
      repeat (with_reducible first | refine then_ret ?_ | refine inBlock_ret ?_)
      exact c_ret1 hS Try.results6 rfl ⟨_, rfl, g50, rfl, hF⟩
    · replace H := ite_f hb69 H
      refine wp_skip ?_
      change Code.wp _ _ _ _ _
      obtain ⟨y71, hy72, H⟩ := bind_el H
      obtain ⟨y77, hy78, H⟩ := bind_el H
      refine c_cut (fun a w116 => ∃ (g116 : Nat → Nat), ∃ (A117 : Option Addr), ∃ (cap118 : Nat), ∃ (A120 : Option Addr), ∃ (cap121 : Nat), Sl 126 a [(5, .slice A14 r12.length cap15), (6, .slice A25 r23.1.length cap26), (8, .slice A117 y71.length cap118), (9, .slice A120 y77.length cap121)] ∧ OwS kd_api_Rail 35 w116 g116 (N + 0) A14 cap15 r12 ∧ OwS kd_api_RailOp 50 w116 g116 (N + 2) A25 cap26 r23.1 ∧ OwS kbool 4 w116 g116 (N + 4) A117 cap118 y71 ∧ OwS (kint .u64) 33 w116 g116 (N + 6) A120 cap121 y77 ∧ Fr (fun q => N ≤ q) w g w116 g116) (d_start (fun q => False) g50 [] 8 #[false, false, false, false, false, false, false, false] (by kernel_rfl) rfl rfl (fun w123 hw123 => ?_)) ?_
      · have F123 : Fr (fun _ => False) w50 g50 w123 g50 := by rw [hw123]; exact Fr.drew _ _ _
        replace h16 := OwS.fr h16 F123 (fun _ _ h => h)
        replace h27 := OwS.fr h27 F123 (fun _ _ h => h)
        replace hF := hF.trans F123 (fun _ h => h.elim)
        have hC : Fr (fun q => False) w123 g50 w123 g50 := Fr.refl _ _ _
        refine d_pure hS 0 #[true, false, false, false, false, false, false, false] rfl rfl rfl rfl (by kernel_rfl) (fun _ _ _ h => h) (fun _ => (r_move hS rfl rfl)) fun a124 hS124 => d_pure hS124 1 #[true, true, false, false, false, false, false, false] rfl rfl rfl rfl (by kernel_rfl) (fun _ _ _ h => h) (fun _ => (r_len (e := 35) (sz := 3) (by_ := 24) hS124 rfl rfl (by kernel_rfl))) fun a125 hS125 => d_pure hS125 3 #[true, true, false, true, false, false, false, false] rfl rfl rfl rfl (by kernel_rfl) (fun _ _ _ h => h) (fun _ => (r_move hS125 rfl rfl)) fun a126 hS126 => d_pure hS126 4 #[true, true, false, true, true, false, false, false] rfl rfl rfl rfl (by kernel_rfl) (fun _ _ _ h => h) (fun _ => (r_len (e := 35) (sz := 3) (by_ := 24) hS126 rfl rfl (by kernel_rfl))) fun a127 hS127 => ?_
        refine d_two 2 5 #[true, true, true, true, true, false, false, false] #[true, true, false, true, true, true, false, false] rfl rfl (by kernel_rfl) (arm_eff hS127 rfl rfl rfl (e_make (e := 4) (sz := 1) (by_ := 1) (z := [.bool false]) (kd := kbool) (N + 4) g50 hS127 rfl rfl (by kernel_rfl) (by kernel_rfl) rfl rfl rfl (fun _ _ _ => by exact rfl) hy72) (fun _ _ g' hR _ => ⟨g', hC.trans hR.2 (fun _ h => h.elim)⟩) ?_) (arm_eff hS127 rfl rfl rfl (e_make (e := 33) (sz := 1) (by_ := 8) (z := [.int .u64 0]) (kd := (kint .u64)) (N + 6) g50 hS127 rfl rfl (by kernel_rfl) (by kernel_rfl) rfl rfl rfl (fun _ _ _ => by exact rfl) hy78) (fun _ _ g' hR _ => ⟨g', hC.trans hR.2 (fun _ h => h.elim)⟩) ?_)
        · rintro _ a132 w133 g133 ⟨⟨A128, cap129, rfl, h130⟩, F133⟩ hS132
          have hC133 := hC.trans F133 (fun _ h => h.elim)
          replace h16 := OwS.fr h16 F133 (fun _ _ h => h)
          replace h27 := OwS.fr h27 F133 (fun _ _ h => h)
          replace hF := hF.trans F133 (fun _ h => h.elim)
          refine d_pure hS132 6 #[true, true, true, true, true, false, true, false] rfl rfl rfl rfl (by kernel_rfl) (fun _ _ _ h => h) (fun _ => (r_assign hS132 rfl rfl)) fun a134 hS134 => ?_
          refine d_one 5 #[true, true, true, true, true, true, true, false] rfl (by kernel_rfl) (arm_eff hS134 rfl rfl rfl (e_make (e := 33) (sz := 1) (by_ := 8) (z := [.int .u64 0]) (kd := (kint .u64)) (N + 6) g133 hS134 rfl rfl (by kernel_rfl) (by kernel_rfl) rfl rfl rfl (fun _ _ _ => by exact rfl) hy78) (fun _ _ g' hR _ => ⟨g', hC133.trans hR.2 (fun _ h => h.elim)⟩) ?_)
          rintro _ a139 w140 g140 ⟨⟨A135, cap136, rfl, h137⟩, F140⟩ hS139
          have hC140 := hC133.trans F140 (fun _ h => h.elim)
          replace h130 := OwS.fr h130 F140 (fun _ _ h => h)
          replace h16 := OwS.fr h16 F140 (fun _ _ h => h)
          replace h27 := OwS.fr h27 F140 (fun _ _ h => h)
          replace hF := hF.trans F140 (fun _ h => h.elim)
          refine d_pure hS139 7 #[true, true, true, true, true, true, true, true] rfl rfl rfl rfl (by kernel_rfl) (fun _ _ _ h => h) (fun _ => (r_assign hS139 rfl rfl)) fun a141 hS141 => d_done (by kernel_rfl) ?_
          exact ⟨g140, A128, cap129, A135, cap136, hS141.re ⟨rfl, rfl, rfl, rfl, trivial⟩, h16, h27, h130, h137, hF⟩
        · rintro _ a146 w147 g147 ⟨⟨A142, cap143, rfl, h144⟩, F147⟩ hS146
          have hC147 := hC.trans F147 (fun _ h => h.elim)
          replace h16 := OwS.fr h16 F147 (fun _ _ h => h)
          replace h27 := OwS.fr h27 F147 (fun _ _ h => h)
          replace hF := hF.trans F147 (fun _ h => h.elim)
          refine d_one 2 #[true, true, true, true, true, true, false, false] rfl (by kernel_rfl) (arm_eff hS146 rfl rfl rfl (e_make (e := 4) (sz := 1) (by_ := 1) (z := [.bool false]) (kd := kbool) (N + 4) g147 hS146 rfl rfl (by kernel_rfl) (by kernel_rfl) rfl rfl rfl (fun _ _ _ => by exact rfl) hy72) (fun _ _ g' hR _ => ⟨g', hC147.trans hR.2 (fun _ h => h.elim)⟩) ?_)
          rintro _ a152 w153 g153 ⟨⟨A148, cap149, rfl, h150⟩, F153⟩ hS152
          have hC153 := hC147.trans F153 (fun _ h => h.elim)
          replace h144 := OwS.fr h144 F153 (fun _ _ h => h)
          replace h16 := OwS.fr h16 F153 (fun _ _ h => h)
          replace h27 := OwS.fr h27 F153 (fun _ _ h => h)
          replace hF := hF.trans F153 (fun _ h => h.elim)
          refine d_pure hS152 6 #[true, true, true, true, true, true, true, false] rfl rfl rfl rfl (by kernel_rfl) (fun _ _ _ h => h) (fun _ => (r_assign hS152 rfl rfl)) fun a154 hS154 => d_pure hS154 7 #[true, true, true, true, true, true, true, true] rfl rfl rfl rfl (by kernel_rfl) (fun _ _ _ h => h) (fun _ => (r_assign hS154 rfl rfl)) fun a155 hS155 => d_done (by kernel_rfl) ?_
          exact ⟨g153, A148, cap149, A142, cap143, hS155.re ⟨rfl, rfl, rfl, rfl, trivial⟩, h16, h27, h150, h144, hF⟩
      clear h16 h27 hF
      clear hS
      rintro a w116 ⟨g116, A117, cap118, A120, cap121, hS, h16, h27, h119, h122, hF⟩
      obtain ⟨o158, H, Hl159⟩ := bind_el H
      refine c_cut (fun a w156 => ∃ (g156 : Nat → Nat), o158 = .nxt () ∧ Sl 126 a [] ∧ Fr (fun q => N ≤ q) w g w156 g156) ?_ ?_
      · refine c_pure [(5, .slice A14 r12.length cap15), (6, .slice A25 r23.1.length cap26), (8, .slice A117 y71.length cap118), (9, .slice A120 y77.length cap121), (10, .int .i64 0)] (fun R hR => st_val hS rfl rfl rfl (r_assign hS rfl rfl) fun a160 hS160 => wpList_nil (hR _ (hS160.re ⟨rfl, rfl, rfl, rfl, rfl, trivial⟩))) ?_
        clear hS
        clear a
        intro a hS
        refine wp_block ?_
        refine wp_loop_ghost (fun kq => fun a w161 => ∃ (m0_0 : List Bool), ∃ (m0_1 : List Int), ∃ (m0_2 : Int), ∃ (g161 : Nat → Nat), law25_RailsSupplyIsOn.l0 r12 r23 kq m0_0 m0_1 m0_2 = some o158 ∧ Sl 126 a [(5, .slice A14 r12.length cap15), (6, .slice A25 r23.1.length cap26), (8, .slice A117 m0_0.length cap118), (9, .slice A120 m0_1.length cap121), (10, .int .i64 m0_2)] ∧ OwS kd_api_Rail 35 w161 g161 (N + 0) A14 cap15 r12 ∧ OwS kd_api_RailOp 50 w161 g161 (N + 2) A25 cap26 r23.1 ∧ OwS kbool 4 w161 g161 (N + 4) A117 cap118 m0_0 ∧ OwS (kint .u64) 33 w161 g161 (N + 6) A120 cap121 m0_1 ∧ Fr (fun q => N ≤ q) w g w161 g161) FUEL ?_ ?_
        · exact ⟨y71, y77, 0, g116, H, hS.re ⟨rfl, rfl, rfl, rfl, rfl, trivial⟩, h16, h27, h119, h122, hF⟩
        · clear H
          clear h16 h27 h119 h122 hF
          clear hS
          rintro k162 a w161 ⟨m0_0, m0_1, m0_2, g161, hpre0, hS, h16, h27, h119, h122, hF⟩
          have H := hpre0
          clear hpre0
          cases k162 with
          | zero => exact absurd H (by simp [law25_RailsSupplyIsOn.l0])
          | succ k162 =>
            rw [law25_RailsSupplyIsOn.l0] at H
            refine wp_seq ?_
            refine c_pure [(5, .slice A14 r12.length cap15), (6, .slice A25 r23.1.length cap26), (8, .slice A117 m0_0.length cap118), (9, .slice A120 m0_1.length cap121), (10, .int .i64 m0_2), (44, .bool (decide (m0_2 < (r23.1.length : Int))))] (fun R hR => st_val hS rfl rfl rfl (r_move hS rfl rfl) fun a163 hS163 => st_val hS163 rfl rfl rfl (r_move hS163 rfl rfl) fun a164 hS164 => st_val hS164 rfl rfl rfl (r_len (e := 50) (sz := 4) (by_ := 32) hS164 rfl rfl (by kernel_rfl)) fun a165 hS165 => st_val hS165 rfl rfl rfl (r_bin hS165 rfl rfl rfl b_lss) fun a166 hS166 => wpList_nil (hR _ (hS166.re ⟨rfl, rfl, rfl, rfl, rfl, rfl, trivial⟩))) ?_
            clear hS
            clear a
            intro a hS
            refine c_cond hS rfl (fun hb167 => ?_) (fun hb167 => ?_)
            · replace H := ite_t hb167 H
              refine wp_skip ?_
              change Code.wp _ _ _ _ _
              obtain ⟨o170, H, Hl171⟩ := bind_el H
              refine c_cut (fun a w168 => ∃ (v169 : (List Bool) × (List Int)), ∃ (g168 : Nat → Nat), o170 = .nxt v169 ∧ Sl 126 a [(5, .slice A14 r12.length cap15), (6, .slice A25 r23.1.length cap26), (8, .slice A117 v169.1.length cap118), (9, .slice A120 v169.2.length cap121), (10, .int .i64 m0_2)] ∧ OwS kd_api_Rail 35 w168 g168 (N + 0) A14 cap15 r12 ∧ OwS kd_api_RailOp 50 w168 g168 (N + 2) A25 cap26 r23.1 ∧ OwS kbool 4 w168 g168 (N + 4) A117 cap118 v169.1 ∧ OwS (kint .u64) 33 w168 g168 (N + 6) A120 cap121 v169.2 ∧ Fr (fun q => N ≤ q) w g w168 g168) ?_ ?_
              · refine wp_block ?_
                obtain ⟨x174, hx175, H⟩ := bind_el H
                refine c_region (fun K hK => ?_)
                refine st_val hS rfl rfl rfl (r_move hS rfl rfl) fun a172 hS172 => st_val hS172 rfl rfl rfl (r_move hS172 rfl rfl) fun a173 hS173 => st_val hS173 rfl rfl rfl (r_index (e := 50) (sz := 4) (by_ := 32) hS173 rfl rfl rfl (by kernel_rfl) (RdS.some_ (OwS.rd h27) hx175) (idx_lo hx175) (idx_hi hx175)) fun a176 hS176 => st_val hS176 rfl rfl rfl (r_loadN (n := 4) (cs := [.int .i64 x174.Rail, .bool x174.On, .int .u64 x174.Start, .int .u64 x174.Done]) hS176 rfl rfl (by kernel_rfl) rfl (RdS.cells_off (OwS.rd h27) hx175 0 4)) fun a177 hS177 => ?_
                refine st_eff hS177 rfl rfl rfl (e_alloc (cs := [.int .i64 0, .bool false, .int .u64 0, .int .u64 0]) (N + 8) g161 hS177 rfl (by kernel_rfl)) ?_
                rintro _ a181 w182 g182 ⟨⟨b178, rfl, h179⟩, F182⟩ hS181
                replace h16 := OwS.fr h16 F182 (fun _ _ h => h)
                replace h27 := OwS.fr h27 F182 (fun _ _ h => h)
                replace h119 := OwS.fr h119 F182 (fun _ _ h => h)
                replace h122 := OwS.fr h122 F182 (fun _ _ h => h)
                replace hF := hF.trans F182 (fun _ h => h.elim)
                refine st_effS hS181 rfl rfl (e_storeB (n := 4) (bb := true) (cs' := [.int .i64 x174.Rail, .bool x174.On, .int .u64 x174.Start, .int .u64 x174.Done]) g182 hS181 rfl rfl rfl (by kernel_rfl) rfl rfl rfl h179 rfl rfl) ?_
                rintro a183 w184 g184 ⟨h179, F184⟩ hS183
                replace h16 := OwS.fr h16 F184 (fun c' hc (hm : c' = N + 8) => by omega)
                replace h27 := OwS.fr h27 F184 (fun c' hc (hm : c' = N + 8) => by omega)
                replace h119 := OwS.fr h119 F184 (fun c' hc (hm : c' = N + 8) => by omega)
                replace h122 := OwS.fr h122 F184 (fun c' hc (hm : c' = N + 8) => by omega)
                replace hF := hF.trans F184 (fun c' (hm : c' = N + 8) => by show N ≤ c'; omega)
                refine wpList_nil (hK _ _ ?_)
                replace hS : Sl 126 _ [(5, .slice A14 r12.length cap15), (6, .slice A25 r23.1.length cap26), (8, .slice A117 m0_0.length cap118), (9, .slice A120 m0_1.length cap121), (10, .int .i64 m0_2), (11, .pointer (some ⟨b178, 0, none⟩))] := hS183.re ⟨rfl, rfl, rfl, rfl, rfl, rfl, trivial⟩
                clear hK K
                try clear hS172 hS173 hS176 hS177 hS181 hS183
                obtain ⟨a, ha⟩ : ∃ a', a' = a183 := ⟨_, rfl⟩
                rw [← ha] at hS ⊢; clear ha
                refine wp_seq ?_
                obtain ⟨x188, hx189, H⟩ := bind_el H
                refine c_pure [(5, .slice A14 r12.length cap15), (6, .slice A25 r23.1.length cap26), (8, .slice A117 m0_0.length cap118), (9, .slice A120 m0_1.length cap121), (10, .int .i64 m0_2), (11, .pointer (some ⟨b178, 0, none⟩)), (12, .int .i64 x188.Supply)] (fun R hR => st_val hS rfl rfl rfl (r_move hS rfl rfl) fun a185 hS185 => st_val hS185 rfl rfl rfl (r_fieldB (off := 0) hS185 rfl rfl (by kernel_rfl)) fun a186 hS186 => st_val hS186 rfl rfl rfl (r_load1 (n := 1) hS186 rfl rfl (by kernel_rfl) (Bx.cell h179 rfl)) fun a187 hS187 => st_val hS187 rfl rfl rfl (r_index (e := 35) (sz := 3) (by_ := 24) hS187 rfl rfl rfl (by kernel_rfl) (RdS.some_ (OwS.rd h16) hx189) (idx_lo hx189) (idx_hi hx189)) fun a190 hS190 => st_val hS190 rfl rfl rfl (r_fieldE (off := 0) hS190 rfl rfl (by kernel_rfl)) fun a191 hS191 => st_val hS191 rfl rfl rfl (r_load1 (n := 1) hS191 rfl rfl (by kernel_rfl) (RdS.cell (i := x174.Rail) (sz := 3) (j := 0) (OwS.rd h16) hx189 rfl)) fun a192 hS192 => st_val hS192 rfl rfl rfl (r_assign hS192 rfl rfl) fun a193 hS193 => wpList_nil (hR _ (hS193.re ⟨rfl, rfl, rfl, rfl, rfl, rfl, rfl, trivial⟩))) ?_
                clear hS
                clear a
                intro a hS
                obtain ⟨t251, ht252, H⟩ := bind_el H
                refine c_draw (fun K hK => d_start (fun q => False) g184 [] 22 #[false, false, false, false, false, false, false, false, false, false, false, false, false, false, false, false, false, false, false, false, false, false] (by kernel_rfl) rfl rfl (fun w194 hw194 => ?_))
                have F194 : Fr (fun _ => False) w184 g184 w194 g184 := by rw [hw194]; exact Fr.drew _ _ _
                replace h16 := OwS.fr h16 F194 (fun _ _ h => h)
                replace h179 := h179.fr F194 (fun h => h)
                replace h27 := OwS.fr h27 F194 (fun _ _ h => h)
                replace h119 := OwS.fr h119 F194 (fun _ _ h => h)
                replace h122 := OwS.fr h122 F194 (fun _ _ h => h)
                replace hF := hF.trans F194 (fun _ h => h.elim)
                have hC : Fr (fun q => False) w194 g184 w194 g184 := Fr.refl _ _ _
                refine d_pure hS 0 #[true, false, false, false, false, false, false, false, false, false, false, false, false, false, false, false, false, false, false, false, false, false] rfl rfl rfl rfl (by kernel_rfl) (fun _ _ _ h => h) (fun _ => (r_fieldB (off := 1) hS rfl rfl (by kernel_rfl))) fun a195 hS195 => d_take hS195 1 #[true, true, false, false, false, false, false, false, false, false, false, false, false, false, false, false, false, false, false, false, false, false] rfl rfl rfl rfl (by kernel_rfl) (fun _ _ _ h => h) ⟨_, hC⟩ (fun w' g' Fz => (r_load1 (n := 1) hS195 rfl rfl (by kernel_rfl) (Bx.cell (h179.fr Fz (fun h => h)) rfl))) fun a196 hS196 => d_pure hS196 2 #[true, true, true, false, false, false, false, false, false, false, false, false, false, false, false, false, false, false, false, false, false, false] rfl rfl rfl rfl (by kernel_rfl) (fun _ _ _ h => h) (fun _ => (r_move hS196 rfl rfl)) fun a197 hS197 => ?_
                refine d_join (N := 126) 16 #[true, true, true, true, true, true, false, false, false, false, false, false, false, false, false, false, false, false, false, false, false, false] [(5, .slice A14 r12.length cap15), (6, .slice A25 r23.1.length cap26), (8, .slice A117 m0_0.length cap118), (9, .slice A120 m0_1.length cap121), (10, .int .i64 m0_2), (11, .pointer (some ⟨b178, 0, none⟩)), (12, .int .i64 x188.Supply), (62, .bool (x174.On && (decide (0 ≤ x188.Supply))))] ?_ (fun hk => ?_)
                rotate_left
                · rcases Bool.eq_false_or_eq_true (x174.On) with hb198 | hb198
                  · refine d_pureW hS197 3 #[true, true, true, true, false, false, false, false, false, false, false, false, false, false, false, false, false, false, false, false, false, false] rfl (want_on hS197 rfl rfl rfl hb198) rfl rfl (by kernel_rfl) (fun _ _ _ h => h) (fun _ => (r_move hS197 rfl rfl)) fun a201 hS201 => d_pureW hS201 4 #[true, true, true, true, true, false, false, false, false, false, false, false, false, false, false, false, false, false, false, false, false, false] rfl (want_on hS201 rfl rfl rfl hb198) rfl rfl (by kernel_rfl) (fun _ _ _ h => h) (fun _ => (r_bin hS201 rfl rfl rfl b_geq)) fun a202 hS202 => d_pure hS202 5 #[true, true, true, true, true, true, false, false, false, false, false, false, false, false, false, false, false, false, false, false, false, false] rfl rfl rfl rfl (by kernel_rfl) (fun _ _ _ h => h) (fun _ => (r_pickT hS202 rfl rfl rfl hb198)) fun a203 hS203 => hk _ (hS203.re ⟨rfl, rfl, rfl, rfl, rfl, rfl, rfl, (by rw [hb198]; rfl), trivial⟩)
                  · refine d_off hS197 3 #[true, true, true, true, false, false, false, false, false, false, false, false, false, false, false, false, false, false, false, false, false, false] rfl (want_off hS197 rfl rfl rfl hb198) rfl rfl (by kernel_rfl) (fun _ _ _ h => h) fun a204 hS204 => d_off hS204 4 #[true, true, true, true, true, false, false, false, false, false, false, false, false, false, false, false, false, false, false, false, false, false] rfl (want_off hS204 rfl rfl rfl hb198) rfl rfl (by kernel_rfl) (fun _ _ _ h => h) fun a205 hS205 => d_pure hS205 5 #[true, true, true, true, true, true, false, false, false, false, false, false, false, false, false, false, false, false, false, false, false, false] rfl rfl rfl rfl (by kernel_rfl) (fun _ _ _ h => h) (fun _ => (r_pickF hS205 rfl rfl rfl hb198)) fun a206 hS206 => hk _ (hS206.re ⟨rfl, rfl, rfl, rfl, rfl, rfl, rfl, (by rw [hb198]; rfl), trivial⟩)
                intro a207 hS207
                refine d_pure hS207 6 #[true, true, true, true, true, true, true, false, false, false, false, false, false, false, false, false, false, false, false, false, false, false] rfl rfl rfl rfl (by kernel_rfl) (fun _ _ _ h => h) (fun _ => (r_move hS207 rfl rfl)) fun a208 hS208 => ?_
                refine d_join (N := 126) 0 #[true, true, true, true, true, true, true, true, true, true, true, true, true, true, true, true, true, true, true, true, true, true] [(5, .slice A14 r12.length cap15), (6, .slice A25 r23.1.length cap26), (8, .slice A117 m0_0.length cap118), (9, .slice A120 m0_1.length cap121), (10, .int .i64 m0_2), (11, .pointer (some ⟨b178, 0, none⟩)), (78, .bool t251)] ?_ (fun hk => ?_)
                rotate_left
                · rcases Bool.eq_false_or_eq_true ((x174.On && (decide (0 ≤ x188.Supply)))) with hb209 | hb209
                  · have H := ite_t hb209 ht252
                    obtain ⟨x255, hx256, H⟩ := bind_el H
                    obtain ⟨t271, ht272, H⟩ := bind_el H
                    have e294 := Option.some.inj H
                    refine d_pureW hS208 7 #[true, true, true, true, true, true, true, true, false, false, false, false, false, false, false, false, false, false, false, false, false, false] rfl (want_on hS208 rfl rfl rfl hb209) rfl rfl (by kernel_rfl) (fun _ _ _ h => h) (fun _ => (r_move hS208 rfl rfl)) fun a253 hS253 => d_pureW hS253 8 #[true, true, true, true, true, true, true, true, true, false, false, false, false, false, false, false, false, false, false, false, false, false] rfl (want_on hS253 rfl rfl rfl hb209) rfl rfl (by kernel_rfl) (fun _ _ _ h => h) (fun _ => (r_move hS253 rfl rfl)) fun a254 hS254 => d_pureW hS254 9 #[true, true, true, true, true, true, true, true, true, true, false, false, false, false, false, false, false, false, false, false, false, false] rfl (want_on hS254 rfl rfl rfl hb209) rfl rfl (by kernel_rfl) (fun _ _ _ h => h) (fun _ => (r_index (e := 4) (sz := 1) (by_ := 1) hS254 rfl rfl rfl (by kernel_rfl) (RdS.some_ (OwS.rd h119) hx256) (idx_lo hx256) (idx_hi hx256))) fun a257 hS257 => d_takeW hS257 10 #[true, true, true, true, true, true, true, true, true, true, true, false, false, false, false, false, false, false, false, false, false, false] rfl (want_on hS257 rfl rfl rfl hb209) rfl rfl (by kernel_rfl) (fun _ _ _ h => h) ⟨_, hC⟩ (fun w' g' Fz => (r_load1 (n := 1) hS257 rfl rfl (by kernel_rfl) (RdS.cell (i := x188.Supply) (sz := 1) (j := 0) (OwS.rd (OwS.fr h119 Fz (fun _ _ h => h))) hx256 rfl))) fun a258 hS258 => d_pureW hS258 11 #[true, true, true, true, true, true, true, true, true, true, true, true, false, false, false, false, false, false, false, false, false, false] rfl (want_on hS258 rfl rfl rfl hb209) rfl rfl (by kernel_rfl) (fun _ _ _ h => h) (fun _ => (r_not hS258 rfl rfl)) fun a259 hS259 => d_pureW hS259 12 #[true, true, true, true, true, true, true, true, true, true, true, true, true, false, false, false, false, false, false, false, false, false] rfl (want_on hS259 rfl rfl rfl hb209) rfl rfl (by kernel_rfl) (fun _ _ _ h => h) (fun _ => (r_move hS259 rfl rfl)) fun a260 hS260 => ?_
                    refine d_join (N := 126) 1 #[true, true, true, true, true, true, true, true, true, true, true, true, true, true, true, true, true, true, true, true, true, false] [(5, .slice A14 r12.length cap15), (6, .slice A25 r23.1.length cap26), (8, .slice A117 m0_0.length cap118), (9, .slice A120 m0_1.length cap121), (10, .int .i64 m0_2), (11, .pointer (some ⟨b178, 0, none⟩)), (63, .bool (x174.On && (decide (0 ≤ x188.Supply)))), (64, .slice A117 m0_0.length cap118), (65, .int .i64 x188.Supply), (66, .pointer (some (ea A117 (x188.Supply.toNat * 1)))), (67, .bool x255), (68, .bool (!x255)), (69, .bool (!x255)), (77, .bool t271)] ?_ (fun hk => ?_)
                    rotate_left
                    · rcases Bool.eq_false_or_eq_true ((!x255)) with hb261 | hb261
                      · have H := ite_t hb261 ht272
                        have e273 := Option.some.inj H
                        refine d_off hS260 13 #[true, true, true, true, true, true, true, true, true, true, true, true, true, true, false, false, false, false, false, false, false, false] rfl (want_off hS260 rfl rfl rfl hb261) rfl rfl (by kernel_rfl) (fun _ _ _ h => h) fun a274 hS274 => d_off hS274 14 #[true, true, true, true, true, true, true, true, true, true, true, true, true, true, true, false, false, false, false, false, false, false] rfl (want_off hS274 rfl rfl rfl hb261) rfl rfl (by kernel_rfl) (fun _ _ _ h => h) fun a275 hS275 => d_off hS275 15 #[true, true, true, true, true, true, true, true, true, true, true, true, true, true, true, true, false, false, false, false, false, false] rfl (want_off hS275 rfl rfl rfl hb261) rfl rfl (by kernel_rfl) (fun _ _ _ h => h) fun a276 hS276 => d_off hS276 16 #[true, true, true, true, true, true, true, true, true, true, true, true, true, true, true, true, true, false, false, false, false, false] rfl (want_off hS276 rfl rfl rfl hb261) rfl rfl (by kernel_rfl) (fun _ _ _ h => h) fun a277 hS277 => d_off hS277 17 #[true, true, true, true, true, true, true, true, true, true, true, true, true, true, true, true, true, true, false, false, false, false] rfl (want_off hS277 rfl rfl rfl hb261) rfl rfl (by kernel_rfl) (fun _ _ _ h => h) fun a278 hS278 => d_off hS278 18 #[true, true, true, true, true, true, true, true, true, true, true, true, true, true, true, true, true, true, true, false, false, false] rfl (want_off hS278 rfl rfl rfl hb261) rfl rfl (by kernel_rfl) (fun _ _ _ h => h) fun a279 hS279 => d_off hS279 19 #[true, true, true, true, true, true, true, true, true, true, true, true, true, true, true, true, true, true, true, true, false, false] rfl (want_off hS279 rfl rfl rfl hb261) rfl rfl (by kernel_rfl) (fun _ _ _ h => h) fun a280 hS280 => d_pureW hS280 20 #[true, true, true, true, true, true, true, true, true, true, true, true, true, true, true, true, true, true, true, true, true, false] rfl (want_on hS280 rfl rfl rfl hb209) rfl rfl (by kernel_rfl) (fun _ _ _ h => h) (fun _ => (r_pickT hS280 rfl rfl rfl hb261)) fun a281 hS281 => hk _ (hS281.re ⟨rfl, rfl, rfl, rfl, rfl, rfl, rfl, rfl, rfl, rfl, rfl, rfl, rfl, (by rw [← e273]; rfl), trivial⟩)
                      · have H := ite_f hb261 ht272
                        obtain ⟨x284, hx285, H⟩ := bind_el H
                        have e291 := Option.some.inj H
                        refine d_pureW hS260 13 #[true, true, true, true, true, true, true, true, true, true, true, true, true, true, false, false, false, false, false, false, false, false] rfl (want_on hS260 rfl rfl rfl hb261) rfl rfl (by kernel_rfl) (fun _ _ _ h => h) (fun _ => (r_move hS260 rfl rfl)) fun a282 hS282 => d_pureW hS282 14 #[true, true, true, true, true, true, true, true, true, true, true, true, true, true, true, false, false, false, false, false, false, false] rfl (want_on hS282 rfl rfl rfl hb261) rfl rfl (by kernel_rfl) (fun _ _ _ h => h) (fun _ => (r_move hS282 rfl rfl)) fun a283 hS283 => d_pureW hS283 15 #[true, true, true, true, true, true, true, true, true, true, true, true, true, true, true, true, false, false, false, false, false, false] rfl (want_on hS283 rfl rfl rfl hb261) rfl rfl (by kernel_rfl) (fun _ _ _ h => h) (fun _ => (r_index (e := 33) (sz := 1) (by_ := 8) hS283 rfl rfl rfl (by kernel_rfl) (RdS.some_ (OwS.rd h122) hx285) (idx_lo hx285) (idx_hi hx285))) fun a286 hS286 => d_takeW hS286 16 #[true, true, true, true, true, true, true, true, true, true, true, true, true, true, true, true, true, false, false, false, false, false] rfl (want_on hS286 rfl rfl rfl hb261) rfl rfl (by kernel_rfl) (fun _ _ _ h => h) ⟨_, hC⟩ (fun w' g' Fz => (r_load1 (n := 1) hS286 rfl rfl (by kernel_rfl) (RdS.cell (i := x188.Supply) (sz := 1) (j := 0) (OwS.rd (OwS.fr h122 Fz (fun _ _ h => h))) hx285 rfl))) fun a287 hS287 => d_pureW hS287 17 #[true, true, true, true, true, true, true, true, true, true, true, true, true, true, true, true, true, true, false, false, false, false] rfl (want_on hS287 rfl rfl rfl hb261) rfl rfl (by kernel_rfl) (fun _ _ _ h => h) (fun _ => (r_fieldB (off := 2) hS287 rfl rfl (by kernel_rfl))) fun a288 hS288 => d_takeW hS288 18 #[true, true, true, true, true, true, true, true, true, true, true, true, true, true, true, true, true, true, true, false, false, false] rfl (want_on hS288 rfl rfl rfl hb261) rfl rfl (by kernel_rfl) (fun _ _ _ h => h) ⟨_, hC⟩ (fun w' g' Fz => (r_load1 (n := 1) hS288 rfl rfl (by kernel_rfl) (Bx.cell (h179.fr Fz (fun h => h)) rfl))) fun a289 hS289 => d_pureW hS289 19 #[true, true, true, true, true, true, true, true, true, true, true, true, true, true, true, true, true, true, true, true, false, false] rfl (want_on hS289 rfl rfl rfl hb261) rfl rfl (by kernel_rfl) (fun _ _ _ h => h) (fun _ => (r_bin hS289 rfl rfl rfl b_gtr)) fun a290 hS290 => d_pureW hS290 20 #[true, true, true, true, true, true, true, true, true, true, true, true, true, true, true, true, true, true, true, true, true, false] rfl (want_on hS290 rfl rfl rfl hb209) rfl rfl (by kernel_rfl) (fun _ _ _ h => h) (fun _ => (r_pickF hS290 rfl rfl rfl hb261)) fun a292 hS292 => hk _ (hS292.re ⟨rfl, rfl, rfl, rfl, rfl, rfl, rfl, rfl, rfl, rfl, rfl, rfl, rfl, (by rw [← e291]; rfl), trivial⟩)
                    intro a293 hS293
                    refine d_pure hS293 21 #[true, true, true, true, true, true, true, true, true, true, true, true, true, true, true, true, true, true, true, true, true, true] rfl rfl rfl rfl (by kernel_rfl) (fun _ _ _ h => h) (fun _ => (r_pickT hS293 rfl rfl rfl hb209)) fun a295 hS295 => hk _ (hS295.re ⟨rfl, rfl, rfl, rfl, rfl, rfl, (by rw [← e294]; rfl), trivial⟩)
                  · have H := ite_f hb209 ht252
                    have e296 := Option.some.inj H
                    refine d_off hS208 7 #[true, true, true, true, true, true, true, true, false, false, false, false, false, false, false, false, false, false, false, false, false, false] rfl (want_off hS208 rfl rfl rfl hb209) rfl rfl (by kernel_rfl) (fun _ _ _ h => h) fun a297 hS297 => d_off hS297 8 #[true, true, true, true, true, true, true, true, true, false, false, false, false, false, false, false, false, false, false, false, false, false] rfl (want_off hS297 rfl rfl rfl hb209) rfl rfl (by kernel_rfl) (fun _ _ _ h => h) fun a298 hS298 => d_off hS298 9 #[true, true, true, true, true, true, true, true, true, true, false, false, false, false, false, false, false, false, false, false, false, false] rfl (want_off hS298 rfl rfl rfl hb209) rfl rfl (by kernel_rfl) (fun _ _ _ h => h) fun a299 hS299 => d_off hS299 10 #[true, true, true, true, true, true, true, true, true, true, true, false, false, false, false, false, false, false, false, false, false, false] rfl (want_off hS299 rfl rfl rfl hb209) rfl rfl (by kernel_rfl) (fun _ _ _ h => h) fun a300 hS300 => d_off hS300 11 #[true, true, true, true, true, true, true, true, true, true, true, true, false, false, false, false, false, false, false, false, false, false] rfl (want_off hS300 rfl rfl rfl hb209) rfl rfl (by kernel_rfl) (fun _ _ _ h => h) fun a301 hS301 => d_off hS301 12 #[true, true, true, true, true, true, true, true, true, true, true, true, true, false, false, false, false, false, false, false, false, false] rfl (want_off hS301 rfl rfl rfl hb209) rfl rfl (by kernel_rfl) (fun _ _ _ h => h) fun a302 hS302 => d_off hS302 13 #[true, true, true, true, true, true, true, true, true, true, true, true, true, true, false, false, false, false, false, false, false, false] rfl (want_un hS302 rfl rfl rfl) rfl rfl (by kernel_rfl) (fun _ _ _ h => h) fun a303 hS303 => d_off hS303 14 #[true, true, true, true, true, true, true, true, true, true, true, true, true, true, true, false, false, false, false, false, false, false] rfl (want_un hS303 rfl rfl rfl) rfl rfl (by kernel_rfl) (fun _ _ _ h => h) fun a304 hS304 => d_off hS304 15 #[true, true, true, true, true, true, true, true, true, true, true, true, true, true, true, true, false, false, false, false, false, false] rfl (want_un hS304 rfl rfl rfl) rfl rfl (by kernel_rfl) (fun _ _ _ h => h) fun a305 hS305 => d_off hS305 16 #[true, true, true, true, true, true, true, true, true, true, true, true, true, true, true, true, true, false, false, false, false, false] rfl (want_un hS305 rfl rfl rfl) rfl rfl (by kernel_rfl) (fun _ _ _ h => h) fun a306 hS306 => d_off hS306 17 #[true, true, true, true, true, true, true, true, true, true, true, true, true, true, true, true, true, true, false, false, false, false] rfl (want_un hS306 rfl rfl rfl) rfl rfl (by kernel_rfl) (fun _ _ _ h => h) fun a307 hS307 => d_off hS307 18 #[true, true, true, true, true, true, true, true, true, true, true, true, true, true, true, true, true, true, true, false, false, false] rfl (want_un hS307 rfl rfl rfl) rfl rfl (by kernel_rfl) (fun _ _ _ h => h) fun a308 hS308 => d_off hS308 19 #[true, true, true, true, true, true, true, true, true, true, true, true, true, true, true, true, true, true, true, true, false, false] rfl (want_un hS308 rfl rfl rfl) rfl rfl (by kernel_rfl) (fun _ _ _ h => h) fun a309 hS309 => d_off hS309 20 #[true, true, true, true, true, true, true, true, true, true, true, true, true, true, true, true, true, true, true, true, true, false] rfl (want_off hS309 rfl rfl rfl hb209) rfl rfl (by kernel_rfl) (fun _ _ _ h => h) fun a310 hS310 => d_pure hS310 21 #[true, true, true, true, true, true, true, true, true, true, true, true, true, true, true, true, true, true, true, true, true, true] rfl rfl rfl rfl (by kernel_rfl) (fun _ _ _ h => h) (fun _ => (r_pickF hS310 rfl rfl rfl hb209)) fun a311 hS311 => hk _ (hS311.re ⟨rfl, rfl, rfl, rfl, rfl, rfl, (by rw [← e296]; rfl), trivial⟩)
                intro a312 hS312
                refine d_done (by kernel_rfl) (hK _ _ ?_)
                replace hS : Sl 126 _ [(5, .slice A14 r12.length cap15), (6, .slice A25 r23.1.length cap26), (8, .slice A117 m0_0.length cap118), (9, .slice A120 m0_1.length cap121), (10, .int .i64 m0_2), (11, .pointer (some ⟨b178, 0, none⟩)), (78, .bool t251)] := hS312.re ⟨rfl, rfl, rfl, rfl, rfl, rfl, rfl, trivial⟩
                clear hK K hC
                try clear hS195 hS196 hS197 hS207 hS208 hS312
                obtain ⟨a, ha⟩ : ∃ a', a' = a312 := ⟨_, rfl⟩
                rw [← ha] at hS ⊢; clear ha
                refine c_cond hS rfl (fun hb313 => ?_) (fun hb313 => ?_)
                · replace H := ite_t hb313 H
                  refine c_pure [(4, .bool false)] (fun R hR => st_val hS rfl rfl rfl (r_assign hS rfl rfl) fun a314 hS314 => wpList_nil (hR _ (hS314.re ⟨rfl, trivial⟩))) ?_
                  clear hS
                  clear a
                  intro a hS
                  refine wp_ret ?_
                  have e := Option.some.inj H
                  subst e
                  replace H := Fl.go_out Hl171
                  have e := Option.some.inj H
                  subst e
                  replace H := Fl.go_out Hl159
                  have e := Option.some.inj H
                  subst e
                  repeat (with_reducible first | refine then_ret ?_ | refine inBlock_ret ?_)
                  exact c_ret1 hS Try.results6 rfl ⟨_, rfl, g184, rfl, hF⟩
                · replace H := ite_f hb313 H
                  refine wp_skip ?_
                  change Code.wp _ _ _ _ _
                  obtain ⟨o317, H, Hl318⟩ := bind_el H
                  refine c_cut (fun a w315 => ∃ (g315 : Nat → Nat), o317 = .nxt () ∧ Sl 126 a [(5, .slice A14 r12.length cap15), (6, .slice A25 r23.1.length cap26), (8, .slice A117 m0_0.length cap118), (9, .slice A120 m0_1.length cap121), (10, .int .i64 m0_2), (11, .pointer (some ⟨b178, 0, none⟩))] ∧ OwS kd_api_Rail 35 w315 g315 (N + 0) A14 cap15 r12 ∧ Bx w315 g315 (N + 8) b178 50 [.int .i64 x174.Rail, .bool x174.On, .int .u64 x174.Start, .int .u64 x174.Done] ∧ OwS kd_api_RailOp 50 w315 g315 (N + 2) A25 cap26 r23.1 ∧ OwS kbool 4 w315 g315 (N + 4) A117 cap118 m0_0 ∧ OwS (kint .u64) 33 w315 g315 (N + 6) A120 cap121 m0_1 ∧ Fr (fun q => N ≤ q) w g w315 g315) ?_ ?_
                  · refine c_pure [(5, .slice A14 r12.length cap15), (6, .slice A25 r23.1.length cap26), (8, .slice A117 m0_0.length cap118), (9, .slice A120 m0_1.length cap121), (10, .int .i64 m0_2), (11, .pointer (some ⟨b178, 0, none⟩)), (13, .int .i64 0)] (fun R hR => st_val hS rfl rfl rfl (r_assign hS rfl rfl) fun a319 hS319 => wpList_nil (hR _ (hS319.re ⟨rfl, rfl, rfl, rfl, rfl, rfl, rfl, trivial⟩))) ?_
                    clear hS
                    clear a
                    intro a hS
                    refine wp_block ?_
                    refine wp_loop_ghost (fun kq => fun a w320 => ∃ (m1_0 : Int), ∃ (g320 : Nat → Nat), law25_RailsSupplyIsOn.l1 r12 m0_0 m0_1 x174 kq m1_0 = some o317 ∧ Sl 126 a [(5, .slice A14 r12.length cap15), (6, .slice A25 r23.1.length cap26), (8, .slice A117 m0_0.length cap118), (9, .slice A120 m0_1.length cap121), (10, .int .i64 m0_2), (11, .pointer (some ⟨b178, 0, none⟩)), (13, .int .i64 m1_0)] ∧ OwS kd_api_Rail 35 w320 g320 (N + 0) A14 cap15 r12 ∧ Bx w320 g320 (N + 8) b178 50 [.int .i64 x174.Rail, .bool x174.On, .int .u64 x174.Start, .int .u64 x174.Done] ∧ OwS kd_api_RailOp 50 w320 g320 (N + 2) A25 cap26 r23.1 ∧ OwS kbool 4 w320 g320 (N + 4) A117 cap118 m0_0 ∧ OwS (kint .u64) 33 w320 g320 (N + 6) A120 cap121 m0_1 ∧ Fr (fun q => N ≤ q) w g w320 g320) FUEL ?_ ?_
                    · exact ⟨0, g184, H, hS.re ⟨rfl, rfl, rfl, rfl, rfl, rfl, rfl, trivial⟩, h16, h179, h27, h119, h122, hF⟩
                    · clear H
                      clear h16 h27 h119 h122 h179 hF
                      clear hS
                      rintro k321 a w320 ⟨m1_0, g320, hpre0, hS, h16, h179, h27, h119, h122, hF⟩
                      have H := hpre0
                      clear hpre0
                      cases k321 with
                      | zero => exact absurd H (by simp [law25_RailsSupplyIsOn.l1])
                      | succ k321 =>
                        rw [law25_RailsSupplyIsOn.l1] at H
                        refine wp_seq ?_
                        refine c_region (fun K hK => ?_)
                        refine st_val hS rfl rfl rfl (r_move hS rfl rfl) fun a322 hS322 => st_val hS322 rfl rfl rfl (r_move hS322 rfl rfl) fun a323 hS323 => st_val hS323 rfl rfl rfl (r_len (e := 35) (sz := 3) (by_ := 24) hS323 rfl rfl (by kernel_rfl)) fun a324 hS324 => st_val hS324 rfl rfl rfl (r_bin hS324 rfl rfl rfl b_lss) fun a325 hS325 => st_val hS325 rfl rfl rfl (r_move hS325 rfl rfl) fun a326 hS326 => ?_
                        refine g_join (N := 126) 4 [(5, .slice A14 r12.length cap15), (6, .slice A25 r23.1.length cap26), (8, .slice A117 m0_0.length cap118), (9, .slice A120 m0_1.length cap121), (10, .int .i64 m0_2), (11, .pointer (some ⟨b178, 0, none⟩)), (13, .int .i64 m1_0), (87, .bool ((decide (m1_0 < (r12.length : Int))) && (!x174.On)))] ?_ (fun hk => ?_)
                        rotate_left
                        · rcases Bool.eq_false_or_eq_true (decide (m1_0 < (r12.length : Int))) with hb327 | hb327
                          · refine st_valW hS326 (want_on hS326 rfl rfl rfl hb327) rfl rfl (r_fieldB (off := 1) hS326 rfl rfl (by kernel_rfl)) fun a331 hS331 => st_valW hS331 (want_on hS331 rfl rfl rfl hb327) rfl rfl (r_load1 (n := 1) hS331 rfl rfl (by kernel_rfl) (Bx.cell h179 rfl)) fun a332 hS332 => st_valW hS332 (want_on hS332 rfl rfl rfl hb327) rfl rfl (r_not hS332 rfl rfl) fun a333 hS333 => st_val hS333 rfl rfl rfl (r_pickT hS333 rfl rfl rfl hb327) fun a334 hS334 => hk _ (hS334.re ⟨rfl, rfl, rfl, rfl, rfl, rfl, rfl, (by rw [hb327]; rfl), trivial⟩)
                          · refine st_off hS326 (want_off hS326 rfl rfl rfl hb327) rfl rfl fun a335 hS335 => st_off hS335 (want_off hS335 rfl rfl rfl hb327) rfl rfl fun a336 hS336 => st_off hS336 (want_off hS336 rfl rfl rfl hb327) rfl rfl fun a337 hS337 => st_val hS337 rfl rfl rfl (r_pickF hS337 rfl rfl rfl hb327) fun a338 hS338 => hk _ (hS338.re ⟨rfl, rfl, rfl, rfl, rfl, rfl, rfl, (by rw [hb327]; rfl), trivial⟩)
                        intro a339 hS339
                        refine wpList_nil (hK _ _ ?_)
                        replace hS : Sl 126 _ [(5, .slice A14 r12.length cap15), (6, .slice A25 r23.1.length cap26), (8, .slice A117 m0_0.length cap118), (9, .slice A120 m0_1.length cap121), (10, .int .i64 m0_2), (11, .pointer (some ⟨b178, 0, none⟩)), (13, .int .i64 m1_0), (87, .bool ((decide (m1_0 < (r12.length : Int))) && (!x174.On)))] := hS339.re ⟨rfl, rfl, rfl, rfl, rfl, rfl, rfl, rfl, trivial⟩
                        clear hK K
                        try clear hS322 hS323 hS324 hS325 hS326 hS339
                        obtain ⟨a, ha⟩ : ∃ a', a' = a339 := ⟨_, rfl⟩
                        rw [← ha] at hS ⊢; clear ha
                        refine c_cond hS rfl (fun hb340 => ?_) (fun hb340 => ?_)
                        · replace H := ite_t hb340 H
                          refine wp_skip ?_
                          change Code.wp _ _ _ _ _
                          refine wp_seq ?_
                          refine wp_block ?_
                          obtain ⟨x344, hx345, H⟩ := bind_el H
                          obtain ⟨t394, ht395, H⟩ := bind_el H
                          refine c_draw (fun K hK => d_start (fun q => False) g320 [] 23 #[false, false, false, false, false, false, false, false, false, false, false, false, false, false, false, false, false, false, false, false, false, false, false] (by kernel_rfl) rfl rfl (fun w341 hw341 => ?_))
                          have F341 : Fr (fun _ => False) w320 g320 w341 g320 := by rw [hw341]; exact Fr.drew _ _ _
                          replace h16 := OwS.fr h16 F341 (fun _ _ h => h)
                          replace h179 := h179.fr F341 (fun h => h)
                          replace h27 := OwS.fr h27 F341 (fun _ _ h => h)
                          replace h119 := OwS.fr h119 F341 (fun _ _ h => h)
                          replace h122 := OwS.fr h122 F341 (fun _ _ h => h)
                          replace hF := hF.trans F341 (fun _ h => h.elim)
                          have hC : Fr (fun q => False) w341 g320 w341 g320 := Fr.refl _ _ _
                          refine d_pure hS 0 #[true, false, false, false, false, false, false, false, false, false, false, false, false, false, false, false, false, false, false, false, false, false, false] rfl rfl rfl rfl (by kernel_rfl) (fun _ _ _ h => h) (fun _ => (r_move hS rfl rfl)) fun a342 hS342 => d_pure hS342 1 #[true, true, false, false, false, false, false, false, false, false, false, false, false, false, false, false, false, false, false, false, false, false, false] rfl rfl rfl rfl (by kernel_rfl) (fun _ _ _ h => h) (fun _ => (r_move hS342 rfl rfl)) fun a343 hS343 => d_pure hS343 2 #[true, true, true, false, false, false, false, false, false, false, false, false, false, false, false, false, false, false, false, false, false, false, false] rfl rfl rfl rfl (by kernel_rfl) (fun _ _ _ h => h) (fun _ => (r_index (e := 35) (sz := 3) (by_ := 24) hS343 rfl rfl rfl (by kernel_rfl) (RdS.some_ (OwS.rd h16) hx345) (idx_lo hx345) (idx_hi hx345))) fun a346 hS346 => d_pure hS346 3 #[true, true, true, true, false, false, false, false, false, false, false, false, false, false, false, false, false, false, false, false, false, false, false] rfl rfl rfl rfl (by kernel_rfl) (fun _ _ _ h => h) (fun _ => (r_fieldE (off := 0) hS346 rfl rfl (by kernel_rfl))) fun a347 hS347 => d_take hS347 4 #[true, true, true, true, true, false, false, false, false, false, false, false, false, false, false, false, false, false, false, false, false, false, false] rfl rfl rfl rfl (by kernel_rfl) (fun _ _ _ h => h) ⟨_, hC⟩ (fun w' g' Fz => (r_load1 (n := 1) hS347 rfl rfl (by kernel_rfl) (RdS.cell (i := m1_0) (sz := 3) (j := 0) (OwS.rd (OwS.fr h16 Fz (fun _ _ h => h))) hx345 rfl))) fun a348 hS348 => d_pure hS348 5 #[true, true, true, true, true, true, false, false, false, false, false, false, false, false, false, false, false, false, false, false, false, false, false] rfl rfl rfl rfl (by kernel_rfl) (fun _ _ _ h => h) (fun _ => (r_fieldB (off := 0) hS348 rfl rfl (by kernel_rfl))) fun a349 hS349 => d_take hS349 6 #[true, true, true, true, true, true, true, false, false, false, false, false, false, false, false, false, false, false, false, false, false, false, false] rfl rfl rfl rfl (by kernel_rfl) (fun _ _ _ h => h) ⟨_, hC⟩ (fun w' g' Fz => (r_load1 (n := 1) hS349 rfl rfl (by kernel_rfl) (Bx.cell (h179.fr Fz (fun h => h)) rfl))) fun a350 hS350 => d_pure hS350 7 #[true, true, true, true, true, true, true, true, false, false, false, false, false, false, false, false, false, false, false, false, false, false, false] rfl rfl rfl rfl (by kernel_rfl) (fun _ _ _ h => h) (fun _ => (r_bin hS350 rfl rfl rfl b_eql)) fun a351 hS351 => d_pure hS351 8 #[true, true, true, true, true, true, true, true, true, false, false, false, false, false, false, false, false, false, false, false, false, false, false] rfl rfl rfl rfl (by kernel_rfl) (fun _ _ _ h => h) (fun _ => (r_move hS351 rfl rfl)) fun a352 hS352 => ?_
                          refine d_join (N := 126) 0 #[true, true, true, true, true, true, true, true, true, true, true, true, true, true, true, true, true, true, true, true, true, true, true] [(5, .slice A14 r12.length cap15), (6, .slice A25 r23.1.length cap26), (8, .slice A117 m0_0.length cap118), (9, .slice A120 m0_1.length cap121), (10, .int .i64 m0_2), (11, .pointer (some ⟨b178, 0, none⟩)), (13, .int .i64 m1_0), (112, .bool t394)] ?_ (fun hk => ?_)
                          rotate_left
                          · rcases Bool.eq_false_or_eq_true ((x344.Supply == x174.Rail)) with hb353 | hb353
                            · have H := ite_t hb353 ht395
                              obtain ⟨x398, hx399, H⟩ := bind_el H
                              obtain ⟨t413, ht414, H⟩ := bind_el H
                              have e436 := Option.some.inj H
                              refine d_pureW hS352 9 #[true, true, true, true, true, true, true, true, true, true, false, false, false, false, false, false, false, false, false, false, false, false, false] rfl (want_on hS352 rfl rfl rfl hb353) rfl rfl (by kernel_rfl) (fun _ _ _ h => h) (fun _ => (r_move hS352 rfl rfl)) fun a396 hS396 => d_pureW hS396 10 #[true, true, true, true, true, true, true, true, true, true, true, false, false, false, false, false, false, false, false, false, false, false, false] rfl (want_on hS396 rfl rfl rfl hb353) rfl rfl (by kernel_rfl) (fun _ _ _ h => h) (fun _ => (r_move hS396 rfl rfl)) fun a397 hS397 => d_pureW hS397 11 #[true, true, true, true, true, true, true, true, true, true, true, true, false, false, false, false, false, false, false, false, false, false, false] rfl (want_on hS397 rfl rfl rfl hb353) rfl rfl (by kernel_rfl) (fun _ _ _ h => h) (fun _ => (r_index (e := 4) (sz := 1) (by_ := 1) hS397 rfl rfl rfl (by kernel_rfl) (RdS.some_ (OwS.rd h119) hx399) (idx_lo hx399) (idx_hi hx399))) fun a400 hS400 => d_takeW hS400 12 #[true, true, true, true, true, true, true, true, true, true, true, true, true, false, false, false, false, false, false, false, false, false, false] rfl (want_on hS400 rfl rfl rfl hb353) rfl rfl (by kernel_rfl) (fun _ _ _ h => h) ⟨_, hC⟩ (fun w' g' Fz => (r_load1 (n := 1) hS400 rfl rfl (by kernel_rfl) (RdS.cell (i := m1_0) (sz := 1) (j := 0) (OwS.rd (OwS.fr h119 Fz (fun _ _ h => h))) hx399 rfl))) fun a401 hS401 => d_pureW hS401 13 #[true, true, true, true, true, true, true, true, true, true, true, true, true, true, false, false, false, false, false, false, false, false, false] rfl (want_on hS401 rfl rfl rfl hb353) rfl rfl (by kernel_rfl) (fun _ _ _ h => h) (fun _ => (r_move hS401 rfl rfl)) fun a402 hS402 => ?_
                              refine d_join (N := 126) 1 #[true, true, true, true, true, true, true, true, true, true, true, true, true, true, true, true, true, true, true, true, true, true, false] [(5, .slice A14 r12.length cap15), (6, .slice A25 r23.1.length cap26), (8, .slice A117 m0_0.length cap118), (9, .slice A120 m0_1.length cap121), (10, .int .i64 m0_2), (11, .pointer (some ⟨b178, 0, none⟩)), (13, .int .i64 m1_0), (98, .bool (x344.Supply == x174.Rail)), (99, .slice A117 m0_0.length cap118), (100, .int .i64 m1_0), (101, .pointer (some (ea A117 (m1_0.toNat * 1)))), (102, .bool x398), (103, .bool x398), (111, .bool t413)] ?_ (fun hk => ?_)
                              rotate_left
                              · rcases Bool.eq_false_or_eq_true (x398) with hb403 | hb403
                                · have H := ite_t hb403 ht414
                                  have e415 := Option.some.inj H
                                  refine d_off hS402 14 #[true, true, true, true, true, true, true, true, true, true, true, true, true, true, true, false, false, false, false, false, false, false, false] rfl (want_off hS402 rfl rfl rfl hb403) rfl rfl (by kernel_rfl) (fun _ _ _ h => h) fun a416 hS416 => d_off hS416 15 #[true, true, true, true, true, true, true, true, true, true, true, true, true, true, true, true, false, false, false, false, false, false, false] rfl (want_off hS416 rfl rfl rfl hb403) rfl rfl (by kernel_rfl) (fun _ _ _ h => h) fun a417 hS417 => d_off hS417 16 #[true, true, true, true, true, true, true, true, true, true, true, true, true, true, true, true, true, false, false, false, false, false, false] rfl (want_off hS417 rfl rfl rfl hb403) rfl rfl (by kernel_rfl) (fun _ _ _ h => h) fun a418 hS418 => d_off hS418 17 #[true, true, true, true, true, true, true, true, true, true, true, true, true, true, true, true, true, true, false, false, false, false, false] rfl (want_off hS418 rfl rfl rfl hb403) rfl rfl (by kernel_rfl) (fun _ _ _ h => h) fun a419 hS419 => d_off hS419 18 #[true, true, true, true, true, true, true, true, true, true, true, true, true, true, true, true, true, true, true, false, false, false, false] rfl (want_off hS419 rfl rfl rfl hb403) rfl rfl (by kernel_rfl) (fun _ _ _ h => h) fun a420 hS420 => d_off hS420 19 #[true, true, true, true, true, true, true, true, true, true, true, true, true, true, true, true, true, true, true, true, false, false, false] rfl (want_off hS420 rfl rfl rfl hb403) rfl rfl (by kernel_rfl) (fun _ _ _ h => h) fun a421 hS421 => d_off hS421 20 #[true, true, true, true, true, true, true, true, true, true, true, true, true, true, true, true, true, true, true, true, true, false, false] rfl (want_off hS421 rfl rfl rfl hb403) rfl rfl (by kernel_rfl) (fun _ _ _ h => h) fun a422 hS422 => d_pureW hS422 21 #[true, true, true, true, true, true, true, true, true, true, true, true, true, true, true, true, true, true, true, true, true, true, false] rfl (want_on hS422 rfl rfl rfl hb353) rfl rfl (by kernel_rfl) (fun _ _ _ h => h) (fun _ => (r_pickT hS422 rfl rfl rfl hb403)) fun a423 hS423 => hk _ (hS423.re ⟨rfl, rfl, rfl, rfl, rfl, rfl, rfl, rfl, rfl, rfl, rfl, rfl, rfl, (by rw [← e415]; rfl), trivial⟩)
                                · have H := ite_f hb403 ht414
                                  obtain ⟨x426, hx427, H⟩ := bind_el H
                                  have e433 := Option.some.inj H
                                  refine d_pureW hS402 14 #[true, true, true, true, true, true, true, true, true, true, true, true, true, true, true, false, false, false, false, false, false, false, false] rfl (want_on hS402 rfl rfl rfl hb403) rfl rfl (by kernel_rfl) (fun _ _ _ h => h) (fun _ => (r_move hS402 rfl rfl)) fun a424 hS424 => d_pureW hS424 15 #[true, true, true, true, true, true, true, true, true, true, true, true, true, true, true, true, false, false, false, false, false, false, false] rfl (want_on hS424 rfl rfl rfl hb403) rfl rfl (by kernel_rfl) (fun _ _ _ h => h) (fun _ => (r_move hS424 rfl rfl)) fun a425 hS425 => d_pureW hS425 16 #[true, true, true, true, true, true, true, true, true, true, true, true, true, true, true, true, true, false, false, false, false, false, false] rfl (want_on hS425 rfl rfl rfl hb403) rfl rfl (by kernel_rfl) (fun _ _ _ h => h) (fun _ => (r_index (e := 33) (sz := 1) (by_ := 8) hS425 rfl rfl rfl (by kernel_rfl) (RdS.some_ (OwS.rd h122) hx427) (idx_lo hx427) (idx_hi hx427))) fun a428 hS428 => d_takeW hS428 17 #[true, true, true, true, true, true, true, true, true, true, true, true, true, true, true, true, true, true, false, false, false, false, false] rfl (want_on hS428 rfl rfl rfl hb403) rfl rfl (by kernel_rfl) (fun _ _ _ h => h) ⟨_, hC⟩ (fun w' g' Fz => (r_load1 (n := 1) hS428 rfl rfl (by kernel_rfl) (RdS.cell (i := m1_0) (sz := 1) (j := 0) (OwS.rd (OwS.fr h122 Fz (fun _ _ h => h))) hx427 rfl))) fun a429 hS429 => d_pureW hS429 18 #[true, true, true, true, true, true, true, true, true, true, true, true, true, true, true, true, true, true, true, false, false, false, false] rfl (want_on hS429 rfl rfl rfl hb403) rfl rfl (by kernel_rfl) (fun _ _ _ h => h) (fun _ => (r_fieldB (off := 2) hS429 rfl rfl (by kernel_rfl))) fun a430 hS430 => d_takeW hS430 19 #[true, true, true, true, true, true, true, true, true, true, true, true, true, true, true, true, true, true, true, true, false, false, false] rfl (want_on hS430 rfl rfl rfl hb403) rfl rfl (by kernel_rfl) (fun _ _ _ h => h) ⟨_, hC⟩ (fun w' g' Fz => (r_load1 (n := 1) hS430 rfl rfl (by kernel_rfl) (Bx.cell (h179.fr Fz (fun h => h)) rfl))) fun a431 hS431 => d_pureW hS431 20 #[true, true, true, true, true, true, true, true, true, true, true, true, true, true, true, true, true, true, true, true, true, false, false] rfl (want_on hS431 rfl rfl rfl hb403) rfl rfl (by kernel_rfl) (fun _ _ _ h => h) (fun _ => (r_bin hS431 rfl rfl rfl b_gtr)) fun a432 hS432 => d_pureW hS432 21 #[true, true, true, true, true, true, true, true, true, true, true, true, true, true, true, true, true, true, true, true, true, true, false] rfl (want_on hS432 rfl rfl rfl hb353) rfl rfl (by kernel_rfl) (fun _ _ _ h => h) (fun _ => (r_pickF hS432 rfl rfl rfl hb403)) fun a434 hS434 => hk _ (hS434.re ⟨rfl, rfl, rfl, rfl, rfl, rfl, rfl, rfl, rfl, rfl, rfl, rfl, rfl, (by rw [← e433]; rfl), trivial⟩)
                              intro a435 hS435
                              refine d_pure hS435 22 #[true, true, true, true, true, true, true, true, true, true, true, true, true, true, true, true, true, true, true, true, true, true, true] rfl rfl rfl rfl (by kernel_rfl) (fun _ _ _ h => h) (fun _ => (r_pickT hS435 rfl rfl rfl hb353)) fun a437 hS437 => hk _ (hS437.re ⟨rfl, rfl, rfl, rfl, rfl, rfl, rfl, (by rw [← e436]; rfl), trivial⟩)
                            · have H := ite_f hb353 ht395
                              have e438 := Option.some.inj H
                              refine d_off hS352 9 #[true, true, true, true, true, true, true, true, true, true, false, false, false, false, false, false, false, false, false, false, false, false, false] rfl (want_off hS352 rfl rfl rfl hb353) rfl rfl (by kernel_rfl) (fun _ _ _ h => h) fun a439 hS439 => d_off hS439 10 #[true, true, true, true, true, true, true, true, true, true, true, false, false, false, false, false, false, false, false, false, false, false, false] rfl (want_off hS439 rfl rfl rfl hb353) rfl rfl (by kernel_rfl) (fun _ _ _ h => h) fun a440 hS440 => d_off hS440 11 #[true, true, true, true, true, true, true, true, true, true, true, true, false, false, false, false, false, false, false, false, false, false, false] rfl (want_off hS440 rfl rfl rfl hb353) rfl rfl (by kernel_rfl) (fun _ _ _ h => h) fun a441 hS441 => d_off hS441 12 #[true, true, true, true, true, true, true, true, true, true, true, true, true, false, false, false, false, false, false, false, false, false, false] rfl (want_off hS441 rfl rfl rfl hb353) rfl rfl (by kernel_rfl) (fun _ _ _ h => h) fun a442 hS442 => d_off hS442 13 #[true, true, true, true, true, true, true, true, true, true, true, true, true, true, false, false, false, false, false, false, false, false, false] rfl (want_off hS442 rfl rfl rfl hb353) rfl rfl (by kernel_rfl) (fun _ _ _ h => h) fun a443 hS443 => d_off hS443 14 #[true, true, true, true, true, true, true, true, true, true, true, true, true, true, true, false, false, false, false, false, false, false, false] rfl (want_un hS443 rfl rfl rfl) rfl rfl (by kernel_rfl) (fun _ _ _ h => h) fun a444 hS444 => d_off hS444 15 #[true, true, true, true, true, true, true, true, true, true, true, true, true, true, true, true, false, false, false, false, false, false, false] rfl (want_un hS444 rfl rfl rfl) rfl rfl (by kernel_rfl) (fun _ _ _ h => h) fun a445 hS445 => d_off hS445 16 #[true, true, true, true, true, true, true, true, true, true, true, true, true, true, true, true, true, false, false, false, false, false, false] rfl (want_un hS445 rfl rfl rfl) rfl rfl (by kernel_rfl) (fun _ _ _ h => h) fun a446 hS446 => d_off hS446 17 #[true, true, true, true, true, true, true, true, true, true, true, true, true, true, true, true, true, true, false, false, false, false, false] rfl (want_un hS446 rfl rfl rfl) rfl rfl (by kernel_rfl) (fun _ _ _ h => h) fun a447 hS447 => d_off hS447 18 #[true, true, true, true, true, true, true, true, true, true, true, true, true, true, true, true, true, true, true, false, false, false, false] rfl (want_un hS447 rfl rfl rfl) rfl rfl (by kernel_rfl) (fun _ _ _ h => h) fun a448 hS448 => d_off hS448 19 #[true, true, true, true, true, true, true, true, true, true, true, true, true, true, true, true, true, true, true, true, false, false, false] rfl (want_un hS448 rfl rfl rfl) rfl rfl (by kernel_rfl) (fun _ _ _ h => h) fun a449 hS449 => d_off hS449 20 #[true, true, true, true, true, true, true, true, true, true, true, true, true, true, true, true, true, true, true, true, true, false, false] rfl (want_un hS449 rfl rfl rfl) rfl rfl (by kernel_rfl) (fun _ _ _ h => h) fun a450 hS450 => d_off hS450 21 #[true, true, true, true, true, true, true, true, true, true, true, true, true, true, true, true, true, true, true, true, true, true, false] rfl (want_off hS450 rfl rfl rfl hb353) rfl rfl (by kernel_rfl) (fun _ _ _ h => h) fun a451 hS451 => d_pure hS451 22 #[true, true, true, true, true, true, true, true, true, true, true, true, true, true, true, true, true, true, true, true, true, true, true] rfl rfl rfl rfl (by kernel_rfl) (fun _ _ _ h => h) (fun _ => (r_pickF hS451 rfl rfl rfl hb353)) fun a452 hS452 => hk _ (hS452.re ⟨rfl, rfl, rfl, rfl, rfl, rfl, rfl, (by rw [← e438]; rfl), trivial⟩)
                          intro a453 hS453
                          refine d_done (by kernel_rfl) (hK _ _ ?_)
                          replace hS : Sl 126 _ [(5, .slice A14 r12.length cap15), (6, .slice A25 r23.1.length cap26), (8, .slice A117 m0_0.length cap118), (9, .slice A120 m0_1.length cap121), (10, .int .i64 m0_2), (11, .pointer (some ⟨b178, 0, none⟩)), (13, .int .i64 m1_0), (112, .bool t394)] := hS453.re ⟨rfl, rfl, rfl, rfl, rfl, rfl, rfl, rfl, trivial⟩
                          clear hK K hC
                          try clear hS342 hS343 hS346 hS347 hS348 hS349 hS350 hS351 hS352 hS453
                          obtain ⟨a, ha⟩ : ∃ a', a' = a453 := ⟨_, rfl⟩
                          rw [← ha] at hS ⊢; clear ha
                          refine c_cond hS rfl (fun hb454 => ?_) (fun hb454 => ?_)
                          · replace H := ite_t hb454 H
                            refine c_pure [(4, .bool false)] (fun R hR => st_val hS rfl rfl rfl (r_assign hS rfl rfl) fun a455 hS455 => wpList_nil (hR _ (hS455.re ⟨rfl, trivial⟩))) ?_
                            clear hS
                            clear a
                            intro a hS
                            refine wp_ret ?_
                            have e := Option.some.inj H
                            subst e
                            replace H := Fl.go_out Hl318
                            have e := Option.some.inj H
                            subst e
                            replace H := Fl.go_out Hl171
                            have e := Option.some.inj H
                            subst e
                            replace H := Fl.go_out Hl159
                            have e := Option.some.inj H
                            subst e
                            repeat (with_reducible first | refine then_ret ?_ | refine inBlock_ret ?_)
                            exact c_ret1 hS Try.results6 rfl ⟨_, rfl, g320, rfl, hF⟩
                          · replace H := ite_f hb454 H
                            refine wp_skip ?_
                            change Code.wp _ _ _ _ _
                            refine c_pure1 [(5, .slice A14 r12.length cap15), (6, .slice A25 r23.1.length cap26), (8, .slice A117 m0_0.length cap118), (9, .slice A120 m0_1.length cap121), (10, .int .i64 m0_2), (11, .pointer (some ⟨b178, 0, none⟩)), (13, .int .i64 (wi (m1_0 + 1)))] (fun R hR => st_val hS rfl rfl rfl (r_move hS rfl rfl) fun a456 hS456 => st_val hS456 rfl rfl rfl (r_bin hS456 rfl rfl rfl b_add) fun a457 hS457 => st_val hS457 rfl rfl rfl (r_assign hS457 rfl rfl) fun a458 hS458 => wpList_nil (hR _ (hS458.re ⟨rfl, rfl, rfl, rfl, rfl, rfl, rfl, trivial⟩))) ?_
                            clear hS
                            clear a
                            intro a hS
                            refine ⟨k321, Nat.lt_succ_self _, ?_⟩
                            exact ⟨wi (m1_0 + 1), g320, H, hS.re ⟨rfl, rfl, rfl, rfl, rfl, rfl, rfl, trivial⟩, h16, h179, h27, h119, h122, hF⟩
                        · replace H := ite_f hb340 H
                          refine wp_exit ?_
                          have e := Option.some.inj H
                          exact ⟨g320, e.symm, hS.re ⟨rfl, rfl, rfl, rfl, rfl, rfl, trivial⟩, h16, h179, h27, h119, h122, hF⟩
                  · clear H
                    clear h16 h27 h119 h122 h179 hF
                    clear hS
                    rintro a w315 ⟨g315, hpre0, hS, h16, h179, h27, h119, h122, hF⟩
                    subst hpre0
                    have H := Fl.go_nxt Hl318
                    clear Hl318
                    obtain ⟨x459, hx460, H⟩ := bind_el H
                    obtain ⟨x461, hx462, H⟩ := bind_el H
                    refine c_draw1 (fun K hK => d_start (fun q => q = N + 4) g315 [13] 14 #[false, false, false, false, false, false, false, false, false, false, false, false, false, false] (by kernel_rfl) rfl rfl (fun w463 hw463 => ?_))
                    have F463 : Fr (fun _ => False) w315 g315 w463 g315 := by rw [hw463]; exact Fr.drew _ _ _
                    replace h16 := OwS.fr h16 F463 (fun _ _ h => h)
                    replace h179 := h179.fr F463 (fun h => h)
                    replace h27 := OwS.fr h27 F463 (fun _ _ h => h)
                    replace h119 := OwS.fr h119 F463 (fun _ _ h => h)
                    replace h122 := OwS.fr h122 F463 (fun _ _ h => h)
                    replace hF := hF.trans F463 (fun _ h => h.elim)
                    have hC : Fr (fun q => q = N + 4) w463 g315 w463 g315 := Fr.refl _ _ _
                    refine d_pure hS 0 #[true, false, false, false, false, false, false, false, false, false, false, false, false, false] rfl rfl rfl rfl (by kernel_rfl) (fun _ _ _ h => h) (fun _ => (r_move hS rfl rfl)) fun a464 hS464 => d_pure hS464 1 #[true, true, false, false, false, false, false, false, false, false, false, false, false, false] rfl rfl rfl rfl (by kernel_rfl) (fun _ _ _ h => h) (fun _ => (r_fieldB (off := 0) hS464 rfl rfl (by kernel_rfl))) fun a465 hS465 => d_take hS465 2 #[true, true, true, false, false, false, false, false, false, false, false, false, false, false] rfl rfl rfl rfl (by kernel_rfl) (fun _ _ _ h => h) ⟨_, hC⟩ (fun w' g' Fz => (r_load1 (n := 1) hS465 rfl rfl (by kernel_rfl) (Bx.cell (h179.fr Fz (fun (hm : N + 8 = N + 4) => by omega)) rfl))) fun a466 hS466 => d_pure hS466 3 #[true, true, true, true, false, false, false, false, false, false, false, false, false, false] rfl rfl rfl rfl (by kernel_rfl) (fun _ _ _ h => h) (fun _ => (r_move hS466 rfl rfl)) fun a467 hS467 => d_pure hS467 4 #[true, true, true, true, true, false, false, false, false, false, false, false, false, false] rfl rfl rfl rfl (by kernel_rfl) (fun _ _ _ h => h) (fun _ => (r_fieldB (off := 0) hS467 rfl rfl (by kernel_rfl))) fun a468 hS468 => d_take hS468 5 #[true, true, true, true, true, true, false, false, false, false, false, false, false, false] rfl rfl rfl rfl (by kernel_rfl) (fun _ _ _ h => h) ⟨_, hC⟩ (fun w' g' Fz => (r_load1 (n := 1) hS468 rfl rfl (by kernel_rfl) (Bx.cell (h179.fr Fz (fun (hm : N + 8 = N + 4) => by omega)) rfl))) fun a469 hS469 => d_pure hS469 6 #[true, true, true, true, true, true, true, false, false, false, false, false, false, false] rfl rfl rfl rfl (by kernel_rfl) (fun _ _ _ h => h) (fun _ => (r_fieldB (off := 1) hS469 rfl rfl (by kernel_rfl))) fun a470 hS470 => d_take hS470 7 #[true, true, true, true, true, true, true, true, false, false, false, false, false, false] rfl rfl rfl rfl (by kernel_rfl) (fun _ _ _ h => h) ⟨_, hC⟩ (fun w' g' Fz => (r_load1 (n := 1) hS470 rfl rfl (by kernel_rfl) (Bx.cell (h179.fr Fz (fun (hm : N + 8 = N + 4) => by omega)) rfl))) fun a471 hS471 => d_pure hS471 8 #[true, true, true, true, true, true, true, true, true, false, false, false, false, false] rfl rfl rfl rfl (by kernel_rfl) (fun _ _ _ h => h) (fun _ => (r_fieldB (off := 3) hS471 rfl rfl (by kernel_rfl))) fun a472 hS472 => d_take hS472 9 #[true, true, true, true, true, true, true, true, true, true, false, false, false, false] rfl rfl rfl rfl (by kernel_rfl) (fun _ _ _ h => h) ⟨_, hC⟩ (fun w' g' Fz => (r_load1 (n := 1) hS472 rfl rfl (by kernel_rfl) (Bx.cell (h179.fr Fz (fun (hm : N + 8 = N + 4) => by omega)) rfl))) fun a473 hS473 => d_pure hS473 10 #[true, true, true, true, true, true, true, true, true, true, true, false, false, false] rfl rfl rfl rfl (by kernel_rfl) (fun _ _ _ h => h) (fun _ => (r_index (e := 4) (sz := 1) (by_ := 1) hS473 rfl rfl rfl (by kernel_rfl) (RdS.some_ (OwS.rd h119) hx460) (idx_lo hx460) (idx_hi hx460))) fun a474 hS474 => ?_
                    refine d_one 11 #[true, true, true, true, true, true, true, true, true, true, true, true, false, false] rfl (by kernel_rfl) (arm_effS hS474 rfl rfl (e_storeE (n := 1) (bb := false) (kd := kbool) (j := 0) (x' := x174.On) (us := [.bool x174.On]) g315 hS474 rfl rfl rfl rfl (by kernel_rfl) rfl rfl (by intro v hv; simp only [List.mem_cons, List.not_mem_nil, or_false] at hv; rcases hv with rfl <;> rfl) h119 hx460 rfl (fun _ _ cs hR => by rw [show cs = _ from hR]; rfl)) (.inr (fun _ g' hR _ => ⟨g', hC.trans hR.2 (fun c' (hm : c' = N + 4) => by show c' = N + 4; omega)⟩)) ?_)
                    rintro a475 w476 g476 ⟨h119, F476⟩ hS475
                    have hC476 := hC.trans F476 (fun c' (hm : c' = N + 4) => by show c' = N + 4; omega)
                    replace h16 := OwS.fr h16 F476 (fun c' hc (hm : c' = N + 4) => by omega)
                    replace h179 := h179.fr F476 (fun (hm : N + 8 = N + 4) => by omega)
                    replace h27 := OwS.fr h27 F476 (fun c' hc (hm : c' = N + 4) => by omega)
                    replace h122 := OwS.fr h122 F476 (fun c' hc (hm : c' = N + 4) => by omega)
                    replace hF := hF.trans F476 (fun c' (hm : c' = N + 4) => by show N ≤ c'; omega)
                    have hT : Sl 126 a475 [(5, .slice A14 r12.length cap15), (6, .slice A25 r23.1.length cap26), (8, .slice A117 m0_0.length cap118), (9, .slice A120 m0_1.length cap121), (10, .int .i64 m0_2), (116, .slice A120 m0_1.length cap121), (118, .int .i64 x174.Rail), (122, .int .u64 x174.Done)] := hS475.re ⟨rfl, rfl, rfl, rfl, rfl, rfl, rfl, rfl, trivial⟩
                    replace hS475 : Sl 126 a475 [(5, .slice A14 r12.length cap15), (6, .slice A25 r23.1.length cap26), (8, .slice A117 (upd m0_0 x174.Rail x174.On).length cap118), (9, .slice A120 m0_1.length cap121), (10, .int .i64 m0_2), (116, .slice A120 m0_1.length cap121), (118, .int .i64 x174.Rail), (122, .int .u64 x174.Done)] := by simpa only [upd_length] using hT
                    clear hT
                    refine d_pure hS475 12 #[true, true, true, true, true, true, true, true, true, true, true, true, true, false] rfl rfl rfl rfl (by kernel_rfl) (fun _ _ _ h => h) (fun _ => (r_index (e := 33) (sz := 1) (by_ := 8) hS475 rfl rfl rfl (by kernel_rfl) (RdS.some_ (OwS.rd h122) hx462) (idx_lo hx462) (idx_hi hx462))) fun a477 hS477 => ?_
                    refine d_one 13 #[true, true, true, true, true, true, true, true, true, true, true, true, true, true] rfl (by kernel_rfl) (arm_effS hS477 rfl rfl (e_storeE (n := 1) (bb := false) (kd := (kint .u64)) (j := 0) (x' := x174.Done) (us := [.int .u64 x174.Done]) g476 hS477 rfl rfl rfl rfl (by kernel_rfl) rfl rfl (by intro v hv; simp only [List.mem_cons, List.not_mem_nil, or_false] at hv; rcases hv with rfl <;> rfl) h122 hx462 rfl (fun _ _ cs hR => by rw [show cs = _ from hR]; rfl)) (.inl (by decide)) ?_)
                    rintro a478 w479 g479 ⟨h122, F479⟩ hS478
                    replace h16 := OwS.fr h16 F479 (fun c' hc (hm : c' = N + 6) => by omega)
                    replace h179 := h179.fr F479 (fun (hm : N + 8 = N + 6) => by omega)
                    replace h27 := OwS.fr h27 F479 (fun c' hc (hm : c' = N + 6) => by omega)
                    replace h119 := OwS.fr h119 F479 (fun c' hc (hm : c' = N + 6) => by omega)
                    replace hF := hF.trans F479 (fun c' (hm : c' = N + 6) => by show N ≤ c'; omega)
                    have hT : Sl 126 a478 [(5, .slice A14 r12.length cap15), (6, .slice A25 r23.1.length cap26), (8, .slice A117 (upd m0_0 x174.Rail x174.On).length cap118), (9, .slice A120 m0_1.length cap121), (10, .int .i64 m0_2)] := hS478.re ⟨rfl, rfl, rfl, rfl, rfl, trivial⟩
                    replace hS478 : Sl 126 a478 [(5, .slice A14 r12.length cap15), (6, .slice A25 r23.1.length cap26), (8, .slice A117 (upd m0_0 x174.Rail x174.On).length cap118), (9, .slice A120 (upd m0_1 x174.Rail x174.Done).length cap121), (10, .int .i64 m0_2)] := by simpa only [upd_length] using hT
                    clear hT
                    refine d_done (by kernel_rfl) (hK _ _ ?_)
                    replace hS : Sl 126 _ [(5, .slice A14 r12.length cap15), (6, .slice A25 r23.1.length cap26), (8, .slice A117 (upd m0_0 x174.Rail x174.On).length cap118), (9, .slice A120 (upd m0_1 x174.Rail x174.Done).length cap121), (10, .int .i64 m0_2)] := hS478.re ⟨rfl, rfl, rfl, rfl, rfl, trivial⟩
                    clear hK K hC
                    try clear hS464 hS465 hS466 hS467 hS468 hS469 hS470 hS471 hS472 hS473 hS474 hS475 hS477 hS478
                    obtain ⟨a, ha⟩ : ∃ a', a' = a478 := ⟨_, rfl⟩
                    rw [← ha] at hS ⊢; clear ha
                    have e := Option.some.inj H
                    exact ⟨((upd m0_0 x174.Rail x174.On), (upd m0_1 x174.Rail x174.Done)), g479, e.symm, hS.re ⟨rfl, rfl, rfl, rfl, rfl, trivial⟩, h16, h27, h119, h122, hF⟩
              · clear H
                clear h16 h27 h119 h122 hF
                clear hS
                rintro a w168 ⟨v169, g168, hpre0, hS, h16, h27, h119, h122, hF⟩
                subst hpre0
                have H := Fl.go_nxt Hl171
                clear Hl171
                refine c_pure1 [(5, .slice A14 r12.length cap15), (6, .slice A25 r23.1.length cap26), (8, .slice A117 v169.1.length cap118), (9, .slice A120 v169.2.length cap121), (10, .int .i64 (wi (m0_2 + 1)))] (fun R hR => st_val hS rfl rfl rfl (r_move hS rfl rfl) fun a480 hS480 => st_val hS480 rfl rfl rfl (r_bin hS480 rfl rfl rfl b_add) fun a481 hS481 => st_val hS481 rfl rfl rfl (r_assign hS481 rfl rfl) fun a482 hS482 => wpList_nil (hR _ (hS482.re ⟨rfl, rfl, rfl, rfl, rfl, trivial⟩))) ?_
                clear hS
                clear a
                intro a hS
                refine ⟨k162, Nat.lt_succ_self _, ?_⟩
                exact ⟨v169.1, v169.2, wi (m0_2 + 1), g168, H, hS.re ⟨rfl, rfl, rfl, rfl, rfl, trivial⟩, h16, h27, h119, h122, hF⟩
            · replace H := ite_f hb167 H
              refine wp_exit ?_
              have e := Option.some.inj H
              exact ⟨g161, e.symm, hS.re trivial, hF⟩
      · clear H
        clear h16 h27 h119 h122 hF
        clear hS
        rintro a w156 ⟨g156, hpre0, hS, hF⟩
        subst hpre0
        have H := Fl.go_nxt Hl159
        clear Hl159
        obtain ⟨r483, hr484, H⟩ := bind_el H
        refine c_region (fun K hK => ?_)
        refine st_enter hS rfl rfl rfl (r_call hS rfl rfl (by kernel_rfl)) (law25_awake.calls (g := g156) (N + 10)   hr484) ?_
        rintro _ a485 w486 ⟨g486, rfl, F486⟩ hS485
        replace hF := hF.trans F486 (fun c' (hm : N + 10 ≤ c') => by show N ≤ c'; omega)
        refine st_val hS485 rfl rfl rfl (r_assign hS485 rfl rfl) fun a487 hS487 => wpList_nil (hK _ _ ?_)
        replace hS : Sl 126 _ [(4, .bool r483)] := hS487.re ⟨rfl, trivial⟩
        clear hK K
        try clear hS485 hS487
        obtain ⟨a, ha⟩ : ∃ a', a' = a487 := ⟨_, rfl⟩
        rw [← ha] at hS ⊢; clear ha
        refine wp_ret ?_
        have e := Option.some.inj H
        subst e
        repeat (with_reducible first | refine then_ret ?_ | refine inBlock_ret ?_)
        exact c_ret1 hS Try.results6 rfl ⟨_, rfl, g486, rfl, hF⟩

/-- What is left of law25_RailsSupplyIsOn: about plain values alone. -/
def law25_RailsSupplyIsOn.Pure : Prop := ∀ (p0 : List api_Rail) (p1 : List law25_Call), (p0.length ≤ maxLen ∧ ∀ p0' ∈ p0, Wf_api_Rail p0') → (p1.length ≤ maxLen ∧ ∀ p1' ∈ p1, Wf_law25_Call p1') → law25_RailsSupplyIsOn.f p0 p1 = some true

end Go.Proofs.Ytfiodhdldleocaa.Sim
