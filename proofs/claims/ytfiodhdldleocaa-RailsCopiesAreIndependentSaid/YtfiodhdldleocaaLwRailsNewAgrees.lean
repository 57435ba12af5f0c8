/-
  Printed by a program of this session (wip/tools): plain functions with the same answers as the Go functions, and the proofs of it.
-/
import Derived.Test.YtfiodhdldleocaaFn
import Derived.Test.YtfiodhdldleocaaOp
namespace Go.Proofs.Ytfiodhdldleocaa.Sim
open Go
set_option linter.unusedVariables false
set_option linter.unusedSimpArgs false

/-! ### law25_RailsNewAgrees: function 3 -/
def law25_RailsNewAgrees.f (p0 : List api_Rail) (p1 : Int) (p2 : Int) : Option (Bool) := if decide (20 < (p0.length : Int)) = true then ((law25_awake.f ).bind fun r6 => some r6) else ((rails_New.f p0).bind fun r12 => (ref25_New.f p0).bind fun r25 => (law25_Some.f p0).bind fun r38 => (if decide (0 < (r38.length : Int)) = true then ((help_Mod.f p1 (r38.length : Int)).bind fun r59 => (help_Mod.f p2 (wi ((r38.length : Int) + 2))).bind fun r67 => (idx r38 r59).bind fun x72 => some (upd r38 r59 ({ x72 with Supply := wi (r67 - 1) } : api_Rail))) else (some r38) : Option ((List api_Rail))).bind fun v48 => (rails_New.f v48).bind fun r79 => (ref25_New.f v48).bind fun r92 => (if ((((r12.2 == r25.2) && (r79.2 == r92.2)) && (r12.1.isNone == (r12.2 != 0))) && (r79.1.isNone == (r79.2 != 0))) = true then (law25_awake.f ).bind fun r163 => some r163 else some false).bind fun t167 => some t167)
set_option maxRecDepth 100000 in
set_option maxHeartbeats 4000000 in
theorem law25_RailsNewAgrees.calls {p0 : List api_Rail} {A0 : Option Addr} {cap0 : Nat} {C0 : Nat → Prop} {p1 : Int} {p2 : Int} {w : World} {g : Nat → Nat} {out : Bool} (N : Nat) (hp0 : RdS kd_api_Rail w g C0 A0 cap0 p0) (hC0 : ∀ c, C0 c → c < N) (H : law25_RailsNewAgrees.f p0 p1 p2 = some out) :
    Calls Try.prog 3 #[.slice A0 p0.length cap0, .int .i64 p1, .int .i64 p2] w (fun e w' => ∃ v, e = .returned v ∧ ∃ (g' : Nat → Nat), v = .bool out ∧ Fr (fun q => N ≤ q) w g w' g') := by
  unfold law25_RailsNewAgrees.f at H
  refine calls_enter Try.func3 rfl Try.ntmps3 rfl (fun a hS => ?_)
  replace hS : Sl 83 a [(0, .slice A0 p0.length cap0), (1, .int .i64 p1), (2, .int .i64 p2)] := hS
  have hF : Fr (fun q => N ≤ q) w g w g := Fr.refl _ _ _
  refine c_pure [(0, .slice A0 p0.length cap0), (1, .int .i64 p1), (2, .int .i64 p2)] (fun R hR => st_val hS rfl rfl rfl (r_assign hS rfl rfl) fun a1 hS1 => wpList_nil (hR _ (hS1.re ⟨rfl, rfl, rfl, trivial⟩))) ?_
  clear hS
  clear a
  intro a hS
  refine wp_seq ?_
  refine c_pure [(0, .slice A0 p0.length cap0), (1, .int .i64 p1), (2, .int .i64 p2), (18, .bool (decide (20 < (p0.length : Int))))] (fun R hR => st_val hS rfl rfl rfl (r_move hS rfl rfl) fun a2 hS2 => st_val hS2 rfl rfl rfl (r_len (e := 35) (sz := 3) (by_ := 24) hS2 rfl rfl (by kernel_rfl)) fun a3 hS3 => st_val hS3 rfl rfl rfl (r_bin hS3 rfl rfl rfl b_gtr) fun a4 hS4 => wpList_nil (hR _ (hS4.re ⟨rfl, rfl, rfl, rfl, trivial⟩))) ?_
  clear hS
  clear a
  intro a hS
  refine c_cond hS rfl (fun hb5 => ?_) (fun hb5 => ?_)
  · replace H := ite_t hb5 H
    obtain ⟨r6, hr7, H⟩ := bind_el H
    refine c_region (fun K hK => ?_)
    refine st_enter hS rfl rfl rfl (r_call hS rfl rfl (by kernel_rfl)) (law25_awake.calls (g := g) (N + 22)   hr7) ?_
    rintro _ a8 w9 ⟨g9, rfl, F9⟩ hS8
    replace hp0 := RdS.fr hp0 F9 (by decide) (fun q (hq : C0 q) (hm : N + 22 ≤ q) => by have := hC0 q hq; omega)
    replace hF := hF.trans F9 (fun c' (hm : N + 22 ≤ c') => by show N ≤ c'; omega)
    refine st_val hS8 rfl rfl rfl (r_assign hS8 rfl rfl) fun a10 hS10 => wpList_nil (hK _ _ ?_)
    replace hS : Sl 83 _ [(6, .bool r6)] := hS10.re ⟨rfl, trivial⟩
    clear hK K
    try clear hS8 hS10
    obtain ⟨a, ha⟩ : ∃ a', a' = a10 := ⟨_, rfl⟩
    rw [← ha] at hS ⊢; clear ha
    refine wp_ret ?_
    have e := Option.some.inj H
    subst e
    repeat (with_reducible first | refine then_ret ?_ | refine inBlock_ret ?_)
    exact c_ret1 hS Try.results3 rfl ⟨_, rfl, g9, rfl, hF⟩
  · replace H := ite_f hb5 H
    refine wp_skip ?_
    change Code.wp _ _ _ _ _
    obtain ⟨r12, hr13, H⟩ := bind_el H
    refine c_region (fun K hK => ?_)
    refine st_val hS rfl rfl rfl (r_move hS rfl rfl) fun a11 hS11 => ?_
    refine st_enter hS11 rfl rfl rfl (r_call hS11 rfl rfl (by kernel_rfl)) (rails_New.calls (C0 := C0) (p0 := p0) (g := g) (N + 22) (N + 0) hp0 (fun q (hq : C0 q) => by have := hC0 q hq; omega) (by omega) hr13) ?_
    rintro _ a17 w18 ⟨g18, p14, rfl, h15, F18⟩ hS17
    replace hp0 := RdS.fr hp0 F18 (by decide) (fun q (hq : C0 q) (hm : (N + 0 ≤ q ∧ q < N + 0 + 3) ∨ N + 22 ≤ q) => by have := hC0 q hq; omega)
    replace hF := hF.trans F18 (fun c' (hm : (N + 0 ≤ c' ∧ c' < N + 0 + 3) ∨ N + 22 ≤ c') => by show N ≤ c'; omega)
    refine st_val hS17 rfl rfl rfl (r_move hS17 rfl rfl) fun a19 hS19 => st_val hS19 rfl rfl rfl (r_extract hS19 rfl rfl rfl) fun a20 hS20 => st_val hS20 rfl rfl rfl (r_extract hS20 rfl rfl rfl) fun a21 hS21 => st_val hS21 rfl rfl rfl (r_assign hS21 rfl rfl) fun a22 hS22 => st_val hS22 rfl rfl rfl (r_assign hS22 rfl rfl) fun a23 hS23 => wpList_nil (hK _ _ ?_)
    replace hS : Sl 83 _ [(0, .slice A0 p0.length cap0), (1, .int .i64 p1), (2, .int .i64 p2), (7, .pointer p14), (8, .int .i64 r12.2)] := hS23.re ⟨rfl, rfl, rfl, rfl, rfl, trivial⟩
    clear hK K
    try clear hS11 hS17 hS19 hS20 hS21 hS22 hS23
    obtain ⟨a, ha⟩ : ∃ a', a' = a23 := ⟨_, rfl⟩
    rw [← ha] at hS ⊢; clear ha
    obtain ⟨r25, hr26, H⟩ := bind_el H
    refine c_region (fun K hK => ?_)
    refine st_val hS rfl rfl rfl (r_move hS rfl rfl) fun a24 hS24 => ?_
    refine st_enter hS24 rfl rfl rfl (r_call hS24 rfl rfl (by kernel_rfl)) (ref25_New.calls (C0 := C0) (p0 := p0) (g := g18) (N + 22) (N + 3) hp0 (fun q (hq : C0 q) => by have := hC0 q hq; omega) (by omega) hr26) ?_
    rintro _ a30 w31 ⟨g31, p27, rfl, h28, F31⟩ hS30
    replace h15 := rails_Rails_Opt.fr h15 F31 (fun q hq1 hq2 (hm : (N + 3 ≤ q ∧ q < N + 3 + 7) ∨ N + 22 ≤ q) => by omega)
    replace hp0 := RdS.fr hp0 F31 (by decide) (fun q (hq : C0 q) (hm : (N + 3 ≤ q ∧ q < N + 3 + 7) ∨ N + 22 ≤ q) => by have := hC0 q hq; omega)
    replace hF := hF.trans F31 (fun c' (hm : (N + 3 ≤ c' ∧ c' < N + 3 + 7) ∨ N + 22 ≤ c') => by show N ≤ c'; omega)
    refine st_val hS30 rfl rfl rfl (r_move hS30 rfl rfl) fun a32 hS32 => st_val hS32 rfl rfl rfl (r_extract hS32 rfl rfl rfl) fun a33 hS33 => st_val hS33 rfl rfl rfl (r_extract hS33 rfl rfl rfl) fun a34 hS34 => st_val hS34 rfl rfl rfl (r_assign hS34 rfl rfl) fun a35 hS35 => st_val hS35 rfl rfl rfl (r_assign hS35 rfl rfl) fun a36 hS36 => wpList_nil (hK _ _ ?_)
    replace hS : Sl 83 _ [(0, .slice A0 p0.length cap0), (1, .int .i64 p1), (2, .int .i64 p2), (7, .pointer p14), (8, .int .i64 r12.2), (10, .int .i64 r25.2)] := hS36.re ⟨rfl, rfl, rfl, rfl, rfl, rfl, trivial⟩
    clear hK K
    try clear hS24 hS30 hS32 hS33 hS34 hS35 hS36
    obtain ⟨a, ha⟩ : ∃ a', a' = a36 := ⟨_, rfl⟩
    rw [← ha] at hS ⊢; clear ha
    obtain ⟨r38, hr39, H⟩ := bind_el H
    refine c_region (fun K hK => ?_)
    refine st_val hS rfl rfl rfl (r_move hS rfl rfl) fun a37 hS37 => ?_
    refine st_enter hS37 rfl rfl rfl (r_call hS37 rfl rfl (by kernel_rfl)) (law25_Some.calls (C0 := C0) (p0 := p0) (g := g31) (N + 22) (N + 10) hp0 (fun q (hq : C0 q) => by have := hC0 q hq; omega) (by omega) hr39) ?_
    rintro _ a44 w45 ⟨g45, A40, cap41, rfl, h42, F45⟩ hS44
    replace h15 := rails_Rails_Opt.fr h15 F45 (fun q hq1 hq2 (hm : (N + 10 ≤ q ∧ q < N + 10 + 2) ∨ N + 22 ≤ q) => by omega)
    replace hp0 := RdS.fr hp0 F45 (by decide) (fun q (hq : C0 q) (hm : (N + 10 ≤ q ∧ q < N + 10 + 2) ∨ N + 22 ≤ q) => by have := hC0 q hq; omega)
    replace hF := hF.trans F45 (fun c' (hm : (N + 10 ≤ c' ∧ c' < N + 10 + 2) ∨ N + 22 ≤ c') => by show N ≤ c'; omega)
    refine st_val hS44 rfl rfl rfl (r_assign hS44 rfl rfl) fun a46 hS46 => wpList_nil (hK _ _ ?_)
    replace hS : Sl 83 _ [(1, .int .i64 p1), (2, .int .i64 p2), (7, .pointer p14), (8, .int .i64 r12.2), (10, .int .i64 r25.2), (11, .slice A40 r38.length cap41)] := hS46.re ⟨rfl, rfl, rfl, rfl, rfl, rfl, trivial⟩
    clear hK K
    try clear hS37 hS44 hS46
    obtain ⟨a, ha⟩ : ∃ a', a' = a46 := ⟨_, rfl⟩
    rw [← ha] at hS ⊢; clear ha
    obtain ⟨v48, H, Hl50⟩ := bind_el H
    refine c_cut (fun a w47 => ∃ (g47 : Nat → Nat), Sl 83 a [(7, .pointer p14), (8, .int .i64 r12.2), (10, .int .i64 r25.2), (11, .slice A40 v48.length cap41)] ∧ rails_Rails_Opt w47 g47 (N + 0) p14 r12.1 ∧ OwS kd_api_Rail 35 w47 g47 (N + 10) A40 cap41 v48 ∧ Fr (fun q => N ≤ q) w g w47 g47) ?_ ?_
    · refine c_pure [(1, .int .i64 p1), (2, .int .i64 p2), (7, .pointer p14), (8, .int .i64 r12.2), (10, .int .i64 r25.2), (11, .slice A40 r38.length cap41), (34, .bool (decide (0 < (r38.length : Int))))] (fun R hR => st_val hS rfl rfl rfl (r_move hS rfl rfl) fun a51 hS51 => st_val hS51 rfl rfl rfl (r_len (e := 35) (sz := 3) (by_ := 24) hS51 rfl rfl (by kernel_rfl)) fun a52 hS52 => st_val hS52 rfl rfl rfl (r_bin hS52 rfl rfl rfl b_gtr) fun a53 hS53 => wpList_nil (hR _ (hS53.re ⟨rfl, rfl, rfl, rfl, rfl, rfl, rfl, trivial⟩))) ?_
      clear hS
      clear a
      intro a hS
      refine c_cond hS rfl (fun hb54 => ?_) (fun hb54 => ?_)
      · replace H := ite_t hb54 H
        obtain ⟨r59, hr60, H⟩ := bind_el H
        obtain ⟨r67, hr68, H⟩ := bind_el H
        obtain ⟨x72, hx73, H⟩ := bind_el H
        refine c_region1 (fun K hK => ?_)
        refine st_val hS rfl rfl rfl (r_move hS rfl rfl) fun a55 hS55 => st_val hS55 rfl rfl rfl (r_move hS55 rfl rfl) fun a56 hS56 => st_val hS56 rfl rfl rfl (r_move hS56 rfl rfl) fun a57 hS57 => st_val hS57 rfl rfl rfl (r_len (e := 35) (sz := 3) (by_ := 24) hS57 rfl rfl (by kernel_rfl)) fun a58 hS58 => ?_
        refine st_enter hS58 rfl rfl rfl (r_call hS58 rfl rfl (by kernel_rfl)) (help_Mod.calls (p0 := p1) (p1 := (r38.length : Int)) (g := g45) (N + 22)   hr60) ?_
        rintro _ a61 w62 ⟨g62, rfl, F62⟩ hS61
        replace h15 := rails_Rails_Opt.fr h15 F62 (fun q hq1 hq2 (hm : N + 22 ≤ q) => by omega)
        replace h42 := OwS.fr h42 F62 (fun c' hc (hm : N + 22 ≤ c') => by omega)
        replace hF := hF.trans F62 (fun c' (hm : N + 22 ≤ c') => by show N ≤ c'; omega)
        refine st_val hS61 rfl rfl rfl (r_move hS61 rfl rfl) fun a63 hS63 => st_val hS63 rfl rfl rfl (r_move hS63 rfl rfl) fun a64 hS64 => st_val hS64 rfl rfl rfl (r_len (e := 35) (sz := 3) (by_ := 24) hS64 rfl rfl (by kernel_rfl)) fun a65 hS65 => st_val hS65 rfl rfl rfl (r_bin hS65 rfl rfl rfl b_add) fun a66 hS66 => ?_
        refine st_enter hS66 rfl rfl rfl (r_call hS66 rfl rfl (by kernel_rfl)) (help_Mod.calls (p0 := p2) (p1 := (wi ((r38.length : Int) + 2))) (g := g62) (N + 22)   hr68) ?_
        rintro _ a69 w70 ⟨g70, rfl, F70⟩ hS69
        replace h15 := rails_Rails_Opt.fr h15 F70 (fun q hq1 hq2 (hm : N + 22 ≤ q) => by omega)
        replace h42 := OwS.fr h42 F70 (fun c' hc (hm : N + 22 ≤ c') => by omega)
        replace hF := hF.trans F70 (fun c' (hm : N + 22 ≤ c') => by show N ≤ c'; omega)
        refine st_val hS69 rfl rfl rfl (r_bin hS69 rfl rfl rfl b_sub) fun a71 hS71 => st_val hS71 rfl rfl rfl (r_index (e := 35) (sz := 3) (by_ := 24) hS71 rfl rfl rfl (by kernel_rfl) (RdS.some_ (OwS.rd h42) hx73) (idx_lo hx73) (idx_hi hx73)) fun a74 hS74 => st_val hS74 rfl rfl rfl (r_fieldE (off := 0) hS74 rfl rfl (by kernel_rfl)) fun a75 hS75 => ?_
        refine st_effS hS75 rfl rfl (e_storeE (n := 1) (bb := false) (kd := kd_api_Rail) (j := 0) (x' := ({ x72 with Supply := wi (r67 - 1) } : api_Rail)) (us := [.int .i64 (wi (r67 - 1))]) g70 hS75 rfl rfl rfl rfl (by kernel_rfl) rfl rfl (by intro v hv; simp only [List.mem_cons, List.not_mem_nil, or_false] at hv; rcases hv with rfl <;> rfl) h42 hx73 rfl (fun _ _ cs hR => by rw [show cs = _ from hR]; rfl)) ?_
        rintro a76 w77 g77 ⟨h42, F77⟩ hS76
        replace h15 := rails_Rails_Opt.fr h15 F77 (fun q hq1 hq2 (hm : q = N + 10) => by omega)
        replace hF := hF.trans F77 (fun c' (hm : c' = N + 10) => by show N ≤ c'; omega)
        have hT : Sl 83 a76 [(7, .pointer p14), (8, .int .i64 r12.2), (10, .int .i64 r25.2), (11, .slice A40 r38.length cap41)] := hS76.re ⟨rfl, rfl, rfl, rfl, trivial⟩
        replace hS76 : Sl 83 a76 [(7, .pointer p14), (8, .int .i64 r12.2), (10, .int .i64 r25.2), (11, .slice A40 (upd r38 r59 ({ x72 with Supply := wi (r67 - 1) } : api_Rail)).length cap41)] := by simpa only [upd_length] using hT
        clear hT
        refine wpList_nil (hK _ _ ?_)
        replace hS : Sl 83 _ [(7, .pointer p14), (8, .int .i64 r12.2), (10, .int .i64 r25.2), (11, .slice A40 (upd r38 r59 ({ x72 with Supply := wi (r67 - 1) } : api_Rail)).length cap41)] := hS76.re ⟨rfl, rfl, rfl, rfl, trivial⟩
        clear hK K
        try clear hS55 hS56 hS57 hS58 hS61 hS63 hS64 hS65 hS66 hS69 hS71 hS74 hS75 hS76
        obtain ⟨a, ha⟩ : ∃ a', a' = a76 := ⟨_, rfl⟩
        rw [← ha] at hS ⊢; clear ha
        have e := Option.some.inj H
        subst e
        exact ⟨g77, hS.re ⟨rfl, rfl, rfl, rfl, trivial⟩, h15, h42, hF⟩
      · replace H := ite_f hb54 H
        refine wp_skip ?_
        have e := Option.some.inj H
        subst e
        exact ⟨g45, hS.re ⟨rfl, rfl, rfl, rfl, trivial⟩, h15, h42, hF⟩
    · clear H
      clear h15 h42 hF
      clear hS
      rintro a w47 ⟨g47, hS, h15, h42, hF⟩
      have H := Hl50
      clear Hl50
      obtain ⟨r79, hr80, H⟩ := bind_el H
      refine c_region (fun K hK => ?_)
      refine st_val hS rfl rfl rfl (r_move hS rfl rfl) fun a78 hS78 => ?_
      refine st_enter hS78 rfl rfl rfl (r_call hS78 rfl rfl (by kernel_rfl)) (rails_New.calls (C0 := (fun q => q = N + 10)) (p0 := v48) (g := g47) (N + 22) (N + 12) (OwD.rdf (fun _ _ _ _ _ _ h => h) h42) (fun q (hq : q = N + 10) => by omega) (by omega) hr80) ?_
      rintro _ a84 w85 ⟨g85, p81, rfl, h82, F85⟩ hS84
      replace h15 := rails_Rails_Opt.fr h15 F85 (fun q hq1 hq2 (hm : (N + 12 ≤ q ∧ q < N + 12 + 3) ∨ N + 22 ≤ q) => by omega)
      replace h42 := OwS.fr h42 F85 (fun c' hc (hm : (N + 12 ≤ c' ∧ c' < N + 12 + 3) ∨ N + 22 ≤ c') => by omega)
      replace hF := hF.trans F85 (fun c' (hm : (N + 12 ≤ c' ∧ c' < N + 12 + 3) ∨ N + 22 ≤ c') => by show N ≤ c'; omega)
      refine st_val hS84 rfl rfl rfl (r_move hS84 rfl rfl) fun a86 hS86 => st_val hS86 rfl rfl rfl (r_extract hS86 rfl rfl rfl) fun a87 hS87 => st_val hS87 rfl rfl rfl (r_extract hS87 rfl rfl rfl) fun a88 hS88 => st_val hS88 rfl rfl rfl (r_assign hS88 rfl rfl) fun a89 hS89 => st_val hS89 rfl rfl rfl (r_assign hS89 rfl rfl) fun a90 hS90 => wpList_nil (hK _ _ ?_)
      replace hS : Sl 83 _ [(7, .pointer p14), (8, .int .i64 r12.2), (10, .int .i64 r25.2), (11, .slice A40 v48.length cap41), (12, .pointer p81), (13, .int .i64 r79.2)] := hS90.re ⟨rfl, rfl, rfl, rfl, rfl, rfl, trivial⟩
      clear hK K
      try clear hS78 hS84 hS86 hS87 hS88 hS89 hS90
      obtain ⟨a, ha⟩ : ∃ a', a' = a90 := ⟨_, rfl⟩
      rw [← ha] at hS ⊢; clear ha
      obtain ⟨r92, hr93, H⟩ := bind_el H
      refine c_region (fun K hK => ?_)
      refine st_val hS rfl rfl rfl (r_move hS rfl rfl) fun a91 hS91 => ?_
      refine st_enter hS91 rfl rfl rfl (r_call hS91 rfl rfl (by kernel_rfl)) (ref25_New.calls (C0 := (fun q => q = N + 10)) (p0 := v48) (g := g85) (N + 22) (N + 15) (OwD.rdf (fun _ _ _ _ _ _ h => h) h42) (fun q (hq : q = N + 10) => by omega) (by omega) hr93) ?_
      rintro _ a97 w98 ⟨g98, p94, rfl, h95, F98⟩ hS97
      replace h15 := rails_Rails_Opt.fr h15 F98 (fun q hq1 hq2 (hm : (N + 15 ≤ q ∧ q < N + 15 + 7) ∨ N + 22 ≤ q) => by omega)
      replace h42 := OwS.fr h42 F98 (fun c' hc (hm : (N + 15 ≤ c' ∧ c' < N + 15 + 7) ∨ N + 22 ≤ c') => by omega)
      replace h82 := rails_Rails_Opt.fr h82 F98 (fun q hq1 hq2 (hm : (N + 15 ≤ q ∧ q < N + 15 + 7) ∨ N + 22 ≤ q) => by omega)
      replace hF := hF.trans F98 (fun c' (hm : (N + 15 ≤ c' ∧ c' < N + 15 + 7) ∨ N + 22 ≤ c') => by show N ≤ c'; omega)
      refine st_val hS97 rfl rfl rfl (r_move hS97 rfl rfl) fun a99 hS99 => st_val hS99 rfl rfl rfl (r_extract hS99 rfl rfl rfl) fun a100 hS100 => st_val hS100 rfl rfl rfl (r_extract hS100 rfl rfl rfl) fun a101 hS101 => st_val hS101 rfl rfl rfl (r_assign hS101 rfl rfl) fun a102 hS102 => st_val hS102 rfl rfl rfl (r_assign hS102 rfl rfl) fun a103 hS103 => wpList_nil (hK _ _ ?_)
      replace hS : Sl 83 _ [(7, .pointer p14), (8, .int .i64 r12.2), (10, .int .i64 r25.2), (12, .pointer p81), (13, .int .i64 r79.2), (15, .int .i64 r92.2)] := hS103.re ⟨rfl, rfl, rfl, rfl, rfl, rfl, trivial⟩
      clear hK K
      try clear hS91 hS97 hS99 hS100 hS101 hS102 hS103
      obtain ⟨a, ha⟩ : ∃ a', a' = a103 := ⟨_, rfl⟩
      rw [← ha] at hS ⊢; clear ha
      obtain ⟨t167, ht168, H⟩ := bind_el H
      refine c_region (fun K hK => ?_)
      refine st_val hS rfl rfl rfl (r_move hS rfl rfl) fun a104 hS104 => st_val hS104 rfl rfl rfl (r_move hS104 rfl rfl) fun a105 hS105 => st_val hS105 rfl rfl rfl (r_bin hS105 rfl rfl rfl b_eql) fun a106 hS106 => st_val hS106 rfl rfl rfl (r_move hS106 rfl rfl) fun a107 hS107 => ?_
      refine g_join (N := 83) 4 [(7, .pointer p14), (8, .int .i64 r12.2), (12, .pointer p81), (13, .int .i64 r79.2), (65, .bool ((r12.2 == r25.2) && (r79.2 == r92.2)))] ?_ (fun hk => ?_)
      rotate_left
      · rcases Bool.eq_false_or_eq_true ((r12.2 == r25.2)) with hb108 | hb108
        · refine st_valW hS107 (want_on hS107 rfl rfl rfl hb108) rfl rfl (r_move hS107 rfl rfl) fun a112 hS112 => st_valW hS112 (want_on hS112 rfl rfl rfl hb108) rfl rfl (r_move hS112 rfl rfl) fun a113 hS113 => st_valW hS113 (want_on hS113 rfl rfl rfl hb108) rfl rfl (r_bin hS113 rfl rfl rfl b_eql) fun a114 hS114 => st_val hS114 rfl rfl rfl (r_pickT hS114 rfl rfl rfl hb108) fun a115 hS115 => hk _ (hS115.re ⟨rfl, rfl, rfl, rfl, (by rw [hb108]; rfl), trivial⟩)
        · refine st_off hS107 (want_off hS107 rfl rfl rfl hb108) rfl rfl fun a116 hS116 => st_off hS116 (want_off hS116 rfl rfl rfl hb108) rfl rfl fun a117 hS117 => st_off hS117 (want_off hS117 rfl rfl rfl hb108) rfl rfl fun a118 hS118 => st_val hS118 rfl rfl rfl (r_pickF hS118 rfl rfl rfl hb108) fun a119 hS119 => hk _ (hS119.re ⟨rfl, rfl, rfl, rfl, (by rw [hb108]; rfl), trivial⟩)
      intro a120 hS120
      refine st_val hS120 rfl rfl rfl (r_move hS120 rfl rfl) fun a121 hS121 => ?_
      refine g_join (N := 83) 6 [(12, .pointer p81), (13, .int .i64 r79.2), (72, .bool (((r12.2 == r25.2) && (r79.2 == r92.2)) && (r12.1.isNone == (r12.2 != 0))))] ?_ (fun hk => ?_)
      rotate_left
      · rcases Bool.eq_false_or_eq_true (((r12.2 == r25.2) && (r79.2 == r92.2))) with hb122 | hb122
        · refine st_valW hS121 (want_on hS121 rfl rfl rfl hb122) rfl rfl (r_move hS121 rfl rfl) fun a128 hS128 => st_valW hS128 (want_on hS128 rfl rfl rfl hb122) rfl rfl (r_optEq hS128 rfl rfl (by kernel_rfl) (rails_Rails_Opt.isNone h15)) fun a129 hS129 => st_valW hS129 (want_on hS129 rfl rfl rfl hb122) rfl rfl (r_move hS129 rfl rfl) fun a130 hS130 => st_valW hS130 (want_on hS130 rfl rfl rfl hb122) rfl rfl (r_bin hS130 rfl rfl rfl b_neq) fun a131 hS131 => st_valW hS131 (want_on hS131 rfl rfl rfl hb122) rfl rfl (r_binB hS131 rfl rfl rfl (b_eqlB (by kernel_rfl))) fun a132 hS132 => st_val hS132 rfl rfl rfl (r_pickT hS132 rfl rfl rfl hb122) fun a133 hS133 => hk _ (hS133.re ⟨rfl, rfl, (by rw [hb122]; rfl), trivial⟩)
        · refine st_off hS121 (want_off hS121 rfl rfl rfl hb122) rfl rfl fun a134 hS134 => st_off hS134 (want_off hS134 rfl rfl rfl hb122) rfl rfl fun a135 hS135 => st_off hS135 (want_off hS135 rfl rfl rfl hb122) rfl rfl fun a136 hS136 => st_off hS136 (want_off hS136 rfl rfl rfl hb122) rfl rfl fun a137 hS137 => st_off hS137 (want_off hS137 rfl rfl rfl hb122) rfl rfl fun a138 hS138 => st_val hS138 rfl rfl rfl (r_pickF hS138 rfl rfl rfl hb122) fun a139 hS139 => hk _ (hS139.re ⟨rfl, rfl, (by rw [hb122]; rfl), trivial⟩)
      intro a140 hS140
      refine st_val hS140 rfl rfl rfl (r_move hS140 rfl rfl) fun a141 hS141 => ?_
      refine g_join (N := 83) 6 [(79, .bool ((((r12.2 == r25.2) && (r79.2 == r92.2)) && (r12.1.isNone == (r12.2 != 0))) && (r79.1.isNone == (r79.2 != 0))))] ?_ (fun hk => ?_)
      rotate_left
      · rcases Bool.eq_false_or_eq_true ((((r12.2 == r25.2) && (r79.2 == r92.2)) && (r12.1.isNone == (r12.2 != 0)))) with hb142 | hb142
        · refine st_valW hS141 (want_on hS141 rfl rfl rfl hb142) rfl rfl (r_move hS141 rfl rfl) fun a148 hS148 => st_valW hS148 (want_on hS148 rfl rfl rfl hb142) rfl rfl (r_optEq hS148 rfl rfl (by kernel_rfl) (rails_Rails_Opt.isNone h82)) fun a149 hS149 => st_valW hS149 (want_on hS149 rfl rfl rfl hb142) rfl rfl (r_move hS149 rfl rfl) fun a150 hS150 => st_valW hS150 (want_on hS150 rfl rfl rfl hb142) rfl rfl (r_bin hS150 rfl rfl rfl b_neq) fun a151 hS151 => st_valW hS151 (want_on hS151 rfl rfl rfl hb142) rfl rfl (r_binB hS151 rfl rfl rfl (b_eqlB (by kernel_rfl))) fun a152 hS152 => st_val hS152 rfl rfl rfl (r_pickT hS152 rfl rfl rfl hb142) fun a153 hS153 => hk _ (hS153.re ⟨(by rw [hb142]; rfl), trivial⟩)
        · refine st_off hS141 (want_off hS141 rfl rfl rfl hb142) rfl rfl fun a154 hS154 => st_off hS154 (want_off hS154 rfl rfl rfl hb142) rfl rfl fun a155 hS155 => st_off hS155 (want_off hS155 rfl rfl rfl hb142) rfl rfl fun a156 hS156 => st_off hS156 (want_off hS156 rfl rfl rfl hb142) rfl rfl fun a157 hS157 => st_off hS157 (want_off hS157 rfl rfl rfl hb142) rfl rfl fun a158 hS158 => st_val hS158 rfl rfl rfl (r_pickF hS158 rfl rfl rfl hb142) fun a159 hS159 => hk _ (hS159.re ⟨(by rw [hb142]; rfl), trivial⟩)
      intro a160 hS160
      refine st_val hS160 rfl rfl rfl (r_move hS160 rfl rfl) fun a161 hS161 => ?_
      refine g_joinR 2 (fun a w169 => ∃ (g169 : Nat → Nat), Sl 83 a [(82, .bool t167)] ∧ Fr (fun q => N ≤ q) w g w169 g169) ?_ (fun hk => ?_)
      rotate_left
      · rcases Bool.eq_false_or_eq_true (((((r12.2 == r25.2) && (r79.2 == r92.2)) && (r12.1.isNone == (r12.2 != 0))) && (r79.1.isNone == (r79.2 != 0)))) with hb162 | hb162
        · have H := ite_t hb162 ht168
          obtain ⟨r170, hr171, H⟩ := bind_el H
          have e174 := Option.some.inj H
          refine st_enterW hS161 (want_on hS161 rfl rfl rfl hb162) rfl rfl (r_call hS161 rfl rfl (by kernel_rfl)) (law25_awake.calls (g := g98) (N + 22)   hr171) ?_
          rintro _ a172 w173 ⟨g173, rfl, F173⟩ hS172
          replace h15 := rails_Rails_Opt.fr h15 F173 (fun q hq1 hq2 (hm : N + 22 ≤ q) => by omega)
          replace h82 := rails_Rails_Opt.fr h82 F173 (fun q hq1 hq2 (hm : N + 22 ≤ q) => by omega)
          replace hF := hF.trans F173 (fun c' (hm : N + 22 ≤ c') => by show N ≤ c'; omega)
          refine st_val hS172 rfl rfl rfl (r_pickT hS172 rfl rfl rfl hb162) fun a175 hS175 => hk _ _ ?_
          exact ⟨g173, hS175.re ⟨(by rw [← e174]; rfl), trivial⟩, hF⟩
        · have H := ite_f hb162 ht168
          have e176 := Option.some.inj H
          refine st_off hS161 (want_off hS161 rfl rfl rfl hb162) rfl rfl fun a177 hS177 => st_val hS177 rfl rfl rfl (r_pickF hS177 rfl rfl rfl hb162) fun a178 hS178 => hk _ _ ?_
          exact ⟨g98, hS178.re ⟨(by rw [← e176]; rfl), trivial⟩, hF⟩
      rintro a179 w169 ⟨g169, hS179, hF⟩
      refine st_val hS179 rfl rfl rfl (r_assign hS179 rfl rfl) fun a180 hS180 => wpList_nil (hK _ _ ?_)
      replace hS : Sl 83 _ [(6, .bool t167)] := hS180.re ⟨rfl, trivial⟩
      clear hK K
      try clear hS104 hS105 hS106 hS107 hS120 hS121 hS140 hS141 hS160 hS161 hS179 hS180
      obtain ⟨a, ha⟩ : ∃ a', a' = a180 := ⟨_, rfl⟩
      rw [← ha] at hS ⊢; clear ha
      refine wp_ret ?_
      have e := Option.some.inj H
      subst e
      repeat (with_reducible first | refine then_ret ?_ | refine inBlock_ret ?_)
      exact c_ret1 hS Try.results3 rfl ⟨_, rfl, g169, rfl, hF⟩

/-- What is left of law25_RailsNewAgrees: about plain values alone. -/
def law25_RailsNewAgrees.Pure : Prop := ∀ (p0 : List api_Rail) (p1 : Int) (p2 : Int), (p0.length ≤ maxLen ∧ ∀ p0' ∈ p0, Wf_api_Rail p0') → (Lit.int .i64 p1).wf = true → (Lit.int .i64 p2).wf = true → law25_RailsNewAgrees.f p0 p1 p2 = some true

end Go.Proofs.Ytfiodhdldleocaa.Sim
