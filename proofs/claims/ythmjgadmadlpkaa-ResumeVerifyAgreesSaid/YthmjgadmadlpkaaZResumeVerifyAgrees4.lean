/-
  Texts of this session, part 4 of 6: the words of the walk, plain functions with the same answers as the Go functions and the proofs of it, plain lemmas. No condition.
  They are, one behind the other: QLaw31Durations QRef24Invalid QRef24Basic QRef24Matrix QRef24Check QRef31Input QRef31PlanFree QRef31PlanEnded QRef31PlanReady QRef31Schedule.
-/
import Derived.Test.YthmjgadmadlpkaaProg
import Derived.Test.YthmjgadmadlpkaaZResumeVerifyAgrees3

namespace Go.Proofs.Ythmjgadmadlpkaa.Sim
open Go
set_option linter.unusedVariables false
set_option linter.unusedSimpArgs false

/-! ### law31_durations: function 17 -/
def law31_durations.l0 (p0 : Int) (p1 : List Int) : Nat → (List Int) → Int → Option ((List Int))
 | 0, _, _ => none
 | k18 + 1, m0_0, m0_1 => if decide (m0_1 < p0) = true then (((idx m0_0 m0_1).bind fun x32 => if decide (m0_1 < (p1.length : Int)) = true then ((idx p1 m0_1).bind fun x46 => (idx (upd m0_0 m0_1 (wu ((Int.tmod m0_1 3)))) m0_1).bind fun x51 => some (upd (upd m0_0 m0_1 (wu ((Int.tmod m0_1 3)))) m0_1 (Int.tmod x46 12))) else (some (upd m0_0 m0_1 (wu ((Int.tmod m0_1 3))))) : Option ((List Int))).bind fun v24 => law31_durations.l0 p0 p1 k18 v24 (wi (m0_1 + 1))) else (some m0_0)
def law31_durations.f (p0 : Int) (p1 : List Int) : Option ((List Int)) := (mk p0 0).bind fun y3 => (law31_durations.l0 p0 p1 FUEL y3 0 : Option ((List Int))).bind fun v13 => some v13
set_option maxRecDepth 100000 in
set_option maxHeartbeats 4000000 in
theorem law31_durations.calls {p0 : Int} {p1 : List Int} {A1 : Option Addr} {cap1 : Nat} {C1 : Nat → Prop} {w : World} {g : Nat → Nat} {out : (List Int)} (N : Nat) (r0 : Nat) (hp1 : RdS (kint .u64) w g C1 A1 cap1 p1) (hC1 : ∀ c, C1 c → c < N) (hr0 : r0 + 2 ≤ N) (H : law31_durations.f p0 p1 = some out) :
  Calls Try.prog 17 #[.int .i64 p0, .slice A1 p1.length cap1] w (fun e w' => ∃ v, e = .returned v ∧ ∃ (g' : Nat → Nat) (A_r0 : Option Addr) (cap_r0 : Nat), v = .slice A_r0 out.length cap_r0 ∧ OwS (kint .u64) 33 w' g' r0 A_r0 cap_r0 out ∧ Fr (fun q => (r0 ≤ q ∧ q < r0 + 2) ∨ N ≤ q) w g w' g') := by
 unfold law31_durations.f at H
 refine calls_enter Try.func17 rfl Try.ntmps17 rfl (fun a hS => ?_)
 replace hS : Sl 33 a [(0, .int .i64 p0), (1, .slice A1 p1.length cap1)] := hS
 have hF : Fr (fun q => (r0 ≤ q ∧ q < r0 + 2) ∨ N ≤ q) w g w g := Fr.refl _ _ _
 refine c_pure [(0, .int .i64 p0), (1, .slice A1 p1.length cap1)] (fun R hR => st_val hS rfl rfl rfl (r_assign hS rfl rfl) fun a1 hS1 => wpList_nil (hR _ (hS1.re ⟨rfl, rfl, trivial⟩))) ?_
 clear hS
 clear a
 intro a hS
 obtain ⟨y3, hy4, H⟩ := bind_el H
 refine c_region (fun K hK => ?_)
 refine st_val hS rfl rfl rfl (r_move hS rfl rfl) fun a2 hS2 => ?_
 refine st_eff hS2 rfl rfl rfl (e_make (e := 33) (sz := 1) (by_ := 8) (z := [.int .u64 0]) (kd := (kint .u64)) (N + 0) g hS2 rfl rfl (by kernel_rfl) (by kernel_rfl) rfl rfl rfl (fun _ _ _ => by exact rfl) hy4) ?_
 rintro _ a9 w10 g10 ⟨⟨A5, cap6, rfl, h7⟩, F10⟩ hS9
 replace hp1 := RdS.fr hp1 F10 (by decide) (fun _ _ h => h)
 replace hF := hF.trans F10 (fun _ h => h.elim)
 refine st_val hS9 rfl rfl rfl (r_assign hS9 rfl rfl) fun a11 hS11 => wpList_nil (hK _ _ ?_)
 replace hS : Sl 33 _ [(0, .int .i64 p0), (1, .slice A1 p1.length cap1), (5, .slice A5 y3.length cap6)] := hS11.re ⟨rfl, rfl, rfl, trivial⟩
 clear hK K
 try clear hS2 hS9 hS11
 obtain ⟨a, ha⟩ : ∃ a', a' = a11 := ⟨_, rfl⟩
 rw [← ha] at hS ⊢; clear ha
 obtain ⟨v13, H, Hl15⟩ := bind_el H
 refine c_cut (fun a w12 => ∃ (g12 : Nat → Nat), Sl 33 a [(5, .slice A5 v13.length cap6)] ∧ OwS (kint .u64) 33 w12 g12 (N + 0) A5 cap6 v13 ∧ Fr (fun q => (r0 ≤ q ∧ q < r0 + 2) ∨ N ≤ q) w g w12 g12) ?_ ?_
 ·refine c_pure [(0, .int .i64 p0), (1, .slice A1 p1.length cap1), (5, .slice A5 y3.length cap6), (6, .int .i64 0)] (fun R hR => st_val hS rfl rfl rfl (r_assign hS rfl rfl) fun a16 hS16 => wpList_nil (hR _ (hS16.re ⟨rfl, rfl, rfl, rfl, trivial⟩))) ?_
  clear hS
  clear a
  intro a hS
  refine wp_block ?_
  refine wp_loop_ghost (fun kq => fun a w17 => ∃ (m0_0 : List Int), ∃ (m0_1 : Int), ∃ (g17 : Nat → Nat), law31_durations.l0 p0 p1 kq m0_0 m0_1 = some v13 ∧ Sl 33 a [(0, .int .i64 p0), (1, .slice A1 p1.length cap1), (5, .slice A5 m0_0.length cap6), (6, .int .i64 m0_1)] ∧ OwS (kint .u64) 33 w17 g17 (N + 0) A5 cap6 m0_0 ∧ RdS (kint .u64) w17 g17 C1 A1 cap1 p1 ∧ Fr (fun q => (r0 ≤ q ∧ q < r0 + 2) ∨ N ≤ q) w g w17 g17) FUEL ?_ ?_
  ·exact ⟨y3, 0, g10, H, hS.re ⟨rfl, rfl, rfl, rfl, trivial⟩, h7, hp1, hF⟩
  ·clear H
   clear hp1 h7 hF
   clear hS
   rintro k18 a w17 ⟨m0_0, m0_1, g17, hpre0, hS, h7, hp1, hF⟩
   have H := hpre0
   clear hpre0
   cases k18 with
   | zero => exact absurd H (by simp [law31_durations.l0])
   | succ k18 =>
    rw [law31_durations.l0] at H
    refine wp_seq ?_
    refine c_pure [(0, .int .i64 p0), (1, .slice A1 p1.length cap1), (5, .slice A5 m0_0.length cap6), (6, .int .i64 m0_1), (11, .bool (decide (m0_1 < p0)))] (fun R hR => st_val hS rfl rfl rfl (r_move hS rfl rfl) fun a19 hS19 => st_val hS19 rfl rfl rfl (r_move hS19 rfl rfl) fun a20 hS20 => st_val hS20 rfl rfl rfl (r_bin hS20 rfl rfl rfl b_lss) fun a21 hS21 => wpList_nil (hR _ (hS21.re ⟨rfl, rfl, rfl, rfl, rfl, trivial⟩))) ?_
    clear hS
    clear a
    intro a hS
    refine c_cond hS rfl (fun hb22 => ?_) (fun hb22 => ?_)
    ·replace H := ite_t hb22 H
     refine wp_skip ?_
     change Code.wp _ _ _ _ _
     obtain ⟨v24, H, Hl26⟩ := bind_el H
     refine c_cut (fun a w23 => ∃ (g23 : Nat → Nat), Sl 33 a [(0, .int .i64 p0), (1, .slice A1 p1.length cap1), (5, .slice A5 v24.length cap6), (6, .int .i64 m0_1)] ∧ OwS (kint .u64) 33 w23 g23 (N + 0) A5 cap6 v24 ∧ RdS (kint .u64) w23 g23 C1 A1 cap1 p1 ∧ Fr (fun q => (r0 ≤ q ∧ q < r0 + 2) ∨ N ≤ q) w g w23 g23) ?_ ?_
     ·refine wp_block ?_
      obtain ⟨x32, hx33, H⟩ := bind_el H
      refine c_region (fun K hK => ?_)
      refine st_val hS rfl rfl rfl (r_move hS rfl rfl) fun a27 hS27 => st_val hS27 rfl rfl rfl (r_move hS27 rfl rfl) fun a28 hS28 => st_val hS28 rfl rfl rfl (r_move hS28 rfl rfl) fun a29 hS29 => st_val hS29 rfl rfl rfl (r_bin hS29 rfl rfl rfl (b_rem (by decide))) fun a30 hS30 => st_val hS30 rfl rfl rfl (r_convert (k' := .u64) hS30 rfl rfl (by kernel_rfl)) fun a31 hS31 => st_val hS31 rfl rfl rfl (r_index (e := 33) (sz := 1) (by_ := 8) hS31 rfl rfl rfl (by kernel_rfl) (RdS.some_ (OwS.rd h7) hx33) (idx_lo hx33) (idx_hi hx33)) fun a34 hS34 => ?_
      refine st_effS hS34 rfl rfl (e_storeE (n := 1) (bb := false) (kd := (kint .u64)) (j := 0) (x' := wu ((Int.tmod m0_1 3))) (us := [.int .u64 (wu ((Int.tmod m0_1 3)))]) g17 hS34 rfl rfl rfl rfl (by kernel_rfl) rfl rfl (by intro v hv; simp only [List.mem_cons, List.not_mem_nil, or_false] at hv; rcases hv with rfl <;> rfl) h7 hx33 rfl (fun _ _ cs hR => by rw [show cs = _ from hR]; rfl)) ?_
      rintro a35 w36 g36 ⟨h7, F36⟩ hS35
      replace hp1 := RdS.fr hp1 F36 (by decide) (fun q (hq : C1 q) (hm : q = N + 0) => by have := hC1 q hq; omega)
      replace hF := hF.trans F36 (fun c' (hm : c' = N + 0) => by show (r0 ≤ c' ∧ c' < r0 + 2) ∨ N ≤ c'; omega)
      have hT : Sl 33 a35 [(0, .int .i64 p0), (1, .slice A1 p1.length cap1), (5, .slice A5 m0_0.length cap6), (6, .int .i64 m0_1)] := hS35.re ⟨rfl, rfl, rfl, rfl, trivial⟩
      replace hS35 : Sl 33 a35 [(0, .int .i64 p0), (1, .slice A1 p1.length cap1), (5, .slice A5 (upd m0_0 m0_1 (wu ((Int.tmod m0_1 3)))).length cap6), (6, .int .i64 m0_1)] := by simpa only [upd_length] using hT
      clear hT
      refine wpList_nil (hK _ _ ?_)
      replace hS : Sl 33 _ [(0, .int .i64 p0), (1, .slice A1 p1.length cap1), (5, .slice A5 (upd m0_0 m0_1 (wu ((Int.tmod m0_1 3)))).length cap6), (6, .int .i64 m0_1)] := hS35.re ⟨rfl, rfl, rfl, rfl, trivial⟩
      clear hK K
      try clear hS27 hS28 hS29 hS30 hS31 hS34 hS35
      obtain ⟨a, ha⟩ : ∃ a', a' = a35 := ⟨_, rfl⟩
      rw [← ha] at hS ⊢; clear ha
      refine c_pure [(0, .int .i64 p0), (1, .slice A1 p1.length cap1), (5, .slice A5 (upd m0_0 m0_1 (wu ((Int.tmod m0_1 3)))).length cap6), (6, .int .i64 m0_1), (23, .bool (decide (m0_1 < (p1.length : Int))))] (fun R hR => st_val hS rfl rfl rfl (r_move hS rfl rfl) fun a37 hS37 => st_val hS37 rfl rfl rfl (r_move hS37 rfl rfl) fun a38 hS38 => st_val hS38 rfl rfl rfl (r_len (e := 33) (sz := 1) (by_ := 8) hS38 rfl rfl (by kernel_rfl)) fun a39 hS39 => st_val hS39 rfl rfl rfl (r_bin hS39 rfl rfl rfl b_lss) fun a40 hS40 => wpList_nil (hR _ (hS40.re ⟨rfl, rfl, rfl, rfl, rfl, trivial⟩))) ?_
      clear hS
      clear a
      intro a hS
      refine c_cond hS rfl (fun hb41 => ?_) (fun hb41 => ?_)
      ·replace H := ite_t hb41 H
       obtain ⟨x46, hx47, H⟩ := bind_el H
       obtain ⟨x51, hx52, H⟩ := bind_el H
       refine c_region1 (fun K hK => ?_)
       refine st_val hS rfl rfl rfl (r_move hS rfl rfl) fun a42 hS42 => st_val hS42 rfl rfl rfl (r_move hS42 rfl rfl) fun a43 hS43 => st_val hS43 rfl rfl rfl (r_move hS43 rfl rfl) fun a44 hS44 => st_val hS44 rfl rfl rfl (r_move hS44 rfl rfl) fun a45 hS45 => st_val hS45 rfl rfl rfl (r_index (e := 33) (sz := 1) (by_ := 8) hS45 rfl rfl rfl (by kernel_rfl) (RdS.some_ hp1 hx47) (idx_lo hx47) (idx_hi hx47)) fun a48 hS48 => st_val hS48 rfl rfl rfl (r_load1 (n := 1) hS48 rfl rfl (by kernel_rfl) (RdS.cell (i := m0_1) (sz := 1) (j := 0) hp1 hx47 rfl)) fun a49 hS49 => st_val hS49 rfl rfl rfl (r_bin hS49 rfl rfl rfl (b_rem (by decide))) fun a50 hS50 => st_val hS50 rfl rfl rfl (r_index (e := 33) (sz := 1) (by_ := 8) hS50 rfl rfl rfl (by kernel_rfl) (RdS.some_ (OwS.rd h7) hx52) (idx_lo hx52) (idx_hi hx52)) fun a53 hS53 => ?_
       refine st_effS hS53 rfl rfl (e_storeE (n := 1) (bb := false) (kd := (kint .u64)) (j := 0) (x' := (Int.tmod x46 12)) (us := [.int .u64 (Int.tmod x46 12)]) g36 hS53 rfl rfl rfl rfl (by kernel_rfl) rfl rfl (by intro v hv; simp only [List.mem_cons, List.not_mem_nil, or_false] at hv; rcases hv with rfl <;> rfl) h7 hx52 rfl (fun _ _ cs hR => by rw [show cs = _ from hR]; rfl)) ?_
       rintro a54 w55 g55 ⟨h7, F55⟩ hS54
       replace hp1 := RdS.fr hp1 F55 (by decide) (fun q (hq : C1 q) (hm : q = N + 0) => by have := hC1 q hq; omega)
       replace hF := hF.trans F55 (fun c' (hm : c' = N + 0) => by show (r0 ≤ c' ∧ c' < r0 + 2) ∨ N ≤ c'; omega)
       have hT : Sl 33 a54 [(0, .int .i64 p0), (1, .slice A1 p1.length cap1), (5, .slice A5 (upd m0_0 m0_1 (wu ((Int.tmod m0_1 3)))).length cap6), (6, .int .i64 m0_1)] := hS54.re ⟨rfl, rfl, rfl, rfl, trivial⟩
       replace hS54 : Sl 33 a54 [(0, .int .i64 p0), (1, .slice A1 p1.length cap1), (5, .slice A5 (upd (upd m0_0 m0_1 (wu ((Int.tmod m0_1 3)))) m0_1 (Int.tmod x46 12)).length cap6), (6, .int .i64 m0_1)] := by simpa only [upd_length] using hT
       clear hT
       refine wpList_nil (hK _ _ ?_)
       replace hS : Sl 33 _ [(0, .int .i64 p0), (1, .slice A1 p1.length cap1), (5, .slice A5 (upd (upd m0_0 m0_1 (wu ((Int.tmod m0_1 3)))) m0_1 (Int.tmod x46 12)).length cap6), (6, .int .i64 m0_1)] := hS54.re ⟨rfl, rfl, rfl, rfl, trivial⟩
       clear hK K
       try clear hS42 hS43 hS44 hS45 hS48 hS49 hS50 hS53 hS54
       obtain ⟨a, ha⟩ : ∃ a', a' = a54 := ⟨_, rfl⟩
       rw [← ha] at hS ⊢; clear ha
       have e := Option.some.inj H
       subst e
       exact ⟨g55, hS.re ⟨rfl, rfl, rfl, rfl, trivial⟩, h7, hp1, hF⟩
      ·replace H := ite_f hb41 H
       refine wp_skip ?_
       have e := Option.some.inj H
       subst e
       exact ⟨g36, hS.re ⟨rfl, rfl, rfl, rfl, trivial⟩, h7, hp1, hF⟩
     ·clear H
      clear hp1 h7 hF
      clear hS
      rintro a w23 ⟨g23, hS, h7, hp1, hF⟩
      have H := Hl26
      clear Hl26
      refine c_pure1 [(0, .int .i64 p0), (1, .slice A1 p1.length cap1), (5, .slice A5 v24.length cap6), (6, .int .i64 (wi (m0_1 + 1)))] (fun R hR => st_val hS rfl rfl rfl (r_move hS rfl rfl) fun a56 hS56 => st_val hS56 rfl rfl rfl (r_bin hS56 rfl rfl rfl b_add) fun a57 hS57 => st_val hS57 rfl rfl rfl (r_assign hS57 rfl rfl) fun a58 hS58 => wpList_nil (hR _ (hS58.re ⟨rfl, rfl, rfl, rfl, trivial⟩))) ?_
      clear hS
      clear a
      intro a hS
      refine ⟨k18, Nat.lt_succ_self _, ?_⟩
      exact ⟨v24, wi (m0_1 + 1), g23, H, hS.re ⟨rfl, rfl, rfl, rfl, trivial⟩, h7, hp1, hF⟩
    ·replace H := ite_f hb22 H
     refine wp_exit ?_
     have e := Option.some.inj H
     subst e
     exact ⟨g17, hS.re ⟨rfl, trivial⟩, h7, hF⟩
 ·clear H
  clear hp1 h7 hF
  clear hS
  rintro a w12 ⟨g12, hS, h7, hF⟩
  have H := Hl15
  clear Hl15
  refine c_pure [(4, .slice A5 v13.length cap6)] (fun R hR => st_val hS rfl rfl rfl (r_move hS rfl rfl) fun a59 hS59 => st_val hS59 rfl rfl rfl (r_assign hS59 rfl rfl) fun a60 hS60 => wpList_nil (hR _ (hS60.re ⟨rfl, trivial⟩))) ?_
  clear hS
  clear a
  intro a hS
  refine wp_ret ?_
  have e := Option.some.inj H
  subst e
  have F61 := Fr.recol2 w12 g12 (N + 0) r0
  replace h7 := h7.recol2 r0
  replace hF := hF.trans F61 (fun c' (hm : c' = N + 0 ∨ c' = N + 0 + 1) => by show (r0 ≤ c' ∧ c' < r0 + 2) ∨ N ≤ c'; omega)
  repeat (with_reducible first | refine then_ret ?_ | refine inBlock_ret ?_)
  exact c_ret1 hS Try.results17 rfl ⟨_, rfl, (recol2 g12 (N + 0) r0), A5, cap6, rfl, h7, hF⟩


end Go.Proofs.Ythmjgadmadlpkaa.Sim

namespace Go.Proofs.Ythmjgadmadlpkaa.Sim
open Go
set_option linter.unusedVariables false
set_option linter.unusedSimpArgs false

/-! ### ref24_invalid: function 111 -/
def ref24_invalid.l0 (p0 : Int) (p1 : List api_Link) : Nat → Int → Option (Fl (Bool) (Unit))
 | 0, _ => none
 | k35 + 1, m0_0 => if decide (m0_0 < (p1.length : Int)) = true then ((idx p1 m0_0).bind fun x43 => if ((((decide (x43.Consumer < 0)) || (decide (p0 ≤ x43.Consumer))) || (decide (x43.Supplier < 0))) || (decide (p0 ≤ x43.Supplier))) = true then (some (.out true)) else (ref24_invalid.l0 p0 p1 k35 (wi (m0_0 + 1)))) else (some (.nxt ()))
def ref24_invalid.f (p0 : Int) (p1 : List api_Link) : Option (Bool) := if (((decide (p0 < 0)) || (decide (128 < p0))) || (decide (1024 < (p1.length : Int)))) = true then (some true) else ((ref24_invalid.l0 p0 p1 FUEL 0 : Option (Fl (Bool) (Unit))).bind fun o32 => o32.go fun _ => some false)
set_option maxRecDepth 100000 in
set_option maxHeartbeats 4000000 in
theorem ref24_invalid.calls {p0 : Int} {p1 : List api_Link} {A1 : Option Addr} {cap1 : Nat} {C1 : Nat → Prop} {w : World} {g : Nat → Nat} {out : Bool} (N : Nat) (hp1 : RdS kd_api_Link w g C1 A1 cap1 p1) (hC1 : ∀ c, C1 c → c < N) (H : ref24_invalid.f p0 p1 = some out) :
  Calls Try.prog 111 #[.int .i64 p0, .slice A1 p1.length cap1] w (fun e w' => ∃ v, e = .returned v ∧ ∃ (g' : Nat → Nat), v = .bool out ∧ Fr (fun q => N ≤ q) w g w' g') := by
 unfold ref24_invalid.f at H
 refine calls_enter Try.func111 rfl Try.ntmps111 rfl (fun a hS => ?_)
 replace hS : Sl 55 a [(0, .int .i64 p0), (1, .slice A1 p1.length cap1)] := hS
 have hF : Fr (fun q => N ≤ q) w g w g := Fr.refl _ _ _
 refine c_pure [(0, .int .i64 p0), (1, .slice A1 p1.length cap1)] (fun R hR => st_val hS rfl rfl rfl (r_assign hS rfl rfl) fun a1 hS1 => wpList_nil (hR _ (hS1.re ⟨rfl, rfl, trivial⟩))) ?_
 clear hS
 clear a
 intro a hS
 refine wp_seq ?_
 refine c_region (fun K hK => ?_)
 refine st_val hS rfl rfl rfl (r_move hS rfl rfl) fun a2 hS2 => st_val hS2 rfl rfl rfl (r_bin hS2 rfl rfl rfl b_lss) fun a3 hS3 => st_val hS3 rfl rfl rfl (r_move hS3 rfl rfl) fun a4 hS4 => ?_
 refine g_join (N := 55) 3 [(0, .int .i64 p0), (1, .slice A1 p1.length cap1), (11, .bool ((decide (p0 < 0)) || (decide (128 < p0))))] ?_ (fun hk => ?_)
 rotate_left
 ·rcases Bool.eq_false_or_eq_true (decide (p0 < 0)) with hb5 | hb5
  ·refine st_off hS4 (want_off hS4 rfl rfl rfl hb5) rfl rfl fun a8 hS8 => st_off hS8 (want_off hS8 rfl rfl rfl hb5) rfl rfl fun a9 hS9 => st_val hS9 rfl rfl rfl (r_pickT hS9 rfl rfl rfl hb5) fun a10 hS10 => hk _ (hS10.re ⟨rfl, rfl, (by rw [hb5]; rfl), trivial⟩)
  ·refine st_valW hS4 (want_on hS4 rfl rfl rfl hb5) rfl rfl (r_move hS4 rfl rfl) fun a11 hS11 => st_valW hS11 (want_on hS11 rfl rfl rfl hb5) rfl rfl (r_bin hS11 rfl rfl rfl b_gtr) fun a12 hS12 => st_val hS12 rfl rfl rfl (r_pickF hS12 rfl rfl rfl hb5) fun a13 hS13 => hk _ (hS13.re ⟨rfl, rfl, (by rw [hb5]; rfl), trivial⟩)
 intro a14 hS14
 refine st_val hS14 rfl rfl rfl (r_move hS14 rfl rfl) fun a15 hS15 => ?_
 refine g_join (N := 55) 4 [(0, .int .i64 p0), (1, .slice A1 p1.length cap1), (16, .bool (((decide (p0 < 0)) || (decide (128 < p0))) || (decide (1024 < (p1.length : Int)))))] ?_ (fun hk => ?_)
 rotate_left
 ·rcases Bool.eq_false_or_eq_true (((decide (p0 < 0)) || (decide (128 < p0)))) with hb16 | hb16
  ·refine st_off hS15 (want_off hS15 rfl rfl rfl hb16) rfl rfl fun a20 hS20 => st_off hS20 (want_off hS20 rfl rfl rfl hb16) rfl rfl fun a21 hS21 => st_off hS21 (want_off hS21 rfl rfl rfl hb16) rfl rfl fun a22 hS22 => st_val hS22 rfl rfl rfl (r_pickT hS22 rfl rfl rfl hb16) fun a23 hS23 => hk _ (hS23.re ⟨rfl, rfl, (by rw [hb16]; rfl), trivial⟩)
  ·refine st_valW hS15 (want_on hS15 rfl rfl rfl hb16) rfl rfl (r_move hS15 rfl rfl) fun a24 hS24 => st_valW hS24 (want_on hS24 rfl rfl rfl hb16) rfl rfl (r_len (e := 43) (sz := 2) (by_ := 16) hS24 rfl rfl (by kernel_rfl)) fun a25 hS25 => st_valW hS25 (want_on hS25 rfl rfl rfl hb16) rfl rfl (r_bin hS25 rfl rfl rfl b_gtr) fun a26 hS26 => st_val hS26 rfl rfl rfl (r_pickF hS26 rfl rfl rfl hb16) fun a27 hS27 => hk _ (hS27.re ⟨rfl, rfl, (by rw [hb16]; rfl), trivial⟩)
 intro a28 hS28
 refine wpList_nil (hK _ _ ?_)
 replace hS : Sl 55 _ [(0, .int .i64 p0), (1, .slice A1 p1.length cap1), (16, .bool (((decide (p0 < 0)) || (decide (128 < p0))) || (decide (1024 < (p1.length : Int)))))] := hS28.re ⟨rfl, rfl, rfl, trivial⟩
 clear hK K
 try clear hS2 hS3 hS4 hS14 hS15 hS28
 obtain ⟨a, ha⟩ : ∃ a', a' = a28 := ⟨_, rfl⟩
 rw [← ha] at hS ⊢; clear ha
 refine c_cond hS rfl (fun hb29 => ?_) (fun hb29 => ?_)
 ·replace H := ite_t hb29 H
  refine c_pure [(4, .bool true)] (fun R hR => st_val hS rfl rfl rfl (r_assign hS rfl rfl) fun a30 hS30 => wpList_nil (hR _ (hS30.re ⟨rfl, trivial⟩))) ?_
  clear hS
  clear a
  intro a hS
  refine wp_ret ?_
  have e := Option.some.inj H
  subst e
  repeat (with_reducible first | refine then_ret ?_ | refine inBlock_ret ?_)
  exact c_ret1 hS Try.results111 rfl ⟨_, rfl, g, rfl, hF⟩
 ·replace H := ite_f hb29 H
  refine wp_skip ?_
  change Code.wp _ _ _ _ _
  obtain ⟨o32, H, Hl33⟩ := bind_el H
  refine c_cut (fun a w' => o32 = .nxt () ∧ w = w' ∧ Sl 55 a []) ?_ ?_
  ·refine c_pure [(0, .int .i64 p0), (1, .slice A1 p1.length cap1), (5, .int .i64 0)] (fun R hR => st_val hS rfl rfl rfl (r_assign hS rfl rfl) fun a34 hS34 => wpList_nil (hR _ (hS34.re ⟨rfl, rfl, rfl, trivial⟩))) ?_
   clear hS
   clear a
   intro a hS
   refine wp_block ?_
   refine wp_loop_ghost (fun kq => fun a w' => ∃ (m0_0 : Int), ref24_invalid.l0 p0 p1 kq m0_0 = some o32 ∧ w = w' ∧ Sl 55 a [(0, .int .i64 p0), (1, .slice A1 p1.length cap1), (5, .int .i64 m0_0)]) FUEL ?_ ?_
   ·exact ⟨0, H, rfl, hS.re ⟨rfl, rfl, rfl, trivial⟩⟩
   ·clear H
    clear hS
    rintro k35 a w' ⟨m0_0, hpre0, hw, hS⟩
    subst hw
    have H := hpre0
    clear hpre0
    cases k35 with
    | zero => exact absurd H (by simp [ref24_invalid.l0])
    | succ k35 =>
     rw [ref24_invalid.l0] at H
     refine wp_seq ?_
     refine c_pure [(0, .int .i64 p0), (1, .slice A1 p1.length cap1), (5, .int .i64 m0_0), (20, .bool (decide (m0_0 < (p1.length : Int))))] (fun R hR => st_val hS rfl rfl rfl (r_move hS rfl rfl) fun a36 hS36 => st_val hS36 rfl rfl rfl (r_move hS36 rfl rfl) fun a37 hS37 => st_val hS37 rfl rfl rfl (r_len (e := 43) (sz := 2) (by_ := 16) hS37 rfl rfl (by kernel_rfl)) fun a38 hS38 => st_val hS38 rfl rfl rfl (r_bin hS38 rfl rfl rfl b_lss) fun a39 hS39 => wpList_nil (hR _ (hS39.re ⟨rfl, rfl, rfl, rfl, trivial⟩))) ?_
     clear hS
     clear a
     intro a hS
     refine c_cond hS rfl (fun hb40 => ?_) (fun hb40 => ?_)
     ·replace H := ite_t hb40 H
      refine wp_skip ?_
      change Code.wp _ _ _ _ _
      refine wp_seq ?_
      refine wp_block ?_
      obtain ⟨x43, hx44, H⟩ := bind_el H
      refine c_region (fun K hK => ?_)
      refine st_val hS rfl rfl rfl (r_move hS rfl rfl) fun a41 hS41 => st_val hS41 rfl rfl rfl (r_move hS41 rfl rfl) fun a42 hS42 => st_val hS42 rfl rfl rfl (r_index (e := 43) (sz := 2) (by_ := 16) hS42 rfl rfl rfl (by kernel_rfl) (RdS.some_ hp1 hx44) (idx_lo hx44) (idx_hi hx44)) fun a45 hS45 => st_val hS45 rfl rfl rfl (r_fieldE (off := 0) hS45 rfl rfl (by kernel_rfl)) fun a46 hS46 => st_val hS46 rfl rfl rfl (r_load1 (n := 1) hS46 rfl rfl (by kernel_rfl) (RdS.cell (i := m0_0) (sz := 2) (j := 0) hp1 hx44 rfl)) fun a47 hS47 => st_val hS47 rfl rfl rfl (r_bin hS47 rfl rfl rfl b_lss) fun a48 hS48 => st_val hS48 rfl rfl rfl (r_move hS48 rfl rfl) fun a49 hS49 => ?_
      refine g_join (N := 55) 8 [(0, .int .i64 p0), (1, .slice A1 p1.length cap1), (5, .int .i64 m0_0), (37, .bool ((decide (x43.Consumer < 0)) || (decide (p0 ≤ x43.Consumer))))] ?_ (fun hk => ?_)
      rotate_left
      ·rcases Bool.eq_false_or_eq_true (decide (x43.Consumer < 0)) with hb50 | hb50
       ·refine st_off hS49 (want_off hS49 rfl rfl rfl hb50) rfl rfl fun a58 hS58 => st_off hS58 (want_off hS58 rfl rfl rfl hb50) rfl rfl fun a59 hS59 => st_off hS59 (want_off hS59 rfl rfl rfl hb50) rfl rfl fun a60 hS60 => st_off hS60 (want_off hS60 rfl rfl rfl hb50) rfl rfl fun a61 hS61 => st_off hS61 (want_off hS61 rfl rfl rfl hb50) rfl rfl fun a62 hS62 => st_off hS62 (want_off hS62 rfl rfl rfl hb50) rfl rfl fun a63 hS63 => st_off hS63 (want_off hS63 rfl rfl rfl hb50) rfl rfl fun a64 hS64 => st_val hS64 rfl rfl rfl (r_pickT hS64 rfl rfl rfl hb50) fun a65 hS65 => hk _ (hS65.re ⟨rfl, rfl, rfl, (by rw [hb50]; rfl), trivial⟩)
       ·refine st_valW hS49 (want_on hS49 rfl rfl rfl hb50) rfl rfl (r_move hS49 rfl rfl) fun a66 hS66 => st_valW hS66 (want_on hS66 rfl rfl rfl hb50) rfl rfl (r_move hS66 rfl rfl) fun a67 hS67 => st_valW hS67 (want_on hS67 rfl rfl rfl hb50) rfl rfl (r_index (e := 43) (sz := 2) (by_ := 16) hS67 rfl rfl rfl (by kernel_rfl) (RdS.some_ hp1 hx44) (idx_lo hx44) (idx_hi hx44)) fun a68 hS68 => st_valW hS68 (want_on hS68 rfl rfl rfl hb50) rfl rfl (r_fieldE (off := 0) hS68 rfl rfl (by kernel_rfl)) fun a69 hS69 => st_valW hS69 (want_on hS69 rfl rfl rfl hb50) rfl rfl (r_load1 (n := 1) hS69 rfl rfl (by kernel_rfl) (RdS.cell (i := m0_0) (sz := 2) (j := 0) hp1 hx44 rfl)) fun a70 hS70 => st_valW hS70 (want_on hS70 rfl rfl rfl hb50) rfl rfl (r_move hS70 rfl rfl) fun a71 hS71 => st_valW hS71 (want_on hS71 rfl rfl rfl hb50) rfl rfl (r_bin hS71 rfl rfl rfl b_geq) fun a72 hS72 => st_val hS72 rfl rfl rfl (r_pickF hS72 rfl rfl rfl hb50) fun a73 hS73 => hk _ (hS73.re ⟨rfl, rfl, rfl, (by rw [hb50]; rfl), trivial⟩)
      intro a74 hS74
      refine st_val hS74 rfl rfl rfl (r_move hS74 rfl rfl) fun a75 hS75 => ?_
      refine g_join (N := 55) 7 [(0, .int .i64 p0), (1, .slice A1 p1.length cap1), (5, .int .i64 m0_0), (45, .bool (((decide (x43.Consumer < 0)) || (decide (p0 ≤ x43.Consumer))) || (decide (x43.Supplier < 0))))] ?_ (fun hk => ?_)
      rotate_left
      ·rcases Bool.eq_false_or_eq_true (((decide (x43.Consumer < 0)) || (decide (p0 ≤ x43.Consumer)))) with hb76 | hb76
       ·refine st_off hS75 (want_off hS75 rfl rfl rfl hb76) rfl rfl fun a83 hS83 => st_off hS83 (want_off hS83 rfl rfl rfl hb76) rfl rfl fun a84 hS84 => st_off hS84 (want_off hS84 rfl rfl rfl hb76) rfl rfl fun a85 hS85 => st_off hS85 (want_off hS85 rfl rfl rfl hb76) rfl rfl fun a86 hS86 => st_off hS86 (want_off hS86 rfl rfl rfl hb76) rfl rfl fun a87 hS87 => st_off hS87 (want_off hS87 rfl rfl rfl hb76) rfl rfl fun a88 hS88 => st_val hS88 rfl rfl rfl (r_pickT hS88 rfl rfl rfl hb76) fun a89 hS89 => hk _ (hS89.re ⟨rfl, rfl, rfl, (by rw [hb76]; rfl), trivial⟩)
       ·refine st_valW hS75 (want_on hS75 rfl rfl rfl hb76) rfl rfl (r_move hS75 rfl rfl) fun a90 hS90 => st_valW hS90 (want_on hS90 rfl rfl rfl hb76) rfl rfl (r_move hS90 rfl rfl) fun a91 hS91 => st_valW hS91 (want_on hS91 rfl rfl rfl hb76) rfl rfl (r_index (e := 43) (sz := 2) (by_ := 16) hS91 rfl rfl rfl (by kernel_rfl) (RdS.some_ hp1 hx44) (idx_lo hx44) (idx_hi hx44)) fun a92 hS92 => st_valW hS92 (want_on hS92 rfl rfl rfl hb76) rfl rfl (r_fieldE (off := 1) hS92 rfl rfl (by kernel_rfl)) fun a93 hS93 => st_valW hS93 (want_on hS93 rfl rfl rfl hb76) rfl rfl (r_load1 (n := 1) hS93 rfl rfl (by kernel_rfl) (RdS.cell (i := m0_0) (sz := 2) (j := 1) hp1 hx44 rfl)) fun a94 hS94 => st_valW hS94 (want_on hS94 rfl rfl rfl hb76) rfl rfl (r_bin hS94 rfl rfl rfl b_lss) fun a95 hS95 => st_val hS95 rfl rfl rfl (r_pickF hS95 rfl rfl rfl hb76) fun a96 hS96 => hk _ (hS96.re ⟨rfl, rfl, rfl, (by rw [hb76]; rfl), trivial⟩)
      intro a97 hS97
      refine st_val hS97 rfl rfl rfl (r_move hS97 rfl rfl) fun a98 hS98 => ?_
      refine g_join (N := 55) 8 [(0, .int .i64 p0), (1, .slice A1 p1.length cap1), (5, .int .i64 m0_0), (54, .bool ((((decide (x43.Consumer < 0)) || (decide (p0 ≤ x43.Consumer))) || (decide (x43.Supplier < 0))) || (decide (p0 ≤ x43.Supplier))))] ?_ (fun hk => ?_)
      rotate_left
      ·rcases Bool.eq_false_or_eq_true ((((decide (x43.Consumer < 0)) || (decide (p0 ≤ x43.Consumer))) || (decide (x43.Supplier < 0)))) with hb99 | hb99
       ·refine st_off hS98 (want_off hS98 rfl rfl rfl hb99) rfl rfl fun a107 hS107 => st_off hS107 (want_off hS107 rfl rfl rfl hb99) rfl rfl fun a108 hS108 => st_off hS108 (want_off hS108 rfl rfl rfl hb99) rfl rfl fun a109 hS109 => st_off hS109 (want_off hS109 rfl rfl rfl hb99) rfl rfl fun a110 hS110 => st_off hS110 (want_off hS110 rfl rfl rfl hb99) rfl rfl fun a111 hS111 => st_off hS111 (want_off hS111 rfl rfl rfl hb99) rfl rfl fun a112 hS112 => st_off hS112 (want_off hS112 rfl rfl rfl hb99) rfl rfl fun a113 hS113 => st_val hS113 rfl rfl rfl (r_pickT hS113 rfl rfl rfl hb99) fun a114 hS114 => hk _ (hS114.re ⟨rfl, rfl, rfl, (by rw [hb99]; rfl), trivial⟩)
       ·refine st_valW hS98 (want_on hS98 rfl rfl rfl hb99) rfl rfl (r_move hS98 rfl rfl) fun a115 hS115 => st_valW hS115 (want_on hS115 rfl rfl rfl hb99) rfl rfl (r_move hS115 rfl rfl) fun a116 hS116 => st_valW hS116 (want_on hS116 rfl rfl rfl hb99) rfl rfl (r_index (e := 43) (sz := 2) (by_ := 16) hS116 rfl rfl rfl (by kernel_rfl) (RdS.some_ hp1 hx44) (idx_lo hx44) (idx_hi hx44)) fun a117 hS117 => st_valW hS117 (want_on hS117 rfl rfl rfl hb99) rfl rfl (r_fieldE (off := 1) hS117 rfl rfl (by kernel_rfl)) fun a118 hS118 => st_valW hS118 (want_on hS118 rfl rfl rfl hb99) rfl rfl (r_load1 (n := 1) hS118 rfl rfl (by kernel_rfl) (RdS.cell (i := m0_0) (sz := 2) (j := 1) hp1 hx44 rfl)) fun a119 hS119 => st_valW hS119 (want_on hS119 rfl rfl rfl hb99) rfl rfl (r_move hS119 rfl rfl) fun a120 hS120 => st_valW hS120 (want_on hS120 rfl rfl rfl hb99) rfl rfl (r_bin hS120 rfl rfl rfl b_geq) fun a121 hS121 => st_val hS121 rfl rfl rfl (r_pickF hS121 rfl rfl rfl hb99) fun a122 hS122 => hk _ (hS122.re ⟨rfl, rfl, rfl, (by rw [hb99]; rfl), trivial⟩)
      intro a123 hS123
      refine wpList_nil (hK _ _ ?_)
      replace hS : Sl 55 _ [(0, .int .i64 p0), (1, .slice A1 p1.length cap1), (5, .int .i64 m0_0), (54, .bool ((((decide (x43.Consumer < 0)) || (decide (p0 ≤ x43.Consumer))) || (decide (x43.Supplier < 0))) || (decide (p0 ≤ x43.Supplier))))] := hS123.re ⟨rfl, rfl, rfl, rfl, trivial⟩
      clear hK K
      try clear hS41 hS42 hS45 hS46 hS47 hS48 hS49 hS74 hS75 hS97 hS98 hS123
      obtain ⟨a, ha⟩ : ∃ a', a' = a123 := ⟨_, rfl⟩
      rw [← ha] at hS ⊢; clear ha
      refine c_cond hS rfl (fun hb124 => ?_) (fun hb124 => ?_)
      ·replace H := ite_t hb124 H
       refine c_pure [(4, .bool true)] (fun R hR => st_val hS rfl rfl rfl (r_assign hS rfl rfl) fun a125 hS125 => wpList_nil (hR _ (hS125.re ⟨rfl, trivial⟩))) ?_
       clear hS
       clear a
       intro a hS
       refine wp_ret ?_
       have e := Option.some.inj H
       subst e
       replace H := Fl.go_out Hl33
       have e := Option.some.inj H
       subst e
       repeat (with_reducible first | refine then_ret ?_ | refine inBlock_ret ?_)
       exact c_ret1 hS Try.results111 rfl ⟨_, rfl, g, rfl, hF⟩
      ·replace H := ite_f hb124 H
       refine wp_skip ?_
       change Code.wp _ _ _ _ _
       refine c_pure1 [(0, .int .i64 p0), (1, .slice A1 p1.length cap1), (5, .int .i64 (wi (m0_0 + 1)))] (fun R hR => st_val hS rfl rfl rfl (r_move hS rfl rfl) fun a126 hS126 => st_val hS126 rfl rfl rfl (r_bin hS126 rfl rfl rfl b_add) fun a127 hS127 => st_val hS127 rfl rfl rfl (r_assign hS127 rfl rfl) fun a128 hS128 => wpList_nil (hR _ (hS128.re ⟨rfl, rfl, rfl, trivial⟩))) ?_
       clear hS
       clear a
       intro a hS
       refine ⟨k35, Nat.lt_succ_self _, ?_⟩
       exact ⟨wi (m0_0 + 1), H, rfl, hS.re ⟨rfl, rfl, rfl, trivial⟩⟩
     ·replace H := ite_f hb40 H
      refine wp_exit ?_
      have e := Option.some.inj H
      exact ⟨e.symm, rfl, hS.re trivial⟩
  ·clear H
   clear hS
   rintro a w' ⟨hpre0, hw, hS⟩
   subst hpre0
   subst hw
   have H := Fl.go_nxt Hl33
   clear Hl33
   refine c_pure [(4, .bool false)] (fun R hR => st_val hS rfl rfl rfl (r_assign hS rfl rfl) fun a129 hS129 => wpList_nil (hR _ (hS129.re ⟨rfl, trivial⟩))) ?_
   clear hS
   clear a
   intro a hS
   refine wp_ret ?_
   have e := Option.some.inj H
   subst e
   repeat (with_reducible first | refine then_ret ?_ | refine inBlock_ret ?_)
   exact c_ret1 hS Try.results111 rfl ⟨_, rfl, g, rfl, hF⟩


end Go.Proofs.Ythmjgadmadlpkaa.Sim

namespace Go.Proofs.Ythmjgadmadlpkaa.Sim
open Go
set_option linter.unusedVariables false
set_option linter.unusedSimpArgs false

/-! ### ref24_Basic: function 94 -/
def ref24_Basic.l1 (p1 : List api_Link) (m0_0 : Int) : Nat → Int → Option (Fl (Fl (Int) (Unit)) (Unit))
 | 0, _ => none
 | k28 + 1, m1_0 => if decide (m1_0 < m0_0) = true then ((idx p1 m0_0).bind fun x36 => (idx p1 m1_0).bind fun x42 => if decide (x36 = x42) = true then (some (.out (.out 7))) else (ref24_Basic.l1 p1 m0_0 k28 (wi (m1_0 + 1)))) else (some (.nxt ()))
def ref24_Basic.l0 (p1 : List api_Link) : Nat → Int → Option (Fl (Int) (Unit))
 | 0, _ => none
 | k16 + 1, m0_0 => if decide (m0_0 < (p1.length : Int)) = true then ((ref24_Basic.l1 p1 m0_0 FUEL 0 : Option (Fl (Fl (Int) (Unit)) (Unit))).bind fun o24 => o24.go fun _ => ref24_Basic.l0 p1 k16 (wi (m0_0 + 1))) else (some (.nxt ()))
def ref24_Basic.f (p0 : Int) (p1 : List api_Link) : Option (Int) := (ref24_invalid.f p0 p1).bind fun r4 => if r4 = true then (some 1) else ((ref24_Basic.l0 p1 FUEL 0 : Option (Fl (Int) (Unit))).bind fun o12 => o12.go fun _ => some 0)
set_option maxRecDepth 100000 in
set_option maxHeartbeats 4000000 in
theorem ref24_Basic.calls {p0 : Int} {p1 : List api_Link} {A1 : Option Addr} {cap1 : Nat} {C1 : Nat → Prop} {w : World} {g : Nat → Nat} {out : Int} (N : Nat) (hp1 : RdS kd_api_Link w g C1 A1 cap1 p1) (hC1 : ∀ c, C1 c → c < N) (H : ref24_Basic.f p0 p1 = some out) :
  Calls Try.prog 94 #[.int .i64 p0, .slice A1 p1.length cap1] w (fun e w' => ∃ v, e = .returned v ∧ ∃ (g' : Nat → Nat), v = .int .i64 out ∧ Fr (fun q => N ≤ q) w g w' g') := by
 unfold ref24_Basic.f at H
 refine calls_enter Try.func94 rfl Try.ntmps94 rfl (fun a hS => ?_)
 replace hS : Sl 30 a [(0, .int .i64 p0), (1, .slice A1 p1.length cap1)] := hS
 have hF : Fr (fun q => N ≤ q) w g w g := Fr.refl _ _ _
 refine c_pure [(0, .int .i64 p0), (1, .slice A1 p1.length cap1)] (fun R hR => st_val hS rfl rfl rfl (r_assign hS rfl rfl) fun a1 hS1 => wpList_nil (hR _ (hS1.re ⟨rfl, rfl, trivial⟩))) ?_
 clear hS
 clear a
 intro a hS
 refine wp_seq ?_
 obtain ⟨r4, hr5, H⟩ := bind_el H
 refine c_region (fun K hK => ?_)
 refine st_val hS rfl rfl rfl (r_move hS rfl rfl) fun a2 hS2 => st_val hS2 rfl rfl rfl (r_move hS2 rfl rfl) fun a3 hS3 => ?_
 refine st_enter hS3 rfl rfl rfl (r_call hS3 rfl rfl (by kernel_rfl)) (ref24_invalid.calls (C1 := C1) (p0 := p0) (p1 := p1) (g := g) (N + 0)  hp1 (fun q (hq : C1 q) => by have := hC1 q hq; omega) hr5) ?_
 rintro _ a6 w7 ⟨g7, rfl, F7⟩ hS6
 replace hp1 := RdS.fr hp1 F7 (by decide) (fun q (hq : C1 q) (hm : N + 0 ≤ q) => by have := hC1 q hq; omega)
 replace hF := hF.trans F7 (fun c' (hm : N + 0 ≤ c') => by show N ≤ c'; omega)
 refine wpList_nil (hK _ _ ?_)
 replace hS : Sl 30 _ [(1, .slice A1 p1.length cap1), (9, .bool r4)] := hS6.re ⟨rfl, rfl, trivial⟩
 clear hK K
 try clear hS2 hS3 hS6
 obtain ⟨a, ha⟩ : ∃ a', a' = a6 := ⟨_, rfl⟩
 rw [← ha] at hS ⊢; clear ha
 refine c_cond hS rfl (fun hb8 => ?_) (fun hb8 => ?_)
 ·replace H := ite_t hb8 H
  refine c_pure [(4, .int .i64 1)] (fun R hR => st_val hS rfl rfl rfl (r_assign hS rfl rfl) fun a9 hS9 => wpList_nil (hR _ (hS9.re ⟨rfl, trivial⟩))) ?_
  clear hS
  clear a
  intro a hS
  refine wp_ret ?_
  have e := Option.some.inj H
  subst e
  repeat (with_reducible first | refine then_ret ?_ | refine inBlock_ret ?_)
  exact c_ret1 hS Try.results94 rfl ⟨_, rfl, g7, rfl, hF⟩
 ·replace H := ite_f hb8 H
  refine wp_skip ?_
  change Code.wp _ _ _ _ _
  obtain ⟨o12, H, Hl13⟩ := bind_el H
  refine c_cut (fun a w10 => ∃ (g10 : Nat → Nat), o12 = .nxt () ∧ Sl 30 a [] ∧ Fr (fun q => N ≤ q) w g w10 g10) ?_ ?_
  ·refine c_pure [(1, .slice A1 p1.length cap1), (5, .int .i64 0)] (fun R hR => st_val hS rfl rfl rfl (r_assign hS rfl rfl) fun a14 hS14 => wpList_nil (hR _ (hS14.re ⟨rfl, rfl, trivial⟩))) ?_
   clear hS
   clear a
   intro a hS
   refine wp_block ?_
   refine wp_loop_ghost (fun kq => fun a w15 => ∃ (m0_0 : Int), ∃ (g15 : Nat → Nat), ref24_Basic.l0 p1 kq m0_0 = some o12 ∧ Sl 30 a [(1, .slice A1 p1.length cap1), (5, .int .i64 m0_0)] ∧ RdS kd_api_Link w15 g15 C1 A1 cap1 p1 ∧ Fr (fun q => N ≤ q) w g w15 g15) FUEL ?_ ?_
   ·exact ⟨0, g7, H, hS.re ⟨rfl, rfl, trivial⟩, hp1, hF⟩
   ·clear H
    clear hp1 hF
    clear hS
    rintro k16 a w15 ⟨m0_0, g15, hpre0, hS, hp1, hF⟩
    have H := hpre0
    clear hpre0
    cases k16 with
    | zero => exact absurd H (by simp [ref24_Basic.l0])
    | succ k16 =>
     rw [ref24_Basic.l0] at H
     refine wp_seq ?_
     refine c_pure [(1, .slice A1 p1.length cap1), (5, .int .i64 m0_0), (13, .bool (decide (m0_0 < (p1.length : Int))))] (fun R hR => st_val hS rfl rfl rfl (r_move hS rfl rfl) fun a17 hS17 => st_val hS17 rfl rfl rfl (r_move hS17 rfl rfl) fun a18 hS18 => st_val hS18 rfl rfl rfl (r_len (e := 43) (sz := 2) (by_ := 16) hS18 rfl rfl (by kernel_rfl)) fun a19 hS19 => st_val hS19 rfl rfl rfl (r_bin hS19 rfl rfl rfl b_lss) fun a20 hS20 => wpList_nil (hR _ (hS20.re ⟨rfl, rfl, rfl, trivial⟩))) ?_
     clear hS
     clear a
     intro a hS
     refine c_cond hS rfl (fun hb21 => ?_) (fun hb21 => ?_)
     ·replace H := ite_t hb21 H
      refine wp_skip ?_
      change Code.wp _ _ _ _ _
      obtain ⟨o24, H, Hl25⟩ := bind_el H
      refine c_cut (fun a w22 => ∃ (g22 : Nat → Nat), o24 = .nxt () ∧ Sl 30 a [(1, .slice A1 p1.length cap1), (5, .int .i64 m0_0)] ∧ RdS kd_api_Link w22 g22 C1 A1 cap1 p1 ∧ Fr (fun q => N ≤ q) w g w22 g22) ?_ ?_
      ·refine wp_block ?_
       refine c_pure [(1, .slice A1 p1.length cap1), (5, .int .i64 m0_0), (6, .int .i64 0)] (fun R hR => st_val hS rfl rfl rfl (r_assign hS rfl rfl) fun a26 hS26 => wpList_nil (hR _ (hS26.re ⟨rfl, rfl, rfl, trivial⟩))) ?_
       clear hS
       clear a
       intro a hS
       refine wp_block ?_
       refine wp_loop_ghost (fun kq => fun a w27 => ∃ (m1_0 : Int), ∃ (g27 : Nat → Nat), ref24_Basic.l1 p1 m0_0 kq m1_0 = some o24 ∧ Sl 30 a [(1, .slice A1 p1.length cap1), (5, .int .i64 m0_0), (6, .int .i64 m1_0)] ∧ RdS kd_api_Link w27 g27 C1 A1 cap1 p1 ∧ Fr (fun q => N ≤ q) w g w27 g27) FUEL ?_ ?_
       ·exact ⟨0, g15, H, hS.re ⟨rfl, rfl, rfl, trivial⟩, hp1, hF⟩
       ·clear H
        clear hp1 hF
        clear hS
        rintro k28 a w27 ⟨m1_0, g27, hpre0, hS, hp1, hF⟩
        have H := hpre0
        clear hpre0
        cases k28 with
        | zero => exact absurd H (by simp [ref24_Basic.l1])
        | succ k28 =>
         rw [ref24_Basic.l1] at H
         refine wp_seq ?_
         refine c_pure [(1, .slice A1 p1.length cap1), (5, .int .i64 m0_0), (6, .int .i64 m1_0), (18, .bool (decide (m1_0 < m0_0)))] (fun R hR => st_val hS rfl rfl rfl (r_move hS rfl rfl) fun a29 hS29 => st_val hS29 rfl rfl rfl (r_move hS29 rfl rfl) fun a30 hS30 => st_val hS30 rfl rfl rfl (r_bin hS30 rfl rfl rfl b_lss) fun a31 hS31 => wpList_nil (hR _ (hS31.re ⟨rfl, rfl, rfl, rfl, trivial⟩))) ?_
         clear hS
         clear a
         intro a hS
         refine c_cond hS rfl (fun hb32 => ?_) (fun hb32 => ?_)
         ·replace H := ite_t hb32 H
          refine wp_skip ?_
          change Code.wp _ _ _ _ _
          refine wp_seq ?_
          refine wp_block ?_
          obtain ⟨x36, hx37, H⟩ := bind_el H
          obtain ⟨x42, hx43, H⟩ := bind_el H
          refine c_draw (fun K hK => d_start (fun q => False) g27 [] 9 #[false, false, false, false, false, false, false, false, false] (by kernel_rfl) rfl rfl (fun w33 hw33 => ?_))
          have F33 : Fr (fun _ => False) w27 g27 w33 g27 := by rw [hw33]; exact Fr.drew _ _ _
          replace hp1 := RdS.fr hp1 F33 (by decide) (fun _ _ h => h)
          replace hF := hF.trans F33 (fun _ h => h.elim)
          have hC : Fr (fun q => False) w33 g27 w33 g27 := Fr.refl _ _ _
          refine d_pure hS 0 #[true, false, false, false, false, false, false, false, false] rfl rfl rfl rfl (by kernel_rfl) (fun _ _ _ h => h) (fun _ => (r_move hS rfl rfl)) fun a34 hS34 => d_pure hS34 1 #[true, true, false, false, false, false, false, false, false] rfl rfl rfl rfl (by kernel_rfl) (fun _ _ _ h => h) (fun _ => (r_move hS34 rfl rfl)) fun a35 hS35 => d_pure hS35 2 #[true, true, true, false, false, false, false, false, false] rfl rfl rfl rfl (by kernel_rfl) (fun _ _ _ h => h) (fun _ => (r_index (e := 43) (sz := 2) (by_ := 16) hS35 rfl rfl rfl (by kernel_rfl) (RdS.some_ hp1 hx37) (idx_lo hx37) (idx_hi hx37))) fun a38 hS38 => d_take hS38 3 #[true, true, true, true, false, false, false, false, false] rfl rfl rfl rfl (by kernel_rfl) (fun _ _ _ h => h) ⟨_, hC⟩ (fun w' g' Fz => (r_loadN (n := 2) (cs := [.int .i64 x36.Consumer, .int .i64 x36.Supplier]) hS38 rfl rfl (by kernel_rfl) rfl (RdS.cells_off (RdS.fr hp1 Fz (by decide) (fun _ _ h => h)) hx37 0 2))) fun a39 hS39 => d_pure hS39 4 #[true, true, true, true, true, false, false, false, false] rfl rfl rfl rfl (by kernel_rfl) (fun _ _ _ h => h) (fun _ => (r_move hS39 rfl rfl)) fun a40 hS40 => d_pure hS40 5 #[true, true, true, true, true, true, false, false, false] rfl rfl rfl rfl (by kernel_rfl) (fun _ _ _ h => h) (fun _ => (r_move hS40 rfl rfl)) fun a41 hS41 => d_pure hS41 6 #[true, true, true, true, true, true, true, false, false] rfl rfl rfl rfl (by kernel_rfl) (fun _ _ _ h => h) (fun _ => (r_index (e := 43) (sz := 2) (by_ := 16) hS41 rfl rfl rfl (by kernel_rfl) (RdS.some_ hp1 hx43) (idx_lo hx43) (idx_hi hx43))) fun a44 hS44 => d_take hS44 7 #[true, true, true, true, true, true, true, true, false] rfl rfl rfl rfl (by kernel_rfl) (fun _ _ _ h => h) ⟨_, hC⟩ (fun w' g' Fz => (r_loadN (n := 2) (cs := [.int .i64 x42.Consumer, .int .i64 x42.Supplier]) hS44 rfl rfl (by kernel_rfl) rfl (RdS.cells_off (RdS.fr hp1 Fz (by decide) (fun _ _ h => h)) hx43 0 2))) fun a45 hS45 => d_pure hS45 8 #[true, true, true, true, true, true, true, true, true] rfl rfl rfl rfl (by kernel_rfl) (fun _ _ _ h => h) (fun _ => (r_stEq hS45 rfl rfl rfl (by kernel_rfl) (eqF_api_Link x36 x42 _))) fun a46 hS46 => d_done (by kernel_rfl) (hK _ _ ?_)
          replace hS : Sl 30 _ [(1, .slice A1 p1.length cap1), (5, .int .i64 m0_0), (6, .int .i64 m1_0), (29, .bool (decide (x36 = x42)))] := hS46.re ⟨rfl, rfl, rfl, rfl, trivial⟩
          clear hK K hC
          try clear hS34 hS35 hS38 hS39 hS40 hS41 hS44 hS45 hS46
          obtain ⟨a, ha⟩ : ∃ a', a' = a46 := ⟨_, rfl⟩
          rw [← ha] at hS ⊢; clear ha
          refine c_cond hS rfl (fun hb47 => ?_) (fun hb47 => ?_)
          ·replace H := ite_t hb47 H
           refine c_pure [(4, .int .i64 7)] (fun R hR => st_val hS rfl rfl rfl (r_assign hS rfl rfl) fun a48 hS48 => wpList_nil (hR _ (hS48.re ⟨rfl, trivial⟩))) ?_
           clear hS
           clear a
           intro a hS
           refine wp_ret ?_
           have e := Option.some.inj H
           subst e
           replace H := Fl.go_out Hl25
           have e := Option.some.inj H
           subst e
           replace H := Fl.go_out Hl13
           have e := Option.some.inj H
           subst e
           repeat (with_reducible first | refine then_ret ?_ | refine inBlock_ret ?_)
           exact c_ret1 hS Try.results94 rfl ⟨_, rfl, g27, rfl, hF⟩
          ·replace H := ite_f hb47 H
           refine wp_skip ?_
           change Code.wp _ _ _ _ _
           refine c_pure1 [(1, .slice A1 p1.length cap1), (5, .int .i64 m0_0), (6, .int .i64 (wi (m1_0 + 1)))] (fun R hR => st_val hS rfl rfl rfl (r_move hS rfl rfl) fun a49 hS49 => st_val hS49 rfl rfl rfl (r_bin hS49 rfl rfl rfl b_add) fun a50 hS50 => st_val hS50 rfl rfl rfl (r_assign hS50 rfl rfl) fun a51 hS51 => wpList_nil (hR _ (hS51.re ⟨rfl, rfl, rfl, trivial⟩))) ?_
           clear hS
           clear a
           intro a hS
           refine ⟨k28, Nat.lt_succ_self _, ?_⟩
           exact ⟨wi (m1_0 + 1), g27, H, hS.re ⟨rfl, rfl, rfl, trivial⟩, hp1, hF⟩
         ·replace H := ite_f hb32 H
          refine wp_exit ?_
          have e := Option.some.inj H
          exact ⟨g27, e.symm, hS.re ⟨rfl, rfl, trivial⟩, hp1, hF⟩
      ·clear H
       clear hp1 hF
       clear hS
       rintro a w22 ⟨g22, hpre0, hS, hp1, hF⟩
       subst hpre0
       have H := Fl.go_nxt Hl25
       clear Hl25
       refine c_pure1 [(1, .slice A1 p1.length cap1), (5, .int .i64 (wi (m0_0 + 1)))] (fun R hR => st_val hS rfl rfl rfl (r_move hS rfl rfl) fun a52 hS52 => st_val hS52 rfl rfl rfl (r_bin hS52 rfl rfl rfl b_add) fun a53 hS53 => st_val hS53 rfl rfl rfl (r_assign hS53 rfl rfl) fun a54 hS54 => wpList_nil (hR _ (hS54.re ⟨rfl, rfl, trivial⟩))) ?_
       clear hS
       clear a
       intro a hS
       refine ⟨k16, Nat.lt_succ_self _, ?_⟩
       exact ⟨wi (m0_0 + 1), g22, H, hS.re ⟨rfl, rfl, trivial⟩, hp1, hF⟩
     ·replace H := ite_f hb21 H
      refine wp_exit ?_
      have e := Option.some.inj H
      exact ⟨g15, e.symm, hS.re trivial, hF⟩
  ·clear H
   clear hp1 hF
   clear hS
   rintro a w10 ⟨g10, hpre0, hS, hF⟩
   subst hpre0
   have H := Fl.go_nxt Hl13
   clear Hl13
   refine c_pure [(4, .int .i64 0)] (fun R hR => st_val hS rfl rfl rfl (r_assign hS rfl rfl) fun a55 hS55 => wpList_nil (hR _ (hS55.re ⟨rfl, trivial⟩))) ?_
   clear hS
   clear a
   intro a hS
   refine wp_ret ?_
   have e := Option.some.inj H
   subst e
   repeat (with_reducible first | refine then_ret ?_ | refine inBlock_ret ?_)
   exact c_ret1 hS Try.results94 rfl ⟨_, rfl, g10, rfl, hF⟩


end Go.Proofs.Ythmjgadmadlpkaa.Sim

namespace Go.Proofs.Ythmjgadmadlpkaa.Sim
open Go
set_option linter.unusedVariables false
set_option linter.unusedSimpArgs false

/-! ### ref24_Matrix: function 95 -/
def ref24_Matrix.l0 (p0 : Int) : Nat → (List (List Bool)) → Int → Option ((List (List Bool)))
 | 0, _, _ => none
 | k21 + 1, m0_0, m0_1 => if decide (m0_1 < p0) = true then ((mk p0 false).bind fun y29 => (idx m0_0 m0_1).bind fun x37 => ref24_Matrix.l0 p0 k21 (upd m0_0 m0_1 y29) (wi (m0_1 + 1))) else (some m0_0)
def ref24_Matrix.l1 (p1 : List api_Link) : Nat → (List (List Bool)) → Int → Option ((List (List Bool)))
 | 0, _, _ => none
 | k57 + 1, m1_0, m1_1 => if decide (m1_1 < (p1.length : Int)) = true then ((idx p1 m1_1).bind fun x63 => (idx m1_0 x63.Consumer).bind fun x65 => (idx x65 x63.Supplier).bind fun x69 => ref24_Matrix.l1 p1 k57 (upd m1_0 x63.Consumer (upd x65 x63.Supplier true)) (wi (m1_1 + 1))) else (some m1_0)
def ref24_Matrix.l4 (p0 : Int) (m2_1 : Int) (m3_1 : Int) : Nat → (List (List Bool)) → Int → Option ((List (List Bool)))
 | 0, _, _ => none
 | k134 + 1, m4_0, m4_1 => if decide (m4_1 < p0) = true then (((idx m4_0 m2_1).bind fun x145 => (idx x145 m4_1).bind fun x152 => if x152 = true then ((idx m4_0 m3_1).bind fun x159 => (idx x159 m4_1).bind fun x166 => some (upd m4_0 m3_1 (upd x159 m4_1 true))) else (some m4_0) : Option ((List (List Bool)))).bind fun v140 => ref24_Matrix.l4 p0 m2_1 m3_1 k134 v140 (wi (m4_1 + 1))) else (some m4_0)
def ref24_Matrix.l3 (p0 : Int) (m2_1 : Int) : Nat → (List (List Bool)) → Int → Option ((List (List Bool)))
 | 0, _, _ => none
 | k108 + 1, m3_0, m3_1 => if decide (m3_1 < p0) = true then (((idx m3_0 m3_1).bind fun x119 => (idx x119 m2_1).bind fun x126 => if (!x126) = true then (some m3_0) else (ref24_Matrix.l4 p0 m2_1 m3_1 FUEL m3_0 0) : Option ((List (List Bool)))).bind fun v114 => ref24_Matrix.l3 p0 m2_1 k108 v114 (wi (m3_1 + 1))) else (some m3_0)
def ref24_Matrix.l2 (p0 : Int) : Nat → (List (List Bool)) → Int → Option ((List (List Bool)))
 | 0, _, _ => none
 | k97 + 1, m2_0, m2_1 => if decide (m2_1 < p0) = true then ((ref24_Matrix.l3 p0 m2_1 FUEL m2_0 0 : Option ((List (List Bool)))).bind fun v103 => ref24_Matrix.l2 p0 k97 v103 (wi (m2_1 + 1))) else (some m2_0)
def ref24_Matrix.f (p0 : Int) (p1 : List api_Link) : Option ((List (List Bool))) := (mk p0 ([] : List Bool)).bind fun y3 => (ref24_Matrix.l0 p0 FUEL y3 0 : Option ((List (List Bool)))).bind fun v15 => (ref24_Matrix.l1 p1 FUEL v15 0 : Option ((List (List Bool)))).bind fun v52 => (ref24_Matrix.l2 p0 FUEL v52 0 : Option ((List (List Bool)))).bind fun v92 => some v92
set_option maxRecDepth 100000 in
set_option maxHeartbeats 4000000 in
theorem ref24_Matrix.calls {p0 : Int} {p1 : List api_Link} {A1 : Option Addr} {cap1 : Nat} {C1 : Nat → Prop} {w : World} {g : Nat → Nat} {out : (List (List Bool))} (N : Nat) (r0 : Nat) (hp1 : RdS kd_api_Link w g C1 A1 cap1 p1) (hC1 : ∀ c, C1 c → c < N) (hr0 : r0 + 2 ≤ N) (H : ref24_Matrix.f p0 p1 = some out) :
  Calls Try.prog 95 #[.int .i64 p0, .slice A1 p1.length cap1] w (fun e w' => ∃ v, e = .returned v ∧ ∃ (g' : Nat → Nat) (A_r0 : Option Addr) (cap_r0 : Nat), v = .slice A_r0 out.length cap_r0 ∧ OwS (kslice kbool (by decide)) 74 w' g' r0 A_r0 cap_r0 out ∧ Fr (fun q => (r0 ≤ q ∧ q < r0 + 2) ∨ N ≤ q) w g w' g') := by
 unfold ref24_Matrix.f at H
 refine calls_enter Try.func95 rfl Try.ntmps95 rfl (fun a hS => ?_)
 replace hS : Sl 80 a [(0, .int .i64 p0), (1, .slice A1 p1.length cap1)] := hS
 have hF : Fr (fun q => (r0 ≤ q ∧ q < r0 + 2) ∨ N ≤ q) w g w g := Fr.refl _ _ _
 refine c_pure [(0, .int .i64 p0), (1, .slice A1 p1.length cap1)] (fun R hR => st_val hS rfl rfl rfl (r_assign hS rfl rfl) fun a1 hS1 => wpList_nil (hR _ (hS1.re ⟨rfl, rfl, trivial⟩))) ?_
 clear hS
 clear a
 intro a hS
 obtain ⟨y3, hy4, H⟩ := bind_el H
 refine c_region (fun K hK => ?_)
 refine st_val hS rfl rfl rfl (r_move hS rfl rfl) fun a2 hS2 => ?_
 refine st_eff hS2 rfl rfl rfl (e_makeM kbool (e := 74) (sz := 1) (by_ := 24) (E := 4) (N + 0) g hS2 rfl rfl (by kernel_rfl) (by kernel_rfl) rfl rfl hy4) ?_
 rintro _ a10 w11 g11 ⟨⟨A5, cap6, hs7, rfl, h8⟩, F11⟩ hS10
 replace hp1 := RdS.fr hp1 F11 (by decide) (fun _ _ h => h)
 replace hF := hF.trans F11 (fun _ h => h.elim)
 refine st_val hS10 rfl rfl rfl (r_assign hS10 rfl rfl) fun a12 hS12 => wpList_nil (hK _ _ ?_)
 replace hS : Sl 80 _ [(0, .int .i64 p0), (1, .slice A1 p1.length cap1), (5, .slice A5 y3.length cap6)] := hS12.re ⟨rfl, rfl, rfl, trivial⟩
 clear hK K
 try clear hS2 hS10 hS12
 obtain ⟨a, ha⟩ : ∃ a', a' = a12 := ⟨_, rfl⟩
 rw [← ha] at hS ⊢; clear ha
 obtain ⟨v15, H, Hl17⟩ := bind_el H
 refine c_cut (fun a w13 => ∃ (g13 : Nat → Nat), ∃ (hs14 : List (Option Addr × Nat)), Sl 80 a [(0, .int .i64 p0), (1, .slice A1 p1.length cap1), (5, .slice A5 v15.length cap6)] ∧ OwM kbool 74 4 w13 g13 (N + 0) A5 cap6 hs14 v15 (fun _ => False) ∧ RdS kd_api_Link w13 g13 C1 A1 cap1 p1 ∧ Fr (fun q => (r0 ≤ q ∧ q < r0 + 2) ∨ N ≤ q) w g w13 g13) ?_ ?_
 ·refine c_pure [(0, .int .i64 p0), (1, .slice A1 p1.length cap1), (5, .slice A5 y3.length cap6), (6, .int .i64 0)] (fun R hR => st_val hS rfl rfl rfl (r_assign hS rfl rfl) fun a18 hS18 => wpList_nil (hR _ (hS18.re ⟨rfl, rfl, rfl, rfl, trivial⟩))) ?_
  clear hS
  clear a
  intro a hS
  refine wp_block ?_
  refine wp_loop_ghost (fun kq => fun a w19 => ∃ (m0_0 : List (List Bool)), ∃ (m0_1 : Int), ∃ (g19 : Nat → Nat), ∃ (hs20 : List (Option Addr × Nat)), ref24_Matrix.l0 p0 kq m0_0 m0_1 = some v15 ∧ Sl 80 a [(0, .int .i64 p0), (1, .slice A1 p1.length cap1), (5, .slice A5 m0_0.length cap6), (6, .int .i64 m0_1)] ∧ OwM kbool 74 4 w19 g19 (N + 0) A5 cap6 hs20 m0_0 (fun _ => False) ∧ RdS kd_api_Link w19 g19 C1 A1 cap1 p1 ∧ Fr (fun q => (r0 ≤ q ∧ q < r0 + 2) ∨ N ≤ q) w g w19 g19) FUEL ?_ ?_
  ·exact ⟨y3, 0, g11, hs7, H, hS.re ⟨rfl, rfl, rfl, rfl, trivial⟩, h8, hp1, hF⟩
  ·clear H
   clear hp1 h8 hF
   clear hS
   rintro k21 a w19 ⟨m0_0, m0_1, g19, hs20, hpre0, hS, h8, hp1, hF⟩
   have H := hpre0
   clear hpre0
   cases k21 with
   | zero => exact absurd H (by simp [ref24_Matrix.l0])
   | succ k21 =>
    rw [ref24_Matrix.l0] at H
    refine wp_seq ?_
    refine c_pure [(0, .int .i64 p0), (1, .slice A1 p1.length cap1), (5, .slice A5 m0_0.length cap6), (6, .int .i64 m0_1), (15, .bool (decide (m0_1 < p0)))] (fun R hR => st_val hS rfl rfl rfl (r_move hS rfl rfl) fun a22 hS22 => st_val hS22 rfl rfl rfl (r_move hS22 rfl rfl) fun a23 hS23 => st_val hS23 rfl rfl rfl (r_bin hS23 rfl rfl rfl b_lss) fun a24 hS24 => wpList_nil (hR _ (hS24.re ⟨rfl, rfl, rfl, rfl, rfl, trivial⟩))) ?_
    clear hS
    clear a
    intro a hS
    refine c_cond hS rfl (fun hb25 => ?_) (fun hb25 => ?_)
    ·replace H := ite_t hb25 H
     refine wp_skip ?_
     change Code.wp _ _ _ _ _
     refine wp_seq ?_
     refine wp_block ?_
     obtain ⟨y29, hy30, H⟩ := bind_el H
     obtain ⟨x37, hx38, H⟩ := bind_el H
     refine c_region1 (fun K hK => ?_)
     refine st_val hS rfl rfl rfl (r_move hS rfl rfl) fun a26 hS26 => st_val hS26 rfl rfl rfl (r_move hS26 rfl rfl) fun a27 hS27 => st_val hS27 rfl rfl rfl (r_move hS27 rfl rfl) fun a28 hS28 => ?_
     refine st_eff hS28 rfl rfl rfl (e_make (e := 4) (sz := 1) (by_ := 1) (z := [.bool false]) (kd := kbool) (N + 3) g19 hS28 rfl rfl (by kernel_rfl) (by kernel_rfl) rfl rfl rfl (fun _ _ _ => by exact rfl) hy30) ?_
     rintro _ a35 w36 g36 ⟨⟨A31, cap32, rfl, h33⟩, F36⟩ hS35
     replace h8 := OwM.fr h8 F36 (fun h => h) (fun h => h) (fun h => h)
     replace hp1 := RdS.fr hp1 F36 (by decide) (fun _ _ h => h)
     replace hF := hF.trans F36 (fun _ h => h.elim)
     obtain ⟨h39, hh40⟩ := OwM.hd h8 hx38
     refine st_val hS35 rfl rfl rfl (r_index (e := 74) (sz := 1) (by_ := 24) hS35 rfl rfl rfl (by kernel_rfl) (OwM.some_ h8 hx38) (idx_lo hx38) (idx_hi hx38)) fun a41 hS41 => ?_
     obtain ⟨hN43, hm44, F45⟩ := OwM.take (fun _ _ _ _ _ _ _ _ h => h) h8 hx38 hh40 (N + 5) ⟨by omega, by omega⟩
     clear h8
     replace h33 := OwS.fr h33 F45 (fun c' hc (hm : c' = N + 0 + 1) => by omega)
     replace hp1 := RdS.fr hp1 F45 (by decide) (fun q (hq : C1 q) (hm : q = N + 0 + 1) => by have := hC1 q hq; omega)
     replace hF := hF.trans F45 (fun c' (hm : c' = N + 0 + 1) => by show (r0 ≤ c' ∧ c' < r0 + 2) ∨ N ≤ c'; omega)
     refine st_effS hS41 rfl rfl (e_storeM (k := kbool) (fun _ _ _ _ _ _ _ _ h => h) (dyeA g36 h39.1 (N + 5)) hS41 rfl rfl rfl rfl (by kernel_rfl) rfl hm44 hx38 hh40 h33 ⟨by omega, by omega⟩) ?_
     rintro a46 w47 g47 ⟨hm44, F47⟩ hS46
     replace hp1 := RdS.fr hp1 F47 (by decide) (fun q (hq : C1 q) (hm : q = N + 0 ∨ q = N + 3) => by have := hC1 q hq; omega)
     replace hF := hF.trans F47 (fun c' (hm : c' = N + 0 ∨ c' = N + 3) => by show (r0 ≤ c' ∧ c' < r0 + 2) ∨ N ≤ c'; omega)
     have hT : Sl 80 a46 [(0, .int .i64 p0), (1, .slice A1 p1.length cap1), (5, .slice A5 m0_0.length cap6), (6, .int .i64 m0_1)] := hS46.re ⟨rfl, rfl, rfl, rfl, trivial⟩
     replace hS46 : Sl 80 a46 [(0, .int .i64 p0), (1, .slice A1 p1.length cap1), (5, .slice A5 (upd m0_0 m0_1 y29).length cap6), (6, .int .i64 m0_1)] := by simpa only [upd_length] using hT
     clear hT
     refine wpList_nil (hK _ _ ?_)
     replace hS : Sl 80 _ [(0, .int .i64 p0), (1, .slice A1 p1.length cap1), (5, .slice A5 (upd m0_0 m0_1 y29).length cap6), (6, .int .i64 m0_1)] := hS46.re ⟨rfl, rfl, rfl, rfl, trivial⟩
     clear hK K
     try clear hS26 hS27 hS28 hS35 hS41 hS46
     obtain ⟨a, ha⟩ : ∃ a', a' = a46 := ⟨_, rfl⟩
     rw [← ha] at hS ⊢; clear ha
     change Code.wp _ _ _ _ _
     refine c_pure1 [(0, .int .i64 p0), (1, .slice A1 p1.length cap1), (5, .slice A5 (upd m0_0 m0_1 y29).length cap6), (6, .int .i64 (wi (m0_1 + 1)))] (fun R hR => st_val hS rfl rfl rfl (r_move hS rfl rfl) fun a48 hS48 => st_val hS48 rfl rfl rfl (r_bin hS48 rfl rfl rfl b_add) fun a49 hS49 => st_val hS49 rfl rfl rfl (r_assign hS49 rfl rfl) fun a50 hS50 => wpList_nil (hR _ (hS50.re ⟨rfl, rfl, rfl, rfl, trivial⟩))) ?_
     clear hS
     clear a
     intro a hS
     refine ⟨k21, Nat.lt_succ_self _, ?_⟩
     exact ⟨(upd m0_0 m0_1 y29), wi (m0_1 + 1), g47, (upd hs20 m0_1 (A31, cap32)), H, hS.re ⟨rfl, rfl, rfl, rfl, trivial⟩, hm44, hp1, hF⟩
    ·replace H := ite_f hb25 H
     refine wp_exit ?_
     have e := Option.some.inj H
     subst e
     exact ⟨g19, hs20, hS.re ⟨rfl, rfl, rfl, trivial⟩, h8, hp1, hF⟩
 ·clear H
  clear hp1 h8 hF
  clear hS
  rintro a w13 ⟨g13, hs14, hS, h8, hp1, hF⟩
  have H := Hl17
  clear Hl17
  obtain ⟨v52, H, Hl54⟩ := bind_el H
  refine c_cut (fun a w51 => ∃ (g51 : Nat → Nat), Sl 80 a [(0, .int .i64 p0), (5, .slice A5 v52.length cap6)] ∧ OwM kbool 74 4 w51 g51 (N + 0) A5 cap6 hs14 v52 (fun _ => False) ∧ Fr (fun q => (r0 ≤ q ∧ q < r0 + 2) ∨ N ≤ q) w g w51 g51) ?_ ?_
  ·refine c_pure [(0, .int .i64 p0), (1, .slice A1 p1.length cap1), (5, .slice A5 v15.length cap6), (7, .int .i64 0)] (fun R hR => st_val hS rfl rfl rfl (r_assign hS rfl rfl) fun a55 hS55 => wpList_nil (hR _ (hS55.re ⟨rfl, rfl, rfl, rfl, trivial⟩))) ?_
   clear hS
   clear a
   intro a hS
   refine wp_block ?_
   refine wp_loop_ghost (fun kq => fun a w56 => ∃ (m1_0 : List (List Bool)), ∃ (m1_1 : Int), ∃ (g56 : Nat → Nat), ref24_Matrix.l1 p1 kq m1_0 m1_1 = some v52 ∧ Sl 80 a [(0, .int .i64 p0), (1, .slice A1 p1.length cap1), (5, .slice A5 m1_0.length cap6), (7, .int .i64 m1_1)] ∧ OwM kbool 74 4 w56 g56 (N + 0) A5 cap6 hs14 m1_0 (fun _ => False) ∧ RdS kd_api_Link w56 g56 C1 A1 cap1 p1 ∧ Fr (fun q => (r0 ≤ q ∧ q < r0 + 2) ∨ N ≤ q) w g w56 g56) FUEL ?_ ?_
   ·exact ⟨v15, 0, g13, H, hS.re ⟨rfl, rfl, rfl, rfl, trivial⟩, h8, hp1, hF⟩
   ·clear H
    clear hp1 h8 hF
    clear hS
    rintro k57 a w56 ⟨m1_0, m1_1, g56, hpre0, hS, h8, hp1, hF⟩
    have H := hpre0
    clear hpre0
    cases k57 with
    | zero => exact absurd H (by simp [ref24_Matrix.l1])
    | succ k57 =>
     rw [ref24_Matrix.l1] at H
     refine wp_seq ?_
     refine c_pure [(0, .int .i64 p0), (1, .slice A1 p1.length cap1), (5, .slice A5 m1_0.length cap6), (7, .int .i64 m1_1), (26, .bool (decide (m1_1 < (p1.length : Int))))] (fun R hR => st_val hS rfl rfl rfl (r_move hS rfl rfl) fun a58 hS58 => st_val hS58 rfl rfl rfl (r_move hS58 rfl rfl) fun a59 hS59 => st_val hS59 rfl rfl rfl (r_len (e := 43) (sz := 2) (by_ := 16) hS59 rfl rfl (by kernel_rfl)) fun a60 hS60 => st_val hS60 rfl rfl rfl (r_bin hS60 rfl rfl rfl b_lss) fun a61 hS61 => wpList_nil (hR _ (hS61.re ⟨rfl, rfl, rfl, rfl, rfl, trivial⟩))) ?_
     clear hS
     clear a
     intro a hS
     refine c_cond hS rfl (fun hb62 => ?_) (fun hb62 => ?_)
     ·replace H := ite_t hb62 H
      refine wp_skip ?_
      change Code.wp _ _ _ _ _
      refine wp_seq ?_
      refine wp_block ?_
      obtain ⟨x63, hx64, H⟩ := bind_el H
      obtain ⟨x65, hx66, H⟩ := bind_el H
      obtain ⟨h67, hh68⟩ := OwM.hd h8 hx66
      obtain ⟨x69, hx70, H⟩ := bind_el H
      refine c_draw1 (fun K hK => d_start (fun q => False) g56 [14] 15 #[false, false, false, false, false, false, false, false, false, false, false, false, false, false, false] (by kernel_rfl) rfl rfl (fun w71 hw71 => ?_))
      have F71 : Fr (fun _ => False) w56 g56 w71 g56 := by rw [hw71]; exact Fr.drew _ _ _
      replace h8 := OwM.fr h8 F71 (fun h => h) (fun h => h) (fun h => h)
      replace hp1 := RdS.fr hp1 F71 (by decide) (fun _ _ h => h)
      replace hF := hF.trans F71 (fun _ h => h.elim)
      have hC : Fr (fun q => False) w71 g56 w71 g56 := Fr.refl _ _ _
      refine d_pure hS 0 #[true, false, false, false, false, false, false, false, false, false, false, false, false, false, false] rfl rfl rfl rfl (by kernel_rfl) (fun _ _ _ h => h) (fun _ => (r_move hS rfl rfl)) fun a72 hS72 => d_pure hS72 1 #[true, true, false, false, false, false, false, false, false, false, false, false, false, false, false] rfl rfl rfl rfl (by kernel_rfl) (fun _ _ _ h => h) (fun _ => (r_move hS72 rfl rfl)) fun a73 hS73 => d_pure hS73 2 #[true, true, true, false, false, false, false, false, false, false, false, false, false, false, false] rfl rfl rfl rfl (by kernel_rfl) (fun _ _ _ h => h) (fun _ => (r_move hS73 rfl rfl)) fun a74 hS74 => d_pure hS74 3 #[true, true, true, true, false, false, false, false, false, false, false, false, false, false, false] rfl rfl rfl rfl (by kernel_rfl) (fun _ _ _ h => h) (fun _ => (r_index (e := 43) (sz := 2) (by_ := 16) hS74 rfl rfl rfl (by kernel_rfl) (RdS.some_ hp1 hx64) (idx_lo hx64) (idx_hi hx64))) fun a75 hS75 => d_pure hS75 4 #[true, true, true, true, true, false, false, false, false, false, false, false, false, false, false] rfl rfl rfl rfl (by kernel_rfl) (fun _ _ _ h => h) (fun _ => (r_fieldE (off := 0) hS75 rfl rfl (by kernel_rfl))) fun a76 hS76 => d_take hS76 5 #[true, true, true, true, true, true, false, false, false, false, false, false, false, false, false] rfl rfl rfl rfl (by kernel_rfl) (fun _ _ _ h => h) ⟨_, hC⟩ (fun w' g' Fz => (r_load1 (n := 1) hS76 rfl rfl (by kernel_rfl) (RdS.cell (i := m1_1) (sz := 2) (j := 0) (RdS.fr hp1 Fz (by decide) (fun _ _ h => h)) hx64 rfl))) fun a77 hS77 => d_pure hS77 6 #[true, true, true, true, true, true, true, false, false, false, false, false, false, false, false] rfl rfl rfl rfl (by kernel_rfl) (fun _ _ _ h => h) (fun _ => (r_index (e := 74) (sz := 1) (by_ := 24) hS77 rfl rfl rfl (by kernel_rfl) (OwM.some_ h8 hx66) (idx_lo hx66) (idx_hi hx66))) fun a78 hS78 => d_take hS78 7 #[true, true, true, true, true, true, true, true, false, false, false, false, false, false, false] rfl rfl rfl rfl (by kernel_rfl) (fun _ _ _ h => h) ⟨_, hC⟩ (fun w' g' Fz => (r_load1 (n := 1) hS78 rfl rfl (by kernel_rfl) (OwM.cell (OwM.fr h8 Fz (fun h => h) (fun h => h) (fun h => h)) hx66 hh68))) fun a79 hS79 => d_pure hS79 8 #[true, true, true, true, true, true, true, true, true, false, false, false, false, false, false] rfl rfl rfl rfl (by kernel_rfl) (fun _ _ _ h => h) (fun _ => (r_move hS79 rfl rfl)) fun a80 hS80 => d_pure hS80 9 #[true, true, true, true, true, true, true, true, true, true, false, false, false, false, false] rfl rfl rfl rfl (by kernel_rfl) (fun _ _ _ h => h) (fun _ => (r_move hS80 rfl rfl)) fun a81 hS81 => d_pure hS81 10 #[true, true, true, true, true, true, true, true, true, true, true, false, false, false, false] rfl rfl rfl rfl (by kernel_rfl) (fun _ _ _ h => h) (fun _ => (r_index (e := 43) (sz := 2) (by_ := 16) hS81 rfl rfl rfl (by kernel_rfl) (RdS.some_ hp1 hx64) (idx_lo hx64) (idx_hi hx64))) fun a82 hS82 => d_pure hS82 11 #[true, true, true, true, true, true, true, true, true, true, true, true, false, false, false] rfl rfl rfl rfl (by kernel_rfl) (fun _ _ _ h => h) (fun _ => (r_fieldE (off := 1) hS82 rfl rfl (by kernel_rfl))) fun a83 hS83 => d_take hS83 12 #[true, true, true, true, true, true, true, true, true, true, true, true, true, false, false] rfl rfl rfl rfl (by kernel_rfl) (fun _ _ _ h => h) ⟨_, hC⟩ (fun w' g' Fz => (r_load1 (n := 1) hS83 rfl rfl (by kernel_rfl) (RdS.cell (i := m1_1) (sz := 2) (j := 1) (RdS.fr hp1 Fz (by decide) (fun _ _ h => h)) hx64 rfl))) fun a84 hS84 => d_pure hS84 13 #[true, true, true, true, true, true, true, true, true, true, true, true, true, true, false] rfl rfl rfl rfl (by kernel_rfl) (fun _ _ _ h => h) (fun _ => (r_index (e := 4) (sz := 1) (by_ := 1) hS84 rfl rfl rfl (by kernel_rfl) (RdS.some_ (OwD.rd (OwM.row h8 hx66 hh68)) hx70) (idx_lo hx70) (idx_hi hx70))) fun a85 hS85 => ?_
      refine d_one 14 #[true, true, true, true, true, true, true, true, true, true, true, true, true, true, true] rfl (by kernel_rfl) (arm_effS hS85 rfl rfl (e_storeMM (n := 1) (bb := false) (k := kbool) (y' := true) (us := [.bool true]) (fun _ _ _ _ _ _ _ _ h => h) g56 hS85 rfl rfl rfl rfl (by kernel_rfl) rfl rfl h8 hx66 hh68 hx70 (fun _ _ _ => rfl)) (.inl (by decide)) ?_)
      rintro a86 w87 g87 ⟨h8, F87⟩ hS86
      replace hp1 := RdS.fr hp1 F87 (by decide) (fun q (hq : C1 q) (hm : q = N + 0 + 1) => by have := hC1 q hq; omega)
      replace hF := hF.trans F87 (fun c' (hm : c' = N + 0 + 1) => by show (r0 ≤ c' ∧ c' < r0 + 2) ∨ N ≤ c'; omega)
      have hT : Sl 80 a86 [(0, .int .i64 p0), (1, .slice A1 p1.length cap1), (5, .slice A5 m1_0.length cap6), (7, .int .i64 m1_1)] := hS86.re ⟨rfl, rfl, rfl, rfl, trivial⟩
      replace hS86 : Sl 80 a86 [(0, .int .i64 p0), (1, .slice A1 p1.length cap1), (5, .slice A5 (upd m1_0 x63.Consumer (upd x65 x63.Supplier true)).length cap6), (7, .int .i64 m1_1)] := by simpa only [upd_length] using hT
      clear hT
      refine d_done (by kernel_rfl) (hK _ _ ?_)
      replace hS : Sl 80 _ [(0, .int .i64 p0), (1, .slice A1 p1.length cap1), (5, .slice A5 (upd m1_0 x63.Consumer (upd x65 x63.Supplier true)).length cap6), (7, .int .i64 m1_1)] := hS86.re ⟨rfl, rfl, rfl, rfl, trivial⟩
      clear hK K hC
      try clear hS72 hS73 hS74 hS75 hS76 hS77 hS78 hS79 hS80 hS81 hS82 hS83 hS84 hS85 hS86
      obtain ⟨a, ha⟩ : ∃ a', a' = a86 := ⟨_, rfl⟩
      rw [← ha] at hS ⊢; clear ha
      change Code.wp _ _ _ _ _
      refine c_pure1 [(0, .int .i64 p0), (1, .slice A1 p1.length cap1), (5, .slice A5 (upd m1_0 x63.Consumer (upd x65 x63.Supplier true)).length cap6), (7, .int .i64 (wi (m1_1 + 1)))] (fun R hR => st_val hS rfl rfl rfl (r_move hS rfl rfl) fun a88 hS88 => st_val hS88 rfl rfl rfl (r_bin hS88 rfl rfl rfl b_add) fun a89 hS89 => st_val hS89 rfl rfl rfl (r_assign hS89 rfl rfl) fun a90 hS90 => wpList_nil (hR _ (hS90.re ⟨rfl, rfl, rfl, rfl, trivial⟩))) ?_
      clear hS
      clear a
      intro a hS
      refine ⟨k57, Nat.lt_succ_self _, ?_⟩
      exact ⟨(upd m1_0 x63.Consumer (upd x65 x63.Supplier true)), wi (m1_1 + 1), g87, H, hS.re ⟨rfl, rfl, rfl, rfl, trivial⟩, h8, hp1, hF⟩
     ·replace H := ite_f hb62 H
      refine wp_exit ?_
      have e := Option.some.inj H
      subst e
      exact ⟨g56, hS.re ⟨rfl, rfl, trivial⟩, h8, hF⟩
  ·clear H
   clear hp1 h8 hF
   clear hS
   rintro a w51 ⟨g51, hS, h8, hF⟩
   have H := Hl54
   clear Hl54
   obtain ⟨v92, H, Hl94⟩ := bind_el H
   refine c_cut (fun a w91 => ∃ (g91 : Nat → Nat), Sl 80 a [(5, .slice A5 v92.length cap6)] ∧ OwM kbool 74 4 w91 g91 (N + 0) A5 cap6 hs14 v92 (fun _ => False) ∧ Fr (fun q => (r0 ≤ q ∧ q < r0 + 2) ∨ N ≤ q) w g w91 g91) ?_ ?_
   ·refine c_pure [(0, .int .i64 p0), (5, .slice A5 v52.length cap6), (8, .int .i64 0)] (fun R hR => st_val hS rfl rfl rfl (r_assign hS rfl rfl) fun a95 hS95 => wpList_nil (hR _ (hS95.re ⟨rfl, rfl, rfl, trivial⟩))) ?_
    clear hS
    clear a
    intro a hS
    refine wp_block ?_
    refine wp_loop_ghost (fun kq => fun a w96 => ∃ (m2_0 : List (List Bool)), ∃ (m2_1 : Int), ∃ (g96 : Nat → Nat), ref24_Matrix.l2 p0 kq m2_0 m2_1 = some v92 ∧ Sl 80 a [(0, .int .i64 p0), (5, .slice A5 m2_0.length cap6), (8, .int .i64 m2_1)] ∧ OwM kbool 74 4 w96 g96 (N + 0) A5 cap6 hs14 m2_0 (fun _ => False) ∧ Fr (fun q => (r0 ≤ q ∧ q < r0 + 2) ∨ N ≤ q) w g w96 g96) FUEL ?_ ?_
    ·exact ⟨v52, 0, g51, H, hS.re ⟨rfl, rfl, rfl, trivial⟩, h8, hF⟩
    ·clear H
     clear h8 hF
     clear hS
     rintro k97 a w96 ⟨m2_0, m2_1, g96, hpre0, hS, h8, hF⟩
     have H := hpre0
     clear hpre0
     cases k97 with
     | zero => exact absurd H (by simp [ref24_Matrix.l2])
     | succ k97 =>
      rw [ref24_Matrix.l2] at H
      refine wp_seq ?_
      refine c_pure [(0, .int .i64 p0), (5, .slice A5 m2_0.length cap6), (8, .int .i64 m2_1), (45, .bool (decide (m2_1 < p0)))] (fun R hR => st_val hS rfl rfl rfl (r_move hS rfl rfl) fun a98 hS98 => st_val hS98 rfl rfl rfl (r_move hS98 rfl rfl) fun a99 hS99 => st_val hS99 rfl rfl rfl (r_bin hS99 rfl rfl rfl b_lss) fun a100 hS100 => wpList_nil (hR _ (hS100.re ⟨rfl, rfl, rfl, rfl, trivial⟩))) ?_
      clear hS
      clear a
      intro a hS
      refine c_cond hS rfl (fun hb101 => ?_) (fun hb101 => ?_)
      ·replace H := ite_t hb101 H
       refine wp_skip ?_
       change Code.wp _ _ _ _ _
       obtain ⟨v103, H, Hl105⟩ := bind_el H
       refine c_cut (fun a w102 => ∃ (g102 : Nat → Nat), Sl 80 a [(0, .int .i64 p0), (5, .slice A5 v103.length cap6), (8, .int .i64 m2_1)] ∧ OwM kbool 74 4 w102 g102 (N + 0) A5 cap6 hs14 v103 (fun _ => False) ∧ Fr (fun q => (r0 ≤ q ∧ q < r0 + 2) ∨ N ≤ q) w g w102 g102) ?_ ?_
       ·refine wp_block ?_
        refine c_pure [(0, .int .i64 p0), (5, .slice A5 m2_0.length cap6), (8, .int .i64 m2_1), (9, .int .i64 0)] (fun R hR => st_val hS rfl rfl rfl (r_assign hS rfl rfl) fun a106 hS106 => wpList_nil (hR _ (hS106.re ⟨rfl, rfl, rfl, rfl, trivial⟩))) ?_
        clear hS
        clear a
        intro a hS
        refine wp_block ?_
        refine wp_loop_ghost (fun kq => fun a w107 => ∃ (m3_0 : List (List Bool)), ∃ (m3_1 : Int), ∃ (g107 : Nat → Nat), ref24_Matrix.l3 p0 m2_1 kq m3_0 m3_1 = some v103 ∧ Sl 80 a [(0, .int .i64 p0), (5, .slice A5 m3_0.length cap6), (8, .int .i64 m2_1), (9, .int .i64 m3_1)] ∧ OwM kbool 74 4 w107 g107 (N + 0) A5 cap6 hs14 m3_0 (fun _ => False) ∧ Fr (fun q => (r0 ≤ q ∧ q < r0 + 2) ∨ N ≤ q) w g w107 g107) FUEL ?_ ?_
        ·exact ⟨m2_0, 0, g96, H, hS.re ⟨rfl, rfl, rfl, rfl, trivial⟩, h8, hF⟩
        ·clear H
         clear h8 hF
         clear hS
         rintro k108 a w107 ⟨m3_0, m3_1, g107, hpre0, hS, h8, hF⟩
         have H := hpre0
         clear hpre0
         cases k108 with
         | zero => exact absurd H (by simp [ref24_Matrix.l3])
         | succ k108 =>
          rw [ref24_Matrix.l3] at H
          refine wp_seq ?_
          refine c_pure [(0, .int .i64 p0), (5, .slice A5 m3_0.length cap6), (8, .int .i64 m2_1), (9, .int .i64 m3_1), (50, .bool (decide (m3_1 < p0)))] (fun R hR => st_val hS rfl rfl rfl (r_move hS rfl rfl) fun a109 hS109 => st_val hS109 rfl rfl rfl (r_move hS109 rfl rfl) fun a110 hS110 => st_val hS110 rfl rfl rfl (r_bin hS110 rfl rfl rfl b_lss) fun a111 hS111 => wpList_nil (hR _ (hS111.re ⟨rfl, rfl, rfl, rfl, rfl, trivial⟩))) ?_
          clear hS
          clear a
          intro a hS
          refine c_cond hS rfl (fun hb112 => ?_) (fun hb112 => ?_)
          ·replace H := ite_t hb112 H
           refine wp_skip ?_
           change Code.wp _ _ _ _ _
           obtain ⟨v114, H, Hl116⟩ := bind_el H
           refine c_cut (fun a w113 => ∃ (g113 : Nat → Nat), Sl 80 a [(0, .int .i64 p0), (5, .slice A5 v114.length cap6), (8, .int .i64 m2_1), (9, .int .i64 m3_1)] ∧ OwM kbool 74 4 w113 g113 (N + 0) A5 cap6 hs14 v114 (fun _ => False) ∧ Fr (fun q => (r0 ≤ q ∧ q < r0 + 2) ∨ N ≤ q) w g w113 g113) ?_ ?_
           ·refine wp_block ?_
            refine wp_seq ?_
            obtain ⟨x119, hx120, H⟩ := bind_el H
            obtain ⟨x126, hx127, H⟩ := bind_el H
            refine c_region (fun K hK => ?_)
            refine st_val hS rfl rfl rfl (r_move hS rfl rfl) fun a117 hS117 => st_val hS117 rfl rfl rfl (r_move hS117 rfl rfl) fun a118 hS118 => ?_
            obtain ⟨h121, hh122⟩ := OwM.hd h8 hx120
            refine st_val hS118 rfl rfl rfl (r_index (e := 74) (sz := 1) (by_ := 24) hS118 rfl rfl rfl (by kernel_rfl) (OwM.some_ h8 hx120) (idx_lo hx120) (idx_hi hx120)) fun a123 hS123 => st_val hS123 rfl rfl rfl (r_load1 (n := 1) hS123 rfl rfl (by kernel_rfl) (OwM.cell h8 hx120 hh122)) fun a124 hS124 => st_val hS124 rfl rfl rfl (r_move hS124 rfl rfl) fun a125 hS125 => st_val hS125 rfl rfl rfl (r_index (e := 4) (sz := 1) (by_ := 1) hS125 rfl rfl rfl (by kernel_rfl) (RdS.some_ (OwD.rd (OwM.row h8 hx120 hh122)) hx127) (idx_lo hx127) (idx_hi hx127)) fun a128 hS128 => st_val hS128 rfl rfl rfl (r_load1 (n := 1) hS128 rfl rfl (by kernel_rfl) (RdS.cell (i := m2_1) (sz := 1) (j := 0) (OwD.rd (OwM.row h8 hx120 hh122)) hx127 rfl)) fun a129 hS129 => st_val hS129 rfl rfl rfl (r_not hS129 rfl rfl) fun a130 hS130 => wpList_nil (hK _ _ ?_)
            replace hS : Sl 80 _ [(0, .int .i64 p0), (5, .slice A5 m3_0.length cap6), (8, .int .i64 m2_1), (9, .int .i64 m3_1), (60, .bool (!x126))] := hS130.re ⟨rfl, rfl, rfl, rfl, rfl, trivial⟩
            clear hK K
            try clear hS117 hS118 hS123 hS124 hS125 hS128 hS129 hS130
            obtain ⟨a, ha⟩ : ∃ a', a' = a130 := ⟨_, rfl⟩
            rw [← ha] at hS ⊢; clear ha
            refine c_cond hS rfl (fun hb131 => ?_) (fun hb131 => ?_)
            ·replace H := ite_t hb131 H
             refine wp_exit ?_
             have e := Option.some.inj H
             subst e
             exact ⟨g107, hS.re ⟨rfl, rfl, rfl, rfl, trivial⟩, h8, hF⟩
            ·replace H := ite_f hb131 H
             refine wp_skip ?_
             change Code.wp _ _ _ _ _
             refine c_pure [(0, .int .i64 p0), (5, .slice A5 m3_0.length cap6), (8, .int .i64 m2_1), (9, .int .i64 m3_1), (10, .int .i64 0)] (fun R hR => st_val hS rfl rfl rfl (r_assign hS rfl rfl) fun a132 hS132 => wpList_nil (hR _ (hS132.re ⟨rfl, rfl, rfl, rfl, rfl, trivial⟩))) ?_
             clear hS
             clear a
             intro a hS
             refine wp_block ?_
             refine wp_loop_ghost (fun kq => fun a w133 => ∃ (m4_0 : List (List Bool)), ∃ (m4_1 : Int), ∃ (g133 : Nat → Nat), ref24_Matrix.l4 p0 m2_1 m3_1 kq m4_0 m4_1 = some v114 ∧ Sl 80 a [(0, .int .i64 p0), (5, .slice A5 m4_0.length cap6), (8, .int .i64 m2_1), (9, .int .i64 m3_1), (10, .int .i64 m4_1)] ∧ OwM kbool 74 4 w133 g133 (N + 0) A5 cap6 hs14 m4_0 (fun _ => False) ∧ Fr (fun q => (r0 ≤ q ∧ q < r0 + 2) ∨ N ≤ q) w g w133 g133) FUEL ?_ ?_
             ·exact ⟨m3_0, 0, g107, H, hS.re ⟨rfl, rfl, rfl, rfl, rfl, trivial⟩, h8, hF⟩
             ·clear H
              clear h8 hF
              clear hS
              rintro k134 a w133 ⟨m4_0, m4_1, g133, hpre0, hS, h8, hF⟩
              have H := hpre0
              clear hpre0
              cases k134 with
              | zero => exact absurd H (by simp [ref24_Matrix.l4])
              | succ k134 =>
               rw [ref24_Matrix.l4] at H
               refine wp_seq ?_
               refine c_pure [(0, .int .i64 p0), (5, .slice A5 m4_0.length cap6), (8, .int .i64 m2_1), (9, .int .i64 m3_1), (10, .int .i64 m4_1), (63, .bool (decide (m4_1 < p0)))] (fun R hR => st_val hS rfl rfl rfl (r_move hS rfl rfl) fun a135 hS135 => st_val hS135 rfl rfl rfl (r_move hS135 rfl rfl) fun a136 hS136 => st_val hS136 rfl rfl rfl (r_bin hS136 rfl rfl rfl b_lss) fun a137 hS137 => wpList_nil (hR _ (hS137.re ⟨rfl, rfl, rfl, rfl, rfl, rfl, trivial⟩))) ?_
               clear hS
               clear a
               intro a hS
               refine c_cond hS rfl (fun hb138 => ?_) (fun hb138 => ?_)
               ·replace H := ite_t hb138 H
                refine wp_skip ?_
                change Code.wp _ _ _ _ _
                obtain ⟨v140, H, Hl142⟩ := bind_el H
                refine c_cut (fun a w139 => ∃ (g139 : Nat → Nat), Sl 80 a [(0, .int .i64 p0), (5, .slice A5 v140.length cap6), (8, .int .i64 m2_1), (9, .int .i64 m3_1), (10, .int .i64 m4_1)] ∧ OwM kbool 74 4 w139 g139 (N + 0) A5 cap6 hs14 v140 (fun _ => False) ∧ Fr (fun q => (r0 ≤ q ∧ q < r0 + 2) ∨ N ≤ q) w g w139 g139) ?_ ?_
                ·refine wp_block ?_
                 obtain ⟨x145, hx146, H⟩ := bind_el H
                 obtain ⟨x152, hx153, H⟩ := bind_el H
                 refine c_region (fun K hK => ?_)
                 refine st_val hS rfl rfl rfl (r_move hS rfl rfl) fun a143 hS143 => st_val hS143 rfl rfl rfl (r_move hS143 rfl rfl) fun a144 hS144 => ?_
                 obtain ⟨h147, hh148⟩ := OwM.hd h8 hx146
                 refine st_val hS144 rfl rfl rfl (r_index (e := 74) (sz := 1) (by_ := 24) hS144 rfl rfl rfl (by kernel_rfl) (OwM.some_ h8 hx146) (idx_lo hx146) (idx_hi hx146)) fun a149 hS149 => st_val hS149 rfl rfl rfl (r_load1 (n := 1) hS149 rfl rfl (by kernel_rfl) (OwM.cell h8 hx146 hh148)) fun a150 hS150 => st_val hS150 rfl rfl rfl (r_move hS150 rfl rfl) fun a151 hS151 => st_val hS151 rfl rfl rfl (r_index (e := 4) (sz := 1) (by_ := 1) hS151 rfl rfl rfl (by kernel_rfl) (RdS.some_ (OwD.rd (OwM.row h8 hx146 hh148)) hx153) (idx_lo hx153) (idx_hi hx153)) fun a154 hS154 => st_val hS154 rfl rfl rfl (r_load1 (n := 1) hS154 rfl rfl (by kernel_rfl) (RdS.cell (i := m4_1) (sz := 1) (j := 0) (OwD.rd (OwM.row h8 hx146 hh148)) hx153 rfl)) fun a155 hS155 => wpList_nil (hK _ _ ?_)
                 replace hS : Sl 80 _ [(0, .int .i64 p0), (5, .slice A5 m4_0.length cap6), (8, .int .i64 m2_1), (9, .int .i64 m3_1), (10, .int .i64 m4_1), (72, .bool x152)] := hS155.re ⟨rfl, rfl, rfl, rfl, rfl, rfl, trivial⟩
                 clear hK K
                 try clear hS143 hS144 hS149 hS150 hS151 hS154 hS155
                 obtain ⟨a, ha⟩ : ∃ a', a' = a155 := ⟨_, rfl⟩
                 rw [← ha] at hS ⊢; clear ha
                 refine c_cond hS rfl (fun hb156 => ?_) (fun hb156 => ?_)
                 ·replace H := ite_t hb156 H
                  obtain ⟨x159, hx160, H⟩ := bind_el H
                  obtain ⟨x166, hx167, H⟩ := bind_el H
                  refine c_region1 (fun K hK => ?_)
                  refine st_val hS rfl rfl rfl (r_move hS rfl rfl) fun a157 hS157 => st_val hS157 rfl rfl rfl (r_move hS157 rfl rfl) fun a158 hS158 => ?_
                  obtain ⟨h161, hh162⟩ := OwM.hd h8 hx160
                  refine st_val hS158 rfl rfl rfl (r_index (e := 74) (sz := 1) (by_ := 24) hS158 rfl rfl rfl (by kernel_rfl) (OwM.some_ h8 hx160) (idx_lo hx160) (idx_hi hx160)) fun a163 hS163 => st_val hS163 rfl rfl rfl (r_load1 (n := 1) hS163 rfl rfl (by kernel_rfl) (OwM.cell h8 hx160 hh162)) fun a164 hS164 => st_val hS164 rfl rfl rfl (r_move hS164 rfl rfl) fun a165 hS165 => st_val hS165 rfl rfl rfl (r_index (e := 4) (sz := 1) (by_ := 1) hS165 rfl rfl rfl (by kernel_rfl) (RdS.some_ (OwD.rd (OwM.row h8 hx160 hh162)) hx167) (idx_lo hx167) (idx_hi hx167)) fun a168 hS168 => ?_
                  refine st_effS hS168 rfl rfl (e_storeMM (n := 1) (bb := false) (k := kbool) (y' := true) (us := [.bool true]) (fun _ _ _ _ _ _ _ _ h => h) g133 hS168 rfl rfl rfl rfl (by kernel_rfl) rfl rfl h8 hx160 hh162 hx167 (fun _ _ _ => rfl)) ?_
                  rintro a169 w170 g170 ⟨h8, F170⟩ hS169
                  replace hF := hF.trans F170 (fun c' (hm : c' = N + 0 + 1) => by show (r0 ≤ c' ∧ c' < r0 + 2) ∨ N ≤ c'; omega)
                  have hT : Sl 80 a169 [(0, .int .i64 p0), (5, .slice A5 m4_0.length cap6), (8, .int .i64 m2_1), (9, .int .i64 m3_1), (10, .int .i64 m4_1)] := hS169.re ⟨rfl, rfl, rfl, rfl, rfl, trivial⟩
                  replace hS169 : Sl 80 a169 [(0, .int .i64 p0), (5, .slice A5 (upd m4_0 m3_1 (upd x159 m4_1 true)).length cap6), (8, .int .i64 m2_1), (9, .int .i64 m3_1), (10, .int .i64 m4_1)] := by simpa only [upd_length] using hT
                  clear hT
                  refine wpList_nil (hK _ _ ?_)
                  replace hS : Sl 80 _ [(0, .int .i64 p0), (5, .slice A5 (upd m4_0 m3_1 (upd x159 m4_1 true)).length cap6), (8, .int .i64 m2_1), (9, .int .i64 m3_1), (10, .int .i64 m4_1)] := hS169.re ⟨rfl, rfl, rfl, rfl, rfl, trivial⟩
                  clear hK K
                  try clear hS157 hS158 hS163 hS164 hS165 hS168 hS169
                  obtain ⟨a, ha⟩ : ∃ a', a' = a169 := ⟨_, rfl⟩
                  rw [← ha] at hS ⊢; clear ha
                  have e := Option.some.inj H
                  subst e
                  exact ⟨g170, hS.re ⟨rfl, rfl, rfl, rfl, rfl, trivial⟩, h8, hF⟩
                 ·replace H := ite_f hb156 H
                  refine wp_skip ?_
                  have e := Option.some.inj H
                  subst e
                  exact ⟨g133, hS.re ⟨rfl, rfl, rfl, rfl, rfl, trivial⟩, h8, hF⟩
                ·clear H
                 clear h8 hF
                 clear hS
                 rintro a w139 ⟨g139, hS, h8, hF⟩
                 have H := Hl142
                 clear Hl142
                 refine c_pure1 [(0, .int .i64 p0), (5, .slice A5 v140.length cap6), (8, .int .i64 m2_1), (9, .int .i64 m3_1), (10, .int .i64 (wi (m4_1 + 1)))] (fun R hR => st_val hS rfl rfl rfl (r_move hS rfl rfl) fun a171 hS171 => st_val hS171 rfl rfl rfl (r_bin hS171 rfl rfl rfl b_add) fun a172 hS172 => st_val hS172 rfl rfl rfl (r_assign hS172 rfl rfl) fun a173 hS173 => wpList_nil (hR _ (hS173.re ⟨rfl, rfl, rfl, rfl, rfl, trivial⟩))) ?_
                 clear hS
                 clear a
                 intro a hS
                 refine ⟨k134, Nat.lt_succ_self _, ?_⟩
                 exact ⟨v140, wi (m4_1 + 1), g139, H, hS.re ⟨rfl, rfl, rfl, rfl, rfl, trivial⟩, h8, hF⟩
               ·replace H := ite_f hb138 H
                refine wp_exit ?_
                have e := Option.some.inj H
                subst e
                exact ⟨g133, hS.re ⟨rfl, rfl, rfl, rfl, trivial⟩, h8, hF⟩
           ·clear H
            clear h8 hF
            clear hS
            rintro a w113 ⟨g113, hS, h8, hF⟩
            have H := Hl116
            clear Hl116
            refine c_pure1 [(0, .int .i64 p0), (5, .slice A5 v114.length cap6), (8, .int .i64 m2_1), (9, .int .i64 (wi (m3_1 + 1)))] (fun R hR => st_val hS rfl rfl rfl (r_move hS rfl rfl) fun a174 hS174 => st_val hS174 rfl rfl rfl (r_bin hS174 rfl rfl rfl b_add) fun a175 hS175 => st_val hS175 rfl rfl rfl (r_assign hS175 rfl rfl) fun a176 hS176 => wpList_nil (hR _ (hS176.re ⟨rfl, rfl, rfl, rfl, trivial⟩))) ?_
            clear hS
            clear a
            intro a hS
            refine ⟨k108, Nat.lt_succ_self _, ?_⟩
            exact ⟨v114, wi (m3_1 + 1), g113, H, hS.re ⟨rfl, rfl, rfl, rfl, trivial⟩, h8, hF⟩
          ·replace H := ite_f hb112 H
           refine wp_exit ?_
           have e := Option.some.inj H
           subst e
           exact ⟨g107, hS.re ⟨rfl, rfl, rfl, trivial⟩, h8, hF⟩
       ·clear H
        clear h8 hF
        clear hS
        rintro a w102 ⟨g102, hS, h8, hF⟩
        have H := Hl105
        clear Hl105
        refine c_pure1 [(0, .int .i64 p0), (5, .slice A5 v103.length cap6), (8, .int .i64 (wi (m2_1 + 1)))] (fun R hR => st_val hS rfl rfl rfl (r_move hS rfl rfl) fun a177 hS177 => st_val hS177 rfl rfl rfl (r_bin hS177 rfl rfl rfl b_add) fun a178 hS178 => st_val hS178 rfl rfl rfl (r_assign hS178 rfl rfl) fun a179 hS179 => wpList_nil (hR _ (hS179.re ⟨rfl, rfl, rfl, trivial⟩))) ?_
        clear hS
        clear a
        intro a hS
        refine ⟨k97, Nat.lt_succ_self _, ?_⟩
        exact ⟨v103, wi (m2_1 + 1), g102, H, hS.re ⟨rfl, rfl, rfl, trivial⟩, h8, hF⟩
      ·replace H := ite_f hb101 H
       refine wp_exit ?_
       have e := Option.some.inj H
       subst e
       exact ⟨g96, hS.re ⟨rfl, trivial⟩, h8, hF⟩
   ·clear H
    clear h8 hF
    clear hS
    rintro a w91 ⟨g91, hS, h8, hF⟩
    have H := Hl94
    clear Hl94
    refine c_pure [(4, .slice A5 v92.length cap6)] (fun R hR => st_val hS rfl rfl rfl (r_move hS rfl rfl) fun a180 hS180 => st_val hS180 rfl rfl rfl (r_assign hS180 rfl rfl) fun a181 hS181 => wpList_nil (hR _ (hS181.re ⟨rfl, trivial⟩))) ?_
    clear hS
    clear a
    intro a hS
    refine wp_ret ?_
    have e := Option.some.inj H
    subst e
    have h182 := OwM.toS (fun _ _ _ _ _ _ _ _ h => h) (by decide) h8
    have F183 := Fr.recol2 w91 g91 (N + 0) r0
    replace h182 := h182.recol2 r0
    replace hF := hF.trans F183 (fun c' (hm : c' = N + 0 ∨ c' = N + 0 + 1) => by show (r0 ≤ c' ∧ c' < r0 + 2) ∨ N ≤ c'; omega)
    repeat (with_reducible first | refine then_ret ?_ | refine inBlock_ret ?_)
    exact c_ret1 hS Try.results95 rfl ⟨_, rfl, (recol2 g91 (N + 0) r0), A5, cap6, rfl, h182, hF⟩


end Go.Proofs.Ythmjgadmadlpkaa.Sim

namespace Go.Proofs.Ythmjgadmadlpkaa.Sim
open Go
set_option linter.unusedVariables false
set_option linter.unusedSimpArgs false

/-! ### ref24_Check: function 75 -/
def ref24_Check.l0 (p0 : Int) (r16 : (List (List Bool))) : Nat → Int → Option (Fl (Int) (Unit))
 | 0, _ => none
 | k29 + 1, m0_0 => if decide (m0_0 < p0) = true then ((idx r16 m0_0).bind fun x36 => (idx x36 m0_0).bind fun x47 => if x47 = true then (some (.out 18)) else (ref24_Check.l0 p0 r16 k29 (wi (m0_0 + 1)))) else (some (.nxt ()))
def ref24_Check.f (p0 : Int) (p1 : List api_Link) : Option (Int) := (ref24_Basic.f p0 p1).bind fun r4 => if (r4 != 0) = true then (some r4) else ((ref24_Matrix.f p0 p1).bind fun r16 => (ref24_Check.l0 p0 r16 FUEL 0 : Option (Fl (Int) (Unit))).bind fun o26 => o26.go fun _ => some 0)
set_option maxRecDepth 100000 in
set_option maxHeartbeats 4000000 in
theorem ref24_Check.calls {p0 : Int} {p1 : List api_Link} {A1 : Option Addr} {cap1 : Nat} {C1 : Nat → Prop} {w : World} {g : Nat → Nat} {out : Int} (N : Nat) (hp1 : RdS kd_api_Link w g C1 A1 cap1 p1) (hC1 : ∀ c, C1 c → c < N) (H : ref24_Check.f p0 p1 = some out) :
  Calls Try.prog 75 #[.int .i64 p0, .slice A1 p1.length cap1] w (fun e w' => ∃ v, e = .returned v ∧ ∃ (g' : Nat → Nat), v = .int .i64 out ∧ Fr (fun q => N ≤ q) w g w' g') := by
 unfold ref24_Check.f at H
 refine calls_enter Try.func75 rfl Try.ntmps75 rfl (fun a hS => ?_)
 replace hS : Sl 29 a [(0, .int .i64 p0), (1, .slice A1 p1.length cap1)] := hS
 have hF : Fr (fun q => N ≤ q) w g w g := Fr.refl _ _ _
 refine c_pure [(0, .int .i64 p0), (1, .slice A1 p1.length cap1)] (fun R hR => st_val hS rfl rfl rfl (r_assign hS rfl rfl) fun a1 hS1 => wpList_nil (hR _ (hS1.re ⟨rfl, rfl, trivial⟩))) ?_
 clear hS
 clear a
 intro a hS
 refine wp_seq ?_
 obtain ⟨r4, hr5, H⟩ := bind_el H
 refine c_region (fun K hK => ?_)
 refine st_val hS rfl rfl rfl (r_move hS rfl rfl) fun a2 hS2 => st_val hS2 rfl rfl rfl (r_move hS2 rfl rfl) fun a3 hS3 => ?_
 refine st_enter hS3 rfl rfl rfl (r_call hS3 rfl rfl (by kernel_rfl)) (ref24_Basic.calls (C1 := C1) (p0 := p0) (p1 := p1) (g := g) (N + 2)  hp1 (fun q (hq : C1 q) => by have := hC1 q hq; omega) hr5) ?_
 rintro _ a6 w7 ⟨g7, rfl, F7⟩ hS6
 replace hp1 := RdS.fr hp1 F7 (by decide) (fun q (hq : C1 q) (hm : N + 2 ≤ q) => by have := hC1 q hq; omega)
 replace hF := hF.trans F7 (fun c' (hm : N + 2 ≤ c') => by show N ≤ c'; omega)
 refine st_val hS6 rfl rfl rfl (r_assign hS6 rfl rfl) fun a8 hS8 => wpList_nil (hK _ _ ?_)
 replace hS : Sl 29 _ [(0, .int .i64 p0), (1, .slice A1 p1.length cap1), (5, .int .i64 r4)] := hS8.re ⟨rfl, rfl, rfl, trivial⟩
 clear hK K
 try clear hS2 hS3 hS6 hS8
 obtain ⟨a, ha⟩ : ∃ a', a' = a8 := ⟨_, rfl⟩
 rw [← ha] at hS ⊢; clear ha
 refine c_pure [(0, .int .i64 p0), (1, .slice A1 p1.length cap1), (5, .int .i64 r4), (12, .bool (r4 != 0))] (fun R hR => st_val hS rfl rfl rfl (r_move hS rfl rfl) fun a9 hS9 => st_val hS9 rfl rfl rfl (r_bin hS9 rfl rfl rfl b_neq) fun a10 hS10 => wpList_nil (hR _ (hS10.re ⟨rfl, rfl, rfl, rfl, trivial⟩))) ?_
 clear hS
 clear a
 intro a hS
 refine c_cond hS rfl (fun hb11 => ?_) (fun hb11 => ?_)
 ·replace H := ite_t hb11 H
  refine c_pure [(4, .int .i64 r4)] (fun R hR => st_val hS rfl rfl rfl (r_move hS rfl rfl) fun a12 hS12 => st_val hS12 rfl rfl rfl (r_assign hS12 rfl rfl) fun a13 hS13 => wpList_nil (hR _ (hS13.re ⟨rfl, trivial⟩))) ?_
  clear hS
  clear a
  intro a hS
  refine wp_ret ?_
  have e := Option.some.inj H
  subst e
  repeat (with_reducible first | refine then_ret ?_ | refine inBlock_ret ?_)
  exact c_ret1 hS Try.results75 rfl ⟨_, rfl, g7, rfl, hF⟩
 ·replace H := ite_f hb11 H
  refine wp_skip ?_
  change Code.wp _ _ _ _ _
  obtain ⟨r16, hr17, H⟩ := bind_el H
  refine c_region (fun K hK => ?_)
  refine st_val hS rfl rfl rfl (r_move hS rfl rfl) fun a14 hS14 => st_val hS14 rfl rfl rfl (r_move hS14 rfl rfl) fun a15 hS15 => ?_
  refine st_enter hS15 rfl rfl rfl (r_call hS15 rfl rfl (by kernel_rfl)) (ref24_Matrix.calls (C1 := C1) (p0 := p0) (p1 := p1) (g := g7) (N + 2) (N + 0) hp1 (fun q (hq : C1 q) => by have := hC1 q hq; omega) (by omega) hr17) ?_
  rintro _ a22 w23 ⟨g23, A18, cap19, rfl, h20, F23⟩ hS22
  replace hp1 := RdS.fr hp1 F23 (by decide) (fun q (hq : C1 q) (hm : (N + 0 ≤ q ∧ q < N + 0 + 2) ∨ N + 2 ≤ q) => by have := hC1 q hq; omega)
  replace hF := hF.trans F23 (fun c' (hm : (N + 0 ≤ c' ∧ c' < N + 0 + 2) ∨ N + 2 ≤ c') => by show N ≤ c'; omega)
  refine st_val hS22 rfl rfl rfl (r_assign hS22 rfl rfl) fun a24 hS24 => wpList_nil (hK _ _ ?_)
  replace hS : Sl 29 _ [(0, .int .i64 p0), (6, .slice A18 r16.length cap19)] := hS24.re ⟨rfl, rfl, trivial⟩
  clear hK K
  try clear hS14 hS15 hS22 hS24
  obtain ⟨a, ha⟩ : ∃ a', a' = a24 := ⟨_, rfl⟩
  rw [← ha] at hS ⊢; clear ha
  obtain ⟨o26, H, Hl27⟩ := bind_el H
  refine c_cut (fun a w' => o26 = .nxt () ∧ w23 = w' ∧ Sl 29 a []) ?_ ?_
  ·refine c_pure [(0, .int .i64 p0), (6, .slice A18 r16.length cap19), (7, .int .i64 0)] (fun R hR => st_val hS rfl rfl rfl (r_assign hS rfl rfl) fun a28 hS28 => wpList_nil (hR _ (hS28.re ⟨rfl, rfl, rfl, trivial⟩))) ?_
   clear hS
   clear a
   intro a hS
   refine wp_block ?_
   refine wp_loop_ghost (fun kq => fun a w' => ∃ (m0_0 : Int), ref24_Check.l0 p0 r16 kq m0_0 = some o26 ∧ w23 = w' ∧ Sl 29 a [(0, .int .i64 p0), (6, .slice A18 r16.length cap19), (7, .int .i64 m0_0)]) FUEL ?_ ?_
   ·exact ⟨0, H, rfl, hS.re ⟨rfl, rfl, rfl, trivial⟩⟩
   ·clear H
    clear hS
    rintro k29 a w' ⟨m0_0, hpre0, hw, hS⟩
    subst hw
    have H := hpre0
    clear hpre0
    cases k29 with
    | zero => exact absurd H (by simp [ref24_Check.l0])
    | succ k29 =>
     rw [ref24_Check.l0] at H
     refine wp_seq ?_
     refine c_pure [(0, .int .i64 p0), (6, .slice A18 r16.length cap19), (7, .int .i64 m0_0), (19, .bool (decide (m0_0 < p0)))] (fun R hR => st_val hS rfl rfl rfl (r_move hS rfl rfl) fun a30 hS30 => st_val hS30 rfl rfl rfl (r_move hS30 rfl rfl) fun a31 hS31 => st_val hS31 rfl rfl rfl (r_bin hS31 rfl rfl rfl b_lss) fun a32 hS32 => wpList_nil (hR _ (hS32.re ⟨rfl, rfl, rfl, rfl, trivial⟩))) ?_
     clear hS
     clear a
     intro a hS
     refine c_cond hS rfl (fun hb33 => ?_) (fun hb33 => ?_)
     ·replace H := ite_t hb33 H
      refine wp_skip ?_
      change Code.wp _ _ _ _ _
      refine wp_seq ?_
      refine wp_block ?_
      obtain ⟨x36, hx37, H⟩ := bind_el H
      obtain ⟨x47, hx48, H⟩ := bind_el H
      refine c_region (fun K hK => ?_)
      refine st_val hS rfl rfl rfl (r_move hS rfl rfl) fun a34 hS34 => st_val hS34 rfl rfl rfl (r_move hS34 rfl rfl) fun a35 hS35 => ?_
      obtain ⟨_, ⟨A39, cap40, rfl, h41⟩, hel38⟩ := El.of (OwD.rdx h20) hx37 (by decide)
      replace hel38 : El w23 g23 (fun q => q = N + 0) A18 (m0_0.toNat * 1) [.slice A39 x36.length cap40] := hel38
      refine st_val hS35 rfl rfl rfl (r_index (e := 74) (sz := 1) (by_ := 24) hS35 rfl rfl rfl (by kernel_rfl) (RdS.some_ (OwS.rd h20) hx37) (idx_lo hx37) (idx_hi hx37)) fun a44 hS44 => st_val hS44 rfl rfl rfl (r_load1 (n := 1) hS44 rfl rfl (by kernel_rfl) (El.cell (j := 0) hel38 rfl)) fun a45 hS45 => st_val hS45 rfl rfl rfl (r_move hS45 rfl rfl) fun a46 hS46 => st_val hS46 rfl rfl rfl (r_index (e := 4) (sz := 1) (by_ := 1) hS46 rfl rfl rfl (by kernel_rfl) (RdS.some_ h41 hx48) (idx_lo hx48) (idx_hi hx48)) fun a49 hS49 => st_val hS49 rfl rfl rfl (r_load1 (n := 1) hS49 rfl rfl (by kernel_rfl) (RdS.cell (i := m0_0) (sz := 1) (j := 0) h41 hx48 rfl)) fun a50 hS50 => wpList_nil (hK _ _ ?_)
      replace hS : Sl 29 _ [(0, .int .i64 p0), (6, .slice A18 r16.length cap19), (7, .int .i64 m0_0), (28, .bool x47)] := hS50.re ⟨rfl, rfl, rfl, rfl, trivial⟩
      clear hK K
      try clear hS34 hS35 hS44 hS45 hS46 hS49 hS50
      obtain ⟨a, ha⟩ : ∃ a', a' = a50 := ⟨_, rfl⟩
      rw [← ha] at hS ⊢; clear ha
      refine c_cond hS rfl (fun hb51 => ?_) (fun hb51 => ?_)
      ·replace H := ite_t hb51 H
       refine c_pure [(4, .int .i64 18)] (fun R hR => st_val hS rfl rfl rfl (r_assign hS rfl rfl) fun a52 hS52 => wpList_nil (hR _ (hS52.re ⟨rfl, trivial⟩))) ?_
       clear hS
       clear a
       intro a hS
       refine wp_ret ?_
       have e := Option.some.inj H
       subst e
       replace H := Fl.go_out Hl27
       have e := Option.some.inj H
       subst e
       repeat (with_reducible first | refine then_ret ?_ | refine inBlock_ret ?_)
       exact c_ret1 hS Try.results75 rfl ⟨_, rfl, g23, rfl, hF⟩
      ·replace H := ite_f hb51 H
       refine wp_skip ?_
       change Code.wp _ _ _ _ _
       refine c_pure1 [(0, .int .i64 p0), (6, .slice A18 r16.length cap19), (7, .int .i64 (wi (m0_0 + 1)))] (fun R hR => st_val hS rfl rfl rfl (r_move hS rfl rfl) fun a53 hS53 => st_val hS53 rfl rfl rfl (r_bin hS53 rfl rfl rfl b_add) fun a54 hS54 => st_val hS54 rfl rfl rfl (r_assign hS54 rfl rfl) fun a55 hS55 => wpList_nil (hR _ (hS55.re ⟨rfl, rfl, rfl, trivial⟩))) ?_
       clear hS
       clear a
       intro a hS
       refine ⟨k29, Nat.lt_succ_self _, ?_⟩
       exact ⟨wi (m0_0 + 1), H, rfl, hS.re ⟨rfl, rfl, rfl, trivial⟩⟩
     ·replace H := ite_f hb33 H
      refine wp_exit ?_
      have e := Option.some.inj H
      exact ⟨e.symm, rfl, hS.re trivial⟩
  ·clear H
   clear hS
   rintro a w' ⟨hpre0, hw, hS⟩
   subst hpre0
   subst hw
   have H := Fl.go_nxt Hl27
   clear Hl27
   refine c_pure [(4, .int .i64 0)] (fun R hR => st_val hS rfl rfl rfl (r_assign hS rfl rfl) fun a56 hS56 => wpList_nil (hR _ (hS56.re ⟨rfl, trivial⟩))) ?_
   clear hS
   clear a
   intro a hS
   refine wp_ret ?_
   have e := Option.some.inj H
   subst e
   repeat (with_reducible first | refine then_ret ?_ | refine inBlock_ret ?_)
   exact c_ret1 hS Try.results75 rfl ⟨_, rfl, g23, rfl, hF⟩


end Go.Proofs.Ythmjgadmadlpkaa.Sim

namespace Go.Proofs.Ythmjgadmadlpkaa.Sim
open Go
set_option linter.unusedVariables false
set_option linter.unusedSimpArgs false

/-! ### ref31_input: function 39 -/
def ref31_input.l0 (p0 : Int) (p2 : List Int) : Nat → Int → Option (Fl (Int) (Unit))
 | 0, _ => none
 | k46 + 1, m0_0 => if decide (m0_0 < p0) = true then ((idx p2 m0_0).bind fun x53 => if decide (9007199254740992 < x53) = true then (some (.out 1)) else (ref31_input.l0 p0 p2 k46 (wi (m0_0 + 1)))) else (some (.nxt ()))
def ref31_input.f (p0 : Int) (p1 : List api_Link) (p2 : List Int) (p3 : Int) : Option (Int) := (ref24_Check.f p0 p1).bind fun r4 => if (r4 != 0) = true then (some r4) else (if ((((p2.length : Int) != p0) || (decide (p3 < 0))) || (decide (16 < p3))) = true then (some 1) else ((ref31_input.l0 p0 p2 FUEL 0 : Option (Fl (Int) (Unit))).bind fun o43 => o43.go fun _ => some 0))
set_option maxRecDepth 100000 in
set_option maxHeartbeats 4000000 in
theorem ref31_input.calls {p0 : Int} {p1 : List api_Link} {A1 : Option Addr} {cap1 : Nat} {C1 : Nat → Prop} {p2 : List Int} {A2 : Option Addr} {cap2 : Nat} {C2 : Nat → Prop} {p3 : Int} {w : World} {g : Nat → Nat} {out : Int} (N : Nat) (hp1 : RdS kd_api_Link w g C1 A1 cap1 p1) (hC1 : ∀ c, C1 c → c < N) (hp2 : RdS (kint .u64) w g C2 A2 cap2 p2) (hC2 : ∀ c, C2 c → c < N) (H : ref31_input.f p0 p1 p2 p3 = some out) :
  Calls Try.prog 39 #[.int .i64 p0, .slice A1 p1.length cap1, .slice A2 p2.length cap2, .int .i64 p3] w (fun e w' => ∃ v, e = .returned v ∧ ∃ (g' : Nat → Nat), v = .int .i64 out ∧ Fr (fun q => N ≤ q) w g w' g') := by
 unfold ref31_input.f at H
 refine calls_enter Try.func39 rfl Try.ntmps39 rfl (fun a hS => ?_)
 replace hS : Sl 39 a [(0, .int .i64 p0), (1, .slice A1 p1.length cap1), (2, .slice A2 p2.length cap2), (3, .int .i64 p3)] := hS
 have hF : Fr (fun q => N ≤ q) w g w g := Fr.refl _ _ _
 refine c_pure [(0, .int .i64 p0), (1, .slice A1 p1.length cap1), (2, .slice A2 p2.length cap2), (3, .int .i64 p3)] (fun R hR => st_val hS rfl rfl rfl (r_assign hS rfl rfl) fun a1 hS1 => wpList_nil (hR _ (hS1.re ⟨rfl, rfl, rfl, rfl, trivial⟩))) ?_
 clear hS
 clear a
 intro a hS
 refine wp_seq ?_
 obtain ⟨r4, hr5, H⟩ := bind_el H
 refine c_region (fun K hK => ?_)
 refine st_val hS rfl rfl rfl (r_move hS rfl rfl) fun a2 hS2 => st_val hS2 rfl rfl rfl (r_move hS2 rfl rfl) fun a3 hS3 => ?_
 refine st_enter hS3 rfl rfl rfl (r_call hS3 rfl rfl (by kernel_rfl)) (ref24_Check.calls (C1 := C1) (p0 := p0) (p1 := p1) (g := g) (N + 0)  hp1 (fun q (hq : C1 q) => by have := hC1 q hq; omega) hr5) ?_
 rintro _ a6 w7 ⟨g7, rfl, F7⟩ hS6
 replace hp1 := RdS.fr hp1 F7 (by decide) (fun q (hq : C1 q) (hm : N + 0 ≤ q) => by have := hC1 q hq; omega)
 replace hp2 := RdS.fr hp2 F7 (by decide) (fun q (hq : C2 q) (hm : N + 0 ≤ q) => by have := hC2 q hq; omega)
 replace hF := hF.trans F7 (fun c' (hm : N + 0 ≤ c') => by show N ≤ c'; omega)
 refine st_val hS6 rfl rfl rfl (r_assign hS6 rfl rfl) fun a8 hS8 => wpList_nil (hK _ _ ?_)
 replace hS : Sl 39 _ [(0, .int .i64 p0), (2, .slice A2 p2.length cap2), (3, .int .i64 p3), (9, .int .i64 r4)] := hS8.re ⟨rfl, rfl, rfl, rfl, trivial⟩
 clear hK K
 try clear hS2 hS3 hS6 hS8
 obtain ⟨a, ha⟩ : ∃ a', a' = a8 := ⟨_, rfl⟩
 rw [← ha] at hS ⊢; clear ha
 refine c_pure [(0, .int .i64 p0), (2, .slice A2 p2.length cap2), (3, .int .i64 p3), (9, .int .i64 r4), (15, .bool (r4 != 0))] (fun R hR => st_val hS rfl rfl rfl (r_move hS rfl rfl) fun a9 hS9 => st_val hS9 rfl rfl rfl (r_bin hS9 rfl rfl rfl b_neq) fun a10 hS10 => wpList_nil (hR _ (hS10.re ⟨rfl, rfl, rfl, rfl, rfl, trivial⟩))) ?_
 clear hS
 clear a
 intro a hS
 refine c_cond hS rfl (fun hb11 => ?_) (fun hb11 => ?_)
 ·replace H := ite_t hb11 H
  refine c_pure [(8, .int .i64 r4)] (fun R hR => st_val hS rfl rfl rfl (r_move hS rfl rfl) fun a12 hS12 => st_val hS12 rfl rfl rfl (r_assign hS12 rfl rfl) fun a13 hS13 => wpList_nil (hR _ (hS13.re ⟨rfl, trivial⟩))) ?_
  clear hS
  clear a
  intro a hS
  refine wp_ret ?_
  have e := Option.some.inj H
  subst e
  repeat (with_reducible first | refine then_ret ?_ | refine inBlock_ret ?_)
  exact c_ret1 hS Try.results39 rfl ⟨_, rfl, g7, rfl, hF⟩
 ·replace H := ite_f hb11 H
  refine wp_skip ?_
  change Code.wp _ _ _ _ _
  refine wp_seq ?_
  refine c_region (fun K hK => ?_)
  refine st_val hS rfl rfl rfl (r_move hS rfl rfl) fun a14 hS14 => st_val hS14 rfl rfl rfl (r_len (e := 33) (sz := 1) (by_ := 8) hS14 rfl rfl (by kernel_rfl)) fun a15 hS15 => st_val hS15 rfl rfl rfl (r_move hS15 rfl rfl) fun a16 hS16 => st_val hS16 rfl rfl rfl (r_bin hS16 rfl rfl rfl b_neq) fun a17 hS17 => st_val hS17 rfl rfl rfl (r_move hS17 rfl rfl) fun a18 hS18 => ?_
  refine g_join (N := 39) 3 [(0, .int .i64 p0), (2, .slice A2 p2.length cap2), (3, .int .i64 p3), (24, .bool (((p2.length : Int) != p0) || (decide (p3 < 0))))] ?_ (fun hk => ?_)
  rotate_left
  ·rcases Bool.eq_false_or_eq_true (((p2.length : Int) != p0)) with hb19 | hb19
   ·refine st_off hS18 (want_off hS18 rfl rfl rfl hb19) rfl rfl fun a22 hS22 => st_off hS22 (want_off hS22 rfl rfl rfl hb19) rfl rfl fun a23 hS23 => st_val hS23 rfl rfl rfl (r_pickT hS23 rfl rfl rfl hb19) fun a24 hS24 => hk _ (hS24.re ⟨rfl, rfl, rfl, (by rw [hb19]; rfl), trivial⟩)
   ·refine st_valW hS18 (want_on hS18 rfl rfl rfl hb19) rfl rfl (r_move hS18 rfl rfl) fun a25 hS25 => st_valW hS25 (want_on hS25 rfl rfl rfl hb19) rfl rfl (r_bin hS25 rfl rfl rfl b_lss) fun a26 hS26 => st_val hS26 rfl rfl rfl (r_pickF hS26 rfl rfl rfl hb19) fun a27 hS27 => hk _ (hS27.re ⟨rfl, rfl, rfl, (by rw [hb19]; rfl), trivial⟩)
  intro a28 hS28
  refine st_val hS28 rfl rfl rfl (r_move hS28 rfl rfl) fun a29 hS29 => ?_
  refine g_join (N := 39) 3 [(0, .int .i64 p0), (2, .slice A2 p2.length cap2), (28, .bool ((((p2.length : Int) != p0) || (decide (p3 < 0))) || (decide (16 < p3))))] ?_ (fun hk => ?_)
  rotate_left
  ·rcases Bool.eq_false_or_eq_true ((((p2.length : Int) != p0) || (decide (p3 < 0)))) with hb30 | hb30
   ·refine st_off hS29 (want_off hS29 rfl rfl rfl hb30) rfl rfl fun a33 hS33 => st_off hS33 (want_off hS33 rfl rfl rfl hb30) rfl rfl fun a34 hS34 => st_val hS34 rfl rfl rfl (r_pickT hS34 rfl rfl rfl hb30) fun a35 hS35 => hk _ (hS35.re ⟨rfl, rfl, (by rw [hb30]; rfl), trivial⟩)
   ·refine st_valW hS29 (want_on hS29 rfl rfl rfl hb30) rfl rfl (r_move hS29 rfl rfl) fun a36 hS36 => st_valW hS36 (want_on hS36 rfl rfl rfl hb30) rfl rfl (r_bin hS36 rfl rfl rfl b_gtr) fun a37 hS37 => st_val hS37 rfl rfl rfl (r_pickF hS37 rfl rfl rfl hb30) fun a38 hS38 => hk _ (hS38.re ⟨rfl, rfl, (by rw [hb30]; rfl), trivial⟩)
  intro a39 hS39
  refine wpList_nil (hK _ _ ?_)
  replace hS : Sl 39 _ [(0, .int .i64 p0), (2, .slice A2 p2.length cap2), (28, .bool ((((p2.length : Int) != p0) || (decide (p3 < 0))) || (decide (16 < p3))))] := hS39.re ⟨rfl, rfl, rfl, trivial⟩
  clear hK K
  try clear hS14 hS15 hS16 hS17 hS18 hS28 hS29 hS39
  obtain ⟨a, ha⟩ : ∃ a', a' = a39 := ⟨_, rfl⟩
  rw [← ha] at hS ⊢; clear ha
  refine c_cond hS rfl (fun hb40 => ?_) (fun hb40 => ?_)
  ·replace H := ite_t hb40 H
   refine c_pure [(8, .int .i64 1)] (fun R hR => st_val hS rfl rfl rfl (r_assign hS rfl rfl) fun a41 hS41 => wpList_nil (hR _ (hS41.re ⟨rfl, trivial⟩))) ?_
   clear hS
   clear a
   intro a hS
   refine wp_ret ?_
   have e := Option.some.inj H
   subst e
   repeat (with_reducible first | refine then_ret ?_ | refine inBlock_ret ?_)
   exact c_ret1 hS Try.results39 rfl ⟨_, rfl, g7, rfl, hF⟩
  ·replace H := ite_f hb40 H
   refine wp_skip ?_
   change Code.wp _ _ _ _ _
   obtain ⟨o43, H, Hl44⟩ := bind_el H
   refine c_cut (fun a w' => o43 = .nxt () ∧ w7 = w' ∧ Sl 39 a []) ?_ ?_
   ·refine c_pure [(0, .int .i64 p0), (2, .slice A2 p2.length cap2), (10, .int .i64 0)] (fun R hR => st_val hS rfl rfl rfl (r_assign hS rfl rfl) fun a45 hS45 => wpList_nil (hR _ (hS45.re ⟨rfl, rfl, rfl, trivial⟩))) ?_
    clear hS
    clear a
    intro a hS
    refine wp_block ?_
    refine wp_loop_ghost (fun kq => fun a w' => ∃ (m0_0 : Int), ref31_input.l0 p0 p2 kq m0_0 = some o43 ∧ w7 = w' ∧ Sl 39 a [(0, .int .i64 p0), (2, .slice A2 p2.length cap2), (10, .int .i64 m0_0)]) FUEL ?_ ?_
    ·exact ⟨0, H, rfl, hS.re ⟨rfl, rfl, rfl, trivial⟩⟩
    ·clear H
     clear hS
     rintro k46 a w' ⟨m0_0, hpre0, hw, hS⟩
     subst hw
     have H := hpre0
     clear hpre0
     cases k46 with
     | zero => exact absurd H (by simp [ref31_input.l0])
     | succ k46 =>
      rw [ref31_input.l0] at H
      refine wp_seq ?_
      refine c_pure [(0, .int .i64 p0), (2, .slice A2 p2.length cap2), (10, .int .i64 m0_0), (31, .bool (decide (m0_0 < p0)))] (fun R hR => st_val hS rfl rfl rfl (r_move hS rfl rfl) fun a47 hS47 => st_val hS47 rfl rfl rfl (r_move hS47 rfl rfl) fun a48 hS48 => st_val hS48 rfl rfl rfl (r_bin hS48 rfl rfl rfl b_lss) fun a49 hS49 => wpList_nil (hR _ (hS49.re ⟨rfl, rfl, rfl, rfl, trivial⟩))) ?_
      clear hS
      clear a
      intro a hS
      refine c_cond hS rfl (fun hb50 => ?_) (fun hb50 => ?_)
      ·replace H := ite_t hb50 H
       refine wp_skip ?_
       change Code.wp _ _ _ _ _
       refine wp_seq ?_
       refine wp_block ?_
       obtain ⟨x53, hx54, H⟩ := bind_el H
       refine c_pure [(0, .int .i64 p0), (2, .slice A2 p2.length cap2), (10, .int .i64 m0_0), (38, .bool (decide (9007199254740992 < x53)))] (fun R hR => st_val hS rfl rfl rfl (r_move hS rfl rfl) fun a51 hS51 => st_val hS51 rfl rfl rfl (r_move hS51 rfl rfl) fun a52 hS52 => st_val hS52 rfl rfl rfl (r_index (e := 33) (sz := 1) (by_ := 8) hS52 rfl rfl rfl (by kernel_rfl) (RdS.some_ hp2 hx54) (idx_lo hx54) (idx_hi hx54)) fun a55 hS55 => st_val hS55 rfl rfl rfl (r_load1 (n := 1) hS55 rfl rfl (by kernel_rfl) (RdS.cell (i := m0_0) (sz := 1) (j := 0) hp2 hx54 rfl)) fun a56 hS56 => st_val hS56 rfl rfl rfl (r_bin hS56 rfl rfl rfl b_gtr) fun a57 hS57 => wpList_nil (hR _ (hS57.re ⟨rfl, rfl, rfl, rfl, trivial⟩))) ?_
       clear hS
       clear a
       intro a hS
       refine c_cond hS rfl (fun hb58 => ?_) (fun hb58 => ?_)
       ·replace H := ite_t hb58 H
        refine c_pure [(8, .int .i64 1)] (fun R hR => st_val hS rfl rfl rfl (r_assign hS rfl rfl) fun a59 hS59 => wpList_nil (hR _ (hS59.re ⟨rfl, trivial⟩))) ?_
        clear hS
        clear a
        intro a hS
        refine wp_ret ?_
        have e := Option.some.inj H
        subst e
        replace H := Fl.go_out Hl44
        have e := Option.some.inj H
        subst e
        repeat (with_reducible first | refine then_ret ?_ | refine inBlock_ret ?_)
        exact c_ret1 hS Try.results39 rfl ⟨_, rfl, g7, rfl, hF⟩
       ·replace H := ite_f hb58 H
        refine wp_skip ?_
        change Code.wp _ _ _ _ _
        refine c_pure1 [(0, .int .i64 p0), (2, .slice A2 p2.length cap2), (10, .int .i64 (wi (m0_0 + 1)))] (fun R hR => st_val hS rfl rfl rfl (r_move hS rfl rfl) fun a60 hS60 => st_val hS60 rfl rfl rfl (r_bin hS60 rfl rfl rfl b_add) fun a61 hS61 => st_val hS61 rfl rfl rfl (r_assign hS61 rfl rfl) fun a62 hS62 => wpList_nil (hR _ (hS62.re ⟨rfl, rfl, rfl, trivial⟩))) ?_
        clear hS
        clear a
        intro a hS
        refine ⟨k46, Nat.lt_succ_self _, ?_⟩
        exact ⟨wi (m0_0 + 1), H, rfl, hS.re ⟨rfl, rfl, rfl, trivial⟩⟩
      ·replace H := ite_f hb50 H
       refine wp_exit ?_
       have e := Option.some.inj H
       exact ⟨e.symm, rfl, hS.re trivial⟩
   ·clear H
    clear hS
    rintro a w' ⟨hpre0, hw, hS⟩
    subst hpre0
    subst hw
    have H := Fl.go_nxt Hl44
    clear Hl44
    refine c_pure [(8, .int .i64 0)] (fun R hR => st_val hS rfl rfl rfl (r_assign hS rfl rfl) fun a63 hS63 => wpList_nil (hR _ (hS63.re ⟨rfl, trivial⟩))) ?_
    clear hS
    clear a
    intro a hS
    refine wp_ret ?_
    have e := Option.some.inj H
    subst e
    repeat (with_reducible first | refine then_ret ?_ | refine inBlock_ret ?_)
    exact c_ret1 hS Try.results39 rfl ⟨_, rfl, g7, rfl, hF⟩


end Go.Proofs.Ythmjgadmadlpkaa.Sim

namespace Go.Proofs.Ythmjgadmadlpkaa.Sim
open Go
set_option linter.unusedVariables false
set_option linter.unusedSimpArgs false

/-! ### ref31_plan_free: function 41 -/
def ref31_plan_free.l1 (p0 : ref31_plan) (m0_0 : Int) : Nat → Bool → Int → Option (Bool)
 | 0, _, _ => none
 | k24 + 1, m1_0, m1_1 => if decide (m1_1 < (p0.slots.length : Int)) = true then ((if m1_0 = true then (idx p0.slots m1_1).bind fun x42 => some ((x42.Worker != m0_0) || (decide (x42.End ≤ p0.now))) else some false).bind fun t93 => ref31_plan_free.l1 p0 m0_0 k24 t93 (wi (m1_1 + 1))) else (some m1_0)
def ref31_plan_free.l0 (p0 : ref31_plan) (p1 : Int) : Nat → Int → Option (Fl (Int) (Unit))
 | 0, _ => none
 | k8 + 1, m0_0 => if decide (m0_0 < p1) = true then (((ref31_plan_free.l1 p0 m0_0 FUEL true 0 : Option (Bool)).bind fun v19 => if v19 = true then (some (.out (.out m0_0))) else (some (.nxt ())) : Option (Fl (Fl (Int) (Unit)) (Unit))).bind fun o15 => o15.go fun _ => ref31_plan_free.l0 p0 p1 k8 (wi (m0_0 + 1))) else (some (.nxt ()))
def ref31_plan_free.f (p0 : ref31_plan) (p1 : Int) : Option (Int) := (ref31_plan_free.l0 p0 p1 FUEL 0 : Option (Fl (Int) (Unit))).bind fun o4 => o4.go fun _ => some (-1)
set_option maxRecDepth 100000 in
set_option maxHeartbeats 4000000 in
theorem ref31_plan_free.calls {p0 : ref31_plan} {c0 : Nat} {C_links_p0 : Nat → Prop} {b_p0 : Nat} {A_links_p0 : Option Addr} {cap_links_p0 : Nat} {A_slots_p0 : Option Addr} {cap_slots_p0 : Nat} {A_at_p0 : Option Addr} {cap_at_p0 : Nat} {p1 : Int} {w : World} {g : Nat → Nat} {out : Int} (N : Nat) (hp0 : ref31_plan_At w g c0 C_links_p0 b_p0 A_links_p0 cap_links_p0 A_slots_p0 cap_slots_p0 A_at_p0 cap_at_p0 p0) (hc0 : c0 + 5 ≤ N) (hC_links_p0 : ∀ c, C_links_p0 c → c < N ∧ (c < c0 ∨ c0 + 5 ≤ c)) (H : ref31_plan_free.f p0 p1 = some out) :
  Calls Try.prog 41 #[.pointer (some ⟨b_p0, 0, none⟩), .int .i64 p1] w (fun e w' => ∃ v, e = .returned v ∧ ∃ (g' : Nat → Nat), v = .int .i64 out ∧ Fr (fun q => N ≤ q) w g w' g') := by
 unfold ref31_plan_free.f at H
 refine calls_enter Try.func41 rfl Try.ntmps41 rfl (fun a hS => ?_)
 replace hS : Sl 52 a [(0, .pointer (some ⟨b_p0, 0, none⟩)), (1, .int .i64 p1)] := hS
 have hF : Fr (fun q => N ≤ q) w g w g := Fr.refl _ _ _
 obtain ⟨hb0, hf0_links, hf0_slots, hf0_at⟩ := hp0
 refine c_pure [(0, .pointer (some ⟨b_p0, 0, none⟩)), (1, .int .i64 p1)] (fun R hR => st_val hS rfl rfl rfl (r_assign hS rfl rfl) fun a1 hS1 => wpList_nil (hR _ (hS1.re ⟨rfl, rfl, trivial⟩))) ?_
 clear hS
 clear a
 intro a hS
 obtain ⟨o4, H, Hl5⟩ := bind_el H
 refine c_cut (fun a w2 => ∃ (g2 : Nat → Nat), o4 = .nxt () ∧ Sl 52 a [] ∧ Bx w2 g2 (c0) b_p0 80 [.slice A_links_p0 p0.links.length cap_links_p0, .slice A_slots_p0 p0.slots.length cap_slots_p0, .slice A_at_p0 p0.at_.length cap_at_p0, .int .u64 p0.now] ∧ OwS (kint .i64) 3 w2 g2 (c0 + 3) A_at_p0 cap_at_p0 p0.at_ ∧ RdS kd_api_Link w2 g2 C_links_p0 A_links_p0 cap_links_p0 p0.links ∧ OwS kd_api_Slot 38 w2 g2 (c0 + 1) A_slots_p0 cap_slots_p0 p0.slots ∧ Fr (fun q => N ≤ q) w g w2 g2) ?_ ?_
 ·refine c_pure [(0, .pointer (some ⟨b_p0, 0, none⟩)), (1, .int .i64 p1), (5, .int .i64 0)] (fun R hR => st_val hS rfl rfl rfl (r_assign hS rfl rfl) fun a6 hS6 => wpList_nil (hR _ (hS6.re ⟨rfl, rfl, rfl, trivial⟩))) ?_
  clear hS
  clear a
  intro a hS
  refine wp_block ?_
  refine wp_loop_ghost (fun kq => fun a w7 => ∃ (m0_0 : Int), ∃ (g7 : Nat → Nat), ref31_plan_free.l0 p0 p1 kq m0_0 = some o4 ∧ Sl 52 a [(0, .pointer (some ⟨b_p0, 0, none⟩)), (1, .int .i64 p1), (5, .int .i64 m0_0)] ∧ Bx w7 g7 (c0) b_p0 80 [.slice A_links_p0 p0.links.length cap_links_p0, .slice A_slots_p0 p0.slots.length cap_slots_p0, .slice A_at_p0 p0.at_.length cap_at_p0, .int .u64 p0.now] ∧ OwS (kint .i64) 3 w7 g7 (c0 + 3) A_at_p0 cap_at_p0 p0.at_ ∧ RdS kd_api_Link w7 g7 C_links_p0 A_links_p0 cap_links_p0 p0.links ∧ OwS kd_api_Slot 38 w7 g7 (c0 + 1) A_slots_p0 cap_slots_p0 p0.slots ∧ Fr (fun q => N ≤ q) w g w7 g7) FUEL ?_ ?_
  ·exact ⟨0, g, H, hS.re ⟨rfl, rfl, rfl, trivial⟩, hb0, hf0_at, hf0_links, hf0_slots, hF⟩
  ·clear H
   clear hf0_links hf0_slots hf0_at hb0 hF
   clear hS
   rintro k8 a w7 ⟨m0_0, g7, hpre0, hS, hb0, hf0_at, hf0_links, hf0_slots, hF⟩
   have H := hpre0
   clear hpre0
   cases k8 with
   | zero => exact absurd H (by simp [ref31_plan_free.l0])
   | succ k8 =>
    rw [ref31_plan_free.l0] at H
    refine wp_seq ?_
    refine c_pure [(0, .pointer (some ⟨b_p0, 0, none⟩)), (1, .int .i64 p1), (5, .int .i64 m0_0), (10, .bool (decide (m0_0 < p1)))] (fun R hR => st_val hS rfl rfl rfl (r_move hS rfl rfl) fun a9 hS9 => st_val hS9 rfl rfl rfl (r_move hS9 rfl rfl) fun a10 hS10 => st_val hS10 rfl rfl rfl (r_bin hS10 rfl rfl rfl b_lss) fun a11 hS11 => wpList_nil (hR _ (hS11.re ⟨rfl, rfl, rfl, rfl, trivial⟩))) ?_
    clear hS
    clear a
    intro a hS
    refine c_cond hS rfl (fun hb12 => ?_) (fun hb12 => ?_)
    ·replace H := ite_t hb12 H
     refine wp_skip ?_
     change Code.wp _ _ _ _ _
     obtain ⟨o15, H, Hl16⟩ := bind_el H
     refine c_cut (fun a w13 => ∃ (g13 : Nat → Nat), o15 = .nxt () ∧ Sl 52 a [(0, .pointer (some ⟨b_p0, 0, none⟩)), (1, .int .i64 p1), (5, .int .i64 m0_0)] ∧ Bx w13 g13 (c0) b_p0 80 [.slice A_links_p0 p0.links.length cap_links_p0, .slice A_slots_p0 p0.slots.length cap_slots_p0, .slice A_at_p0 p0.at_.length cap_at_p0, .int .u64 p0.now] ∧ OwS (kint .i64) 3 w13 g13 (c0 + 3) A_at_p0 cap_at_p0 p0.at_ ∧ RdS kd_api_Link w13 g13 C_links_p0 A_links_p0 cap_links_p0 p0.links ∧ OwS kd_api_Slot 38 w13 g13 (c0 + 1) A_slots_p0 cap_slots_p0 p0.slots ∧ Fr (fun q => N ≤ q) w g w13 g13) ?_ ?_
     ·refine wp_block ?_
      refine c_pure [(0, .pointer (some ⟨b_p0, 0, none⟩)), (1, .int .i64 p1), (5, .int .i64 m0_0), (6, .bool true)] (fun R hR => st_val hS rfl rfl rfl (r_assign hS rfl rfl) fun a17 hS17 => wpList_nil (hR _ (hS17.re ⟨rfl, rfl, rfl, rfl, trivial⟩))) ?_
      clear hS
      clear a
      intro a hS
      obtain ⟨v19, H, Hl21⟩ := bind_el H
      refine c_cut (fun a w18 => ∃ (g18 : Nat → Nat), Sl 52 a [(0, .pointer (some ⟨b_p0, 0, none⟩)), (1, .int .i64 p1), (5, .int .i64 m0_0), (6, .bool v19)] ∧ Bx w18 g18 (c0) b_p0 80 [.slice A_links_p0 p0.links.length cap_links_p0, .slice A_slots_p0 p0.slots.length cap_slots_p0, .slice A_at_p0 p0.at_.length cap_at_p0, .int .u64 p0.now] ∧ OwS (kint .i64) 3 w18 g18 (c0 + 3) A_at_p0 cap_at_p0 p0.at_ ∧ RdS kd_api_Link w18 g18 C_links_p0 A_links_p0 cap_links_p0 p0.links ∧ OwS kd_api_Slot 38 w18 g18 (c0 + 1) A_slots_p0 cap_slots_p0 p0.slots ∧ Fr (fun q => N ≤ q) w g w18 g18) ?_ ?_
      ·refine c_pure [(0, .pointer (some ⟨b_p0, 0, none⟩)), (1, .int .i64 p1), (5, .int .i64 m0_0), (6, .bool true), (7, .int .i64 0)] (fun R hR => st_val hS rfl rfl rfl (r_assign hS rfl rfl) fun a22 hS22 => wpList_nil (hR _ (hS22.re ⟨rfl, rfl, rfl, rfl, rfl, trivial⟩))) ?_
       clear hS
       clear a
       intro a hS
       refine wp_block ?_
       refine wp_loop_ghost (fun kq => fun a w23 => ∃ (m1_0 : Bool), ∃ (m1_1 : Int), ∃ (g23 : Nat → Nat), ref31_plan_free.l1 p0 m0_0 kq m1_0 m1_1 = some v19 ∧ Sl 52 a [(0, .pointer (some ⟨b_p0, 0, none⟩)), (1, .int .i64 p1), (5, .int .i64 m0_0), (6, .bool m1_0), (7, .int .i64 m1_1)] ∧ Bx w23 g23 (c0) b_p0 80 [.slice A_links_p0 p0.links.length cap_links_p0, .slice A_slots_p0 p0.slots.length cap_slots_p0, .slice A_at_p0 p0.at_.length cap_at_p0, .int .u64 p0.now] ∧ OwS (kint .i64) 3 w23 g23 (c0 + 3) A_at_p0 cap_at_p0 p0.at_ ∧ RdS kd_api_Link w23 g23 C_links_p0 A_links_p0 cap_links_p0 p0.links ∧ OwS kd_api_Slot 38 w23 g23 (c0 + 1) A_slots_p0 cap_slots_p0 p0.slots ∧ Fr (fun q => N ≤ q) w g w23 g23) FUEL ?_ ?_
       ·exact ⟨true, 0, g7, H, hS.re ⟨rfl, rfl, rfl, rfl, rfl, trivial⟩, hb0, hf0_at, hf0_links, hf0_slots, hF⟩
       ·clear H
        clear hf0_links hf0_slots hf0_at hb0 hF
        clear hS
        rintro k24 a w23 ⟨m1_0, m1_1, g23, hpre0, hS, hb0, hf0_at, hf0_links, hf0_slots, hF⟩
        have H := hpre0
        clear hpre0
        cases k24 with
        | zero => exact absurd H (by simp [ref31_plan_free.l1])
        | succ k24 =>
         rw [ref31_plan_free.l1] at H
         refine wp_seq ?_
         refine c_pure [(0, .pointer (some ⟨b_p0, 0, none⟩)), (1, .int .i64 p1), (5, .int .i64 m0_0), (6, .bool m1_0), (7, .int .i64 m1_1), (19, .bool (decide (m1_1 < (p0.slots.length : Int))))] (fun R hR => st_val hS rfl rfl rfl (r_move hS rfl rfl) fun a25 hS25 => st_val hS25 rfl rfl rfl (r_move hS25 rfl rfl) fun a26 hS26 => st_val hS26 rfl rfl rfl (r_nil hS26 rfl rfl) fun a27 hS27 => st_val hS27 rfl rfl rfl (r_fieldB (off := 1) hS27 rfl rfl (by kernel_rfl)) fun a28 hS28 => st_val hS28 rfl rfl rfl (r_load1 (n := 1) hS28 rfl rfl (by kernel_rfl) (Bx.cell hb0 rfl)) fun a29 hS29 => st_val hS29 rfl rfl rfl (r_len (e := 38) (sz := 4) (by_ := 32) hS29 rfl rfl (by kernel_rfl)) fun a30 hS30 => st_val hS30 rfl rfl rfl (r_bin hS30 rfl rfl rfl b_lss) fun a31 hS31 => wpList_nil (hR _ (hS31.re ⟨rfl, rfl, rfl, rfl, rfl, rfl, trivial⟩))) ?_
         clear hS
         clear a
         intro a hS
         refine c_cond hS rfl (fun hb32 => ?_) (fun hb32 => ?_)
         ·replace H := ite_t hb32 H
          refine wp_skip ?_
          change Code.wp _ _ _ _ _
          refine wp_seq ?_
          refine wp_block ?_
          obtain ⟨t93, ht94, H⟩ := bind_el H
          refine c_draw1 (fun K hK => d_start (fun q => False) g23 [] 29 #[false, false, false, false, false, false, false, false, false, false, false, false, false, false, false, false, false, false, false, false, false, false, false, false, false, false, false, false, false] (by kernel_rfl) rfl rfl (fun w33 hw33 => ?_))
          have F33 : Fr (fun _ => False) w23 g23 w33 g23 := by rw [hw33]; exact Fr.drew _ _ _
          replace hb0 := hb0.fr F33 (fun h => h)
          replace hf0_at := OwS.fr hf0_at F33 (fun _ _ h => h)
          replace hf0_links := RdS.fr hf0_links F33 (by decide) (fun _ _ h => h)
          replace hf0_slots := OwS.fr hf0_slots F33 (fun _ _ h => h)
          replace hF := hF.trans F33 (fun _ h => h.elim)
          have hC : Fr (fun q => False) w33 g23 w33 g23 := Fr.refl _ _ _
          refine d_pure hS 0 #[true, false, false, false, false, false, false, false, false, false, false, false, false, false, false, false, false, false, false, false, false, false, false, false, false, false, false, false, false] rfl rfl rfl rfl (by kernel_rfl) (fun _ _ _ h => h) (fun _ => (r_move hS rfl rfl)) fun a34 hS34 => d_pure hS34 1 #[true, true, false, false, false, false, false, false, false, false, false, false, false, false, false, false, false, false, false, false, false, false, false, false, false, false, false, false, false] rfl rfl rfl rfl (by kernel_rfl) (fun _ _ _ h => h) (fun _ => (r_move hS34 rfl rfl)) fun a35 hS35 => ?_
          refine d_join (N := 52) 1 #[true, true, true, true, true, true, true, true, true, true, true, true, true, true, true, true, true, true, true, true, true, true, true, true, true, true, true, true, false] [(0, .pointer (some ⟨b_p0, 0, none⟩)), (1, .int .i64 p1), (5, .int .i64 m0_0), (6, .bool m1_0), (7, .int .i64 m1_1), (49, .bool t93)] ?_ (fun hk => ?_)
          rotate_left
          ·rcases Bool.eq_false_or_eq_true (m1_0) with hb36 | hb36
           ·have H := ite_t hb36 ht94
            obtain ⟨x100, hx101, H⟩ := bind_el H
            have e151 := Option.some.inj H
            refine d_pureW hS35 2 #[true, true, true, false, false, false, false, false, false, false, false, false, false, false, false, false, false, false, false, false, false, false, false, false, false, false, false, false, false] rfl (want_on hS35 rfl rfl rfl hb36) rfl rfl (by kernel_rfl) (fun _ _ _ h => h) (fun _ => (r_move hS35 rfl rfl)) fun a95 hS95 => d_pureW hS95 3 #[true, true, true, true, false, false, false, false, false, false, false, false, false, false, false, false, false, false, false, false, false, false, false, false, false, false, false, false, false] rfl (want_on hS95 rfl rfl rfl hb36) rfl rfl (by kernel_rfl) (fun _ _ _ h => h) (fun _ => (r_nil hS95 rfl rfl)) fun a96 hS96 => d_pureW hS96 4 #[true, true, true, true, true, false, false, false, false, false, false, false, false, false, false, false, false, false, false, false, false, false, false, false, false, false, false, false, false] rfl (want_on hS96 rfl rfl rfl hb36) rfl rfl (by kernel_rfl) (fun _ _ _ h => h) (fun _ => (r_fieldB (off := 1) hS96 rfl rfl (by kernel_rfl))) fun a97 hS97 => d_takeW hS97 5 #[true, true, true, true, true, true, false, false, false, false, false, false, false, false, false, false, false, false, false, false, false, false, false, false, false, false, false, false, false] rfl (want_on hS97 rfl rfl rfl hb36) rfl rfl (by kernel_rfl) (fun _ _ _ h => h) ⟨_, hC⟩ (fun w' g' Fz => (r_load1 (n := 1) hS97 rfl rfl (by kernel_rfl) (Bx.cell (hb0.fr Fz (fun h => h)) rfl))) fun a98 hS98 => d_pureW hS98 6 #[true, true, true, true, true, true, true, false, false, false, false, false, false, false, false, false, false, false, false, false, false, false, false, false, false, false, false, false, false] rfl (want_on hS98 rfl rfl rfl hb36) rfl rfl (by kernel_rfl) (fun _ _ _ h => h) (fun _ => (r_move hS98 rfl rfl)) fun a99 hS99 => d_pureW hS99 7 #[true, true, true, true, true, true, true, true, false, false, false, false, false, false, false, false, false, false, false, false, false, false, false, false, false, false, false, false, false] rfl (want_on hS99 rfl rfl rfl hb36) rfl rfl (by kernel_rfl) (fun _ _ _ h => h) (fun _ => (r_index (e := 38) (sz := 4) (by_ := 32) hS99 rfl rfl rfl (by kernel_rfl) (RdS.some_ (OwS.rd hf0_slots) hx101) (idx_lo hx101) (idx_hi hx101))) fun a102 hS102 => d_pureW hS102 8 #[true, true, true, true, true, true, true, true, true, false, false, false, false, false, false, false, false, false, false, false, false, false, false, false, false, false, false, false, false] rfl (want_on hS102 rfl rfl rfl hb36) rfl rfl (by kernel_rfl) (fun _ _ _ h => h) (fun _ => (r_fieldE (off := 1) hS102 rfl rfl (by kernel_rfl))) fun a103 hS103 => d_takeW hS103 9 #[true, true, true, true, true, true, true, true, true, true, false, false, false, false, false, false, false, false, false, false, false, false, false, false, false, false, false, false, false] rfl (want_on hS103 rfl rfl rfl hb36) rfl rfl (by kernel_rfl) (fun _ _ _ h => h) ⟨_, hC⟩ (fun w' g' Fz => (r_load1 (n := 1) hS103 rfl rfl (by kernel_rfl) (RdS.cell (i := m1_1) (sz := 4) (j := 1) (OwS.rd (OwS.fr hf0_slots Fz (fun _ _ h => h))) hx101 rfl))) fun a104 hS104 => d_pureW hS104 10 #[true, true, true, true, true, true, true, true, true, true, true, false, false, false, false, false, false, false, false, false, false, false, false, false, false, false, false, false, false] rfl (want_on hS104 rfl rfl rfl hb36) rfl rfl (by kernel_rfl) (fun _ _ _ h => h) (fun _ => (r_move hS104 rfl rfl)) fun a105 hS105 => d_pureW hS105 11 #[true, true, true, true, true, true, true, true, true, true, true, true, false, false, false, false, false, false, false, false, false, false, false, false, false, false, false, false, false] rfl (want_on hS105 rfl rfl rfl hb36) rfl rfl (by kernel_rfl) (fun _ _ _ h => h) (fun _ => (r_bin hS105 rfl rfl rfl b_neq)) fun a106 hS106 => d_pureW hS106 12 #[true, true, true, true, true, true, true, true, true, true, true, true, true, false, false, false, false, false, false, false, false, false, false, false, false, false, false, false, false] rfl (want_on hS106 rfl rfl rfl hb36) rfl rfl (by kernel_rfl) (fun _ _ _ h => h) (fun _ => (r_move hS106 rfl rfl)) fun a107 hS107 => ?_
            refine d_join (N := 52) 2 #[true, true, true, true, true, true, true, true, true, true, true, true, true, true, true, true, true, true, true, true, true, true, true, true, true, true, true, false, false] [(0, .pointer (some ⟨b_p0, 0, none⟩)), (1, .int .i64 p1), (5, .int .i64 m0_0), (6, .bool m1_0), (7, .int .i64 m1_1), (23, .bool m1_0), (24, .pointer (some ⟨b_p0, 0, none⟩)), (25, .pointer (some ⟨b_p0, 0, none⟩)), (26, .pointer (some ⟨b_p0, 1, none⟩)), (27, .slice A_slots_p0 p0.slots.length cap_slots_p0), (28, .int .i64 m1_1), (29, .pointer (some (ea A_slots_p0 (m1_1.toNat * 4)))), (30, .pointer (some (ea A_slots_p0 (m1_1.toNat * 4 + 1)))), (31, .int .i64 x100.Worker), (32, .int .i64 m0_0), (33, .bool (x100.Worker != m0_0)), (34, .bool (x100.Worker != m0_0)), (48, .bool ((x100.Worker != m0_0) || (decide (x100.End ≤ p0.now))))] ?_ (fun hk => ?_)
            rotate_left
            ·rcases Bool.eq_false_or_eq_true ((x100.Worker != m0_0)) with hb108 | hb108
             ·refine d_off hS107 13 #[true, true, true, true, true, true, true, true, true, true, true, true, true, true, false, false, false, false, false, false, false, false, false, false, false, false, false, false, false] rfl (want_off hS107 rfl rfl rfl hb108) rfl rfl (by kernel_rfl) (fun _ _ _ h => h) fun a122 hS122 => d_off hS122 14 #[true, true, true, true, true, true, true, true, true, true, true, true, true, true, true, false, false, false, false, false, false, false, false, false, false, false, false, false, false] rfl (want_off hS122 rfl rfl rfl hb108) rfl rfl (by kernel_rfl) (fun _ _ _ h => h) fun a123 hS123 => d_off hS123 15 #[true, true, true, true, true, true, true, true, true, true, true, true, true, true, true, true, false, false, false, false, false, false, false, false, false, false, false, false, false] rfl (want_off hS123 rfl rfl rfl hb108) rfl rfl (by kernel_rfl) (fun _ _ _ h => h) fun a124 hS124 => d_off hS124 16 #[true, true, true, true, true, true, true, true, true, true, true, true, true, true, true, true, true, false, false, false, false, false, false, false, false, false, false, false, false] rfl (want_off hS124 rfl rfl rfl hb108) rfl rfl (by kernel_rfl) (fun _ _ _ h => h) fun a125 hS125 => d_off hS125 17 #[true, true, true, true, true, true, true, true, true, true, true, true, true, true, true, true, true, true, false, false, false, false, false, false, false, false, false, false, false] rfl (want_off hS125 rfl rfl rfl hb108) rfl rfl (by kernel_rfl) (fun _ _ _ h => h) fun a126 hS126 => d_off hS126 18 #[true, true, true, true, true, true, true, true, true, true, true, true, true, true, true, true, true, true, true, false, false, false, false, false, false, false, false, false, false] rfl (want_off hS126 rfl rfl rfl hb108) rfl rfl (by kernel_rfl) (fun _ _ _ h => h) fun a127 hS127 => d_off hS127 19 #[true, true, true, true, true, true, true, true, true, true, true, true, true, true, true, true, true, true, true, true, false, false, false, false, false, false, false, false, false] rfl (want_off hS127 rfl rfl rfl hb108) rfl rfl (by kernel_rfl) (fun _ _ _ h => h) fun a128 hS128 => d_off hS128 20 #[true, true, true, true, true, true, true, true, true, true, true, true, true, true, true, true, true, true, true, true, true, false, false, false, false, false, false, false, false] rfl (want_off hS128 rfl rfl rfl hb108) rfl rfl (by kernel_rfl) (fun _ _ _ h => h) fun a129 hS129 => d_off hS129 21 #[true, true, true, true, true, true, true, true, true, true, true, true, true, true, true, true, true, true, true, true, true, true, false, false, false, false, false, false, false] rfl (want_off hS129 rfl rfl rfl hb108) rfl rfl (by kernel_rfl) (fun _ _ _ h => h) fun a130 hS130 => d_off hS130 22 #[true, true, true, true, true, true, true, true, true, true, true, true, true, true, true, true, true, true, true, true, true, true, true, false, false, false, false, false, false] rfl (want_off hS130 rfl rfl rfl hb108) rfl rfl (by kernel_rfl) (fun _ _ _ h => h) fun a131 hS131 => d_off hS131 23 #[true, true, true, true, true, true, true, true, true, true, true, true, true, true, true, true, true, true, true, true, true, true, true, true, false, false, false, false, false] rfl (want_off hS131 rfl rfl rfl hb108) rfl rfl (by kernel_rfl) (fun _ _ _ h => h) fun a132 hS132 => d_off hS132 24 #[true, true, true, true, true, true, true, true, true, true, true, true, true, true, true, true, true, true, true, true, true, true, true, true, true, false, false, false, false] rfl (want_off hS132 rfl rfl rfl hb108) rfl rfl (by kernel_rfl) (fun _ _ _ h => h) fun a133 hS133 => d_off hS133 25 #[true, true, true, true, true, true, true, true, true, true, true, true, true, true, true, true, true, true, true, true, true, true, true, true, true, true, false, false, false] rfl (want_off hS133 rfl rfl rfl hb108) rfl rfl (by kernel_rfl) (fun _ _ _ h => h) fun a134 hS134 => d_pureW hS134 26 #[true, true, true, true, true, true, true, true, true, true, true, true, true, true, true, true, true, true, true, true, true, true, true, true, true, true, true, false, false] rfl (want_on hS134 rfl rfl rfl hb36) rfl rfl (by kernel_rfl) (fun _ _ _ h => h) (fun _ => (r_pickT hS134 rfl rfl rfl hb108)) fun a135 hS135 => hk _ (hS135.re ⟨rfl, rfl, rfl, rfl, rfl, rfl, rfl, rfl, rfl, rfl, rfl, rfl, rfl, rfl, rfl, rfl, rfl, (by rw [hb108]; rfl), trivial⟩)
             ·refine d_pureW hS107 13 #[true, true, true, true, true, true, true, true, true, true, true, true, true, true, false, false, false, false, false, false, false, false, false, false, false, false, false, false, false] rfl (want_on hS107 rfl rfl rfl hb108) rfl rfl (by kernel_rfl) (fun _ _ _ h => h) (fun _ => (r_move hS107 rfl rfl)) fun a136 hS136 => d_pureW hS136 14 #[true, true, true, true, true, true, true, true, true, true, true, true, true, true, true, false, false, false, false, false, false, false, false, false, false, false, false, false, false] rfl (want_on hS136 rfl rfl rfl hb108) rfl rfl (by kernel_rfl) (fun _ _ _ h => h) (fun _ => (r_nil hS136 rfl rfl)) fun a137 hS137 => d_pureW hS137 15 #[true, true, true, true, true, true, true, true, true, true, true, true, true, true, true, true, false, false, false, false, false, false, false, false, false, false, false, false, false] rfl (want_on hS137 rfl rfl rfl hb108) rfl rfl (by kernel_rfl) (fun _ _ _ h => h) (fun _ => (r_fieldB (off := 1) hS137 rfl rfl (by kernel_rfl))) fun a138 hS138 => d_takeW hS138 16 #[true, true, true, true, true, true, true, true, true, true, true, true, true, true, true, true, true, false, false, false, false, false, false, false, false, false, false, false, false] rfl (want_on hS138 rfl rfl rfl hb108) rfl rfl (by kernel_rfl) (fun _ _ _ h => h) ⟨_, hC⟩ (fun w' g' Fz => (r_load1 (n := 1) hS138 rfl rfl (by kernel_rfl) (Bx.cell (hb0.fr Fz (fun h => h)) rfl))) fun a139 hS139 => d_pureW hS139 17 #[true, true, true, true, true, true, true, true, true, true, true, true, true, true, true, true, true, true, false, false, false, false, false, false, false, false, false, false, false] rfl (want_on hS139 rfl rfl rfl hb108) rfl rfl (by kernel_rfl) (fun _ _ _ h => h) (fun _ => (r_move hS139 rfl rfl)) fun a140 hS140 => d_pureW hS140 18 #[true, true, true, true, true, true, true, true, true, true, true, true, true, true, true, true, true, true, true, false, false, false, false, false, false, false, false, false, false] rfl (want_on hS140 rfl rfl rfl hb108) rfl rfl (by kernel_rfl) (fun _ _ _ h => h) (fun _ => (r_index (e := 38) (sz := 4) (by_ := 32) hS140 rfl rfl rfl (by kernel_rfl) (RdS.some_ (OwS.rd hf0_slots) hx101) (idx_lo hx101) (idx_hi hx101))) fun a141 hS141 => d_pureW hS141 19 #[true, true, true, true, true, true, true, true, true, true, true, true, true, true, true, true, true, true, true, true, false, false, false, false, false, false, false, false, false] rfl (want_on hS141 rfl rfl rfl hb108) rfl rfl (by kernel_rfl) (fun _ _ _ h => h) (fun _ => (r_fieldE (off := 3) hS141 rfl rfl (by kernel_rfl))) fun a142 hS142 => d_takeW hS142 20 #[true, true, true, true, true, true, true, true, true, true, true, true, true, true, true, true, true, true, true, true, true, false, false, false, false, false, false, false, false] rfl (want_on hS142 rfl rfl rfl hb108) rfl rfl (by kernel_rfl) (fun _ _ _ h => h) ⟨_, hC⟩ (fun w' g' Fz => (r_load1 (n := 1) hS142 rfl rfl (by kernel_rfl) (RdS.cell (i := m1_1) (sz := 4) (j := 3) (OwS.rd (OwS.fr hf0_slots Fz (fun _ _ h => h))) hx101 rfl))) fun a143 hS143 => d_pureW hS143 21 #[true, true, true, true, true, true, true, true, true, true, true, true, true, true, true, true, true, true, true, true, true, true, false, false, false, false, false, false, false] rfl (want_on hS143 rfl rfl rfl hb108) rfl rfl (by kernel_rfl) (fun _ _ _ h => h) (fun _ => (r_move hS143 rfl rfl)) fun a144 hS144 => d_pureW hS144 22 #[true, true, true, true, true, true, true, true, true, true, true, true, true, true, true, true, true, true, true, true, true, true, true, false, false, false, false, false, false] rfl (want_on hS144 rfl rfl rfl hb108) rfl rfl (by kernel_rfl) (fun _ _ _ h => h) (fun _ => (r_nil hS144 rfl rfl)) fun a145 hS145 => d_pureW hS145 23 #[true, true, true, true, true, true, true, true, true, true, true, true, true, true, true, true, true, true, true, true, true, true, true, true, false, false, false, false, false] rfl (want_on hS145 rfl rfl rfl hb108) rfl rfl (by kernel_rfl) (fun _ _ _ h => h) (fun _ => (r_fieldB (off := 3) hS145 rfl rfl (by kernel_rfl))) fun a146 hS146 => d_takeW hS146 24 #[true, true, true, true, true, true, true, true, true, true, true, true, true, true, true, true, true, true, true, true, true, true, true, true, true, false, false, false, false] rfl (want_on hS146 rfl rfl rfl hb108) rfl rfl (by kernel_rfl) (fun _ _ _ h => h) ⟨_, hC⟩ (fun w' g' Fz => (r_load1 (n := 1) hS146 rfl rfl (by kernel_rfl) (Bx.cell (hb0.fr Fz (fun h => h)) rfl))) fun a147 hS147 => d_pureW hS147 25 #[true, true, true, true, true, true, true, true, true, true, true, true, true, true, true, true, true, true, true, true, true, true, true, true, true, true, false, false, false] rfl (want_on hS147 rfl rfl rfl hb108) rfl rfl (by kernel_rfl) (fun _ _ _ h => h) (fun _ => (r_bin hS147 rfl rfl rfl b_leq)) fun a148 hS148 => d_pureW hS148 26 #[true, true, true, true, true, true, true, true, true, true, true, true, true, true, true, true, true, true, true, true, true, true, true, true, true, true, true, false, false] rfl (want_on hS148 rfl rfl rfl hb36) rfl rfl (by kernel_rfl) (fun _ _ _ h => h) (fun _ => (r_pickF hS148 rfl rfl rfl hb108)) fun a149 hS149 => hk _ (hS149.re ⟨rfl, rfl, rfl, rfl, rfl, rfl, rfl, rfl, rfl, rfl, rfl, rfl, rfl, rfl, rfl, rfl, rfl, (by rw [hb108]; rfl), trivial⟩)
            intro a150 hS150
            refine d_pure hS150 27 #[true, true, true, true, true, true, true, true, true, true, true, true, true, true, true, true, true, true, true, true, true, true, true, true, true, true, true, true, false] rfl rfl rfl rfl (by kernel_rfl) (fun _ _ _ h => h) (fun _ => (r_pickT hS150 rfl rfl rfl hb36)) fun a152 hS152 => hk _ (hS152.re ⟨rfl, rfl, rfl, rfl, rfl, (by rw [← e151]; rfl), trivial⟩)
           ·have H := ite_f hb36 ht94
            have e153 := Option.some.inj H
            refine d_off hS35 2 #[true, true, true, false, false, false, false, false, false, false, false, false, false, false, false, false, false, false, false, false, false, false, false, false, false, false, false, false, false] rfl (want_off hS35 rfl rfl rfl hb36) rfl rfl (by kernel_rfl) (fun _ _ _ h => h) fun a154 hS154 => d_off hS154 3 #[true, true, true, true, false, false, false, false, false, false, false, false, false, false, false, false, false, false, false, false, false, false, false, false, false, false, false, false, false] rfl (want_off hS154 rfl rfl rfl hb36) rfl rfl (by kernel_rfl) (fun _ _ _ h => h) fun a155 hS155 => d_off hS155 4 #[true, true, true, true, true, false, false, false, false, false, false, false, false, false, false, false, false, false, false, false, false, false, false, false, false, false, false, false, false] rfl (want_off hS155 rfl rfl rfl hb36) rfl rfl (by kernel_rfl) (fun _ _ _ h => h) fun a156 hS156 => d_off hS156 5 #[true, true, true, true, true, true, false, false, false, false, false, false, false, false, false, false, false, false, false, false, false, false, false, false, false, false, false, false, false] rfl (want_off hS156 rfl rfl rfl hb36) rfl rfl (by kernel_rfl) (fun _ _ _ h => h) fun a157 hS157 => d_off hS157 6 #[true, true, true, true, true, true, true, false, false, false, false, false, false, false, false, false, false, false, false, false, false, false, false, false, false, false, false, false, false] rfl (want_off hS157 rfl rfl rfl hb36) rfl rfl (by kernel_rfl) (fun _ _ _ h => h) fun a158 hS158 => d_off hS158 7 #[true, true, true, true, true, true, true, true, false, false, false, false, false, false, false, false, false, false, false, false, false, false, false, false, false, false, false, false, false] rfl (want_off hS158 rfl rfl rfl hb36) rfl rfl (by kernel_rfl) (fun _ _ _ h => h) fun a159 hS159 => d_off hS159 8 #[true, true, true, true, true, true, true, true, true, false, false, false, false, false, false, false, false, false, false, false, false, false, false, false, false, false, false, false, false] rfl (want_off hS159 rfl rfl rfl hb36) rfl rfl (by kernel_rfl) (fun _ _ _ h => h) fun a160 hS160 => d_off hS160 9 #[true, true, true, true, true, true, true, true, true, true, false, false, false, false, false, false, false, false, false, false, false, false, false, false, false, false, false, false, false] rfl (want_off hS160 rfl rfl rfl hb36) rfl rfl (by kernel_rfl) (fun _ _ _ h => h) fun a161 hS161 => d_off hS161 10 #[true, true, true, true, true, true, true, true, true, true, true, false, false, false, false, false, false, false, false, false, false, false, false, false, false, false, false, false, false] rfl (want_off hS161 rfl rfl rfl hb36) rfl rfl (by kernel_rfl) (fun _ _ _ h => h) fun a162 hS162 => d_off hS162 11 #[true, true, true, true, true, true, true, true, true, true, true, true, false, false, false, false, false, false, false, false, false, false, false, false, false, false, false, false, false] rfl (want_off hS162 rfl rfl rfl hb36) rfl rfl (by kernel_rfl) (fun _ _ _ h => h) fun a163 hS163 => d_off hS163 12 #[true, true, true, true, true, true, true, true, true, true, true, true, true, false, false, false, false, false, false, false, false, false, false, false, false, false, false, false, false] rfl (want_off hS163 rfl rfl rfl hb36) rfl rfl (by kernel_rfl) (fun _ _ _ h => h) fun a164 hS164 => d_off hS164 13 #[true, true, true, true, true, true, true, true, true, true, true, true, true, true, false, false, false, false, false, false, false, false, false, false, false, false, false, false, false] rfl (want_un hS164 rfl rfl rfl) rfl rfl (by kernel_rfl) (fun _ _ _ h => h) fun a165 hS165 => d_off hS165 14 #[true, true, true, true, true, true, true, true, true, true, true, true, true, true, true, false, false, false, false, false, false, false, false, false, false, false, false, false, false] rfl (want_un hS165 rfl rfl rfl) rfl rfl (by kernel_rfl) (fun _ _ _ h => h) fun a166 hS166 => d_off hS166 15 #[true, true, true, true, true, true, true, true, true, true, true, true, true, true, true, true, false, false, false, false, false, false, false, false, false, false, false, false, false] rfl (want_un hS166 rfl rfl rfl) rfl rfl (by kernel_rfl) (fun _ _ _ h => h) fun a167 hS167 => d_off hS167 16 #[true, true, true, true, true, true, true, true, true, true, true, true, true, true, true, true, true, false, false, false, false, false, false, false, false, false, false, false, false] rfl (want_un hS167 rfl rfl rfl) rfl rfl (by kernel_rfl) (fun _ _ _ h => h) fun a168 hS168 => d_off hS168 17 #[true, true, true, true, true, true, true, true, true, true, true, true, true, true, true, true, true, true, false, false, false, false, false, false, false, false, false, false, false] rfl (want_un hS168 rfl rfl rfl) rfl rfl (by kernel_rfl) (fun _ _ _ h => h) fun a169 hS169 => d_off hS169 18 #[true, true, true, true, true, true, true, true, true, true, true, true, true, true, true, true, true, true, true, false, false, false, false, false, false, false, false, false, false] rfl (want_un hS169 rfl rfl rfl) rfl rfl (by kernel_rfl) (fun _ _ _ h => h) fun a170 hS170 => d_off hS170 19 #[true, true, true, true, true, true, true, true, true, true, true, true, true, true, true, true, true, true, true, true, false, false, false, false, false, false, false, false, false] rfl (want_un hS170 rfl rfl rfl) rfl rfl (by kernel_rfl) (fun _ _ _ h => h) fun a171 hS171 => d_off hS171 20 #[true, true, true, true, true, true, true, true, true, true, true, true, true, true, true, true, true, true, true, true, true, false, false, false, false, false, false, false, false] rfl (want_un hS171 rfl rfl rfl) rfl rfl (by kernel_rfl) (fun _ _ _ h => h) fun a172 hS172 => d_off hS172 21 #[true, true, true, true, true, true, true, true, true, true, true, true, true, true, true, true, true, true, true, true, true, true, false, false, false, false, false, false, false] rfl (want_un hS172 rfl rfl rfl) rfl rfl (by kernel_rfl) (fun _ _ _ h => h) fun a173 hS173 => d_off hS173 22 #[true, true, true, true, true, true, true, true, true, true, true, true, true, true, true, true, true, true, true, true, true, true, true, false, false, false, false, false, false] rfl (want_un hS173 rfl rfl rfl) rfl rfl (by kernel_rfl) (fun _ _ _ h => h) fun a174 hS174 => d_off hS174 23 #[true, true, true, true, true, true, true, true, true, true, true, true, true, true, true, true, true, true, true, true, true, true, true, true, false, false, false, false, false] rfl (want_un hS174 rfl rfl rfl) rfl rfl (by kernel_rfl) (fun _ _ _ h => h) fun a175 hS175 => d_off hS175 24 #[true, true, true, true, true, true, true, true, true, true, true, true, true, true, true, true, true, true, true, true, true, true, true, true, true, false, false, false, false] rfl (want_un hS175 rfl rfl rfl) rfl rfl (by kernel_rfl) (fun _ _ _ h => h) fun a176 hS176 => d_off hS176 25 #[true, true, true, true, true, true, true, true, true, true, true, true, true, true, true, true, true, true, true, true, true, true, true, true, true, true, false, false, false] rfl (want_un hS176 rfl rfl rfl) rfl rfl (by kernel_rfl) (fun _ _ _ h => h) fun a177 hS177 => d_off hS177 26 #[true, true, true, true, true, true, true, true, true, true, true, true, true, true, true, true, true, true, true, true, true, true, true, true, true, true, true, false, false] rfl (want_off hS177 rfl rfl rfl hb36) rfl rfl (by kernel_rfl) (fun _ _ _ h => h) fun a178 hS178 => d_pure hS178 27 #[true, true, true, true, true, true, true, true, true, true, true, true, true, true, true, true, true, true, true, true, true, true, true, true, true, true, true, true, false] rfl rfl rfl rfl (by kernel_rfl) (fun _ _ _ h => h) (fun _ => (r_pickF hS178 rfl rfl rfl hb36)) fun a179 hS179 => hk _ (hS179.re ⟨rfl, rfl, rfl, rfl, rfl, (by rw [← e153]; rfl), trivial⟩)
          intro a180 hS180
          refine d_pure hS180 28 #[true, true, true, true, true, true, true, true, true, true, true, true, true, true, true, true, true, true, true, true, true, true, true, true, true, true, true, true, true] rfl rfl rfl rfl (by kernel_rfl) (fun _ _ _ h => h) (fun _ => (r_assign hS180 rfl rfl)) fun a181 hS181 => d_done (by kernel_rfl) (hK _ _ ?_)
          replace hS : Sl 52 _ [(0, .pointer (some ⟨b_p0, 0, none⟩)), (1, .int .i64 p1), (5, .int .i64 m0_0), (6, .bool t93), (7, .int .i64 m1_1)] := hS181.re ⟨rfl, rfl, rfl, rfl, rfl, trivial⟩
          clear hK K hC
          try clear hS34 hS35 hS180 hS181
          obtain ⟨a, ha⟩ : ∃ a', a' = a181 := ⟨_, rfl⟩
          rw [← ha] at hS ⊢; clear ha
          change Code.wp _ _ _ _ _
          refine c_pure1 [(0, .pointer (some ⟨b_p0, 0, none⟩)), (1, .int .i64 p1), (5, .int .i64 m0_0), (6, .bool t93), (7, .int .i64 (wi (m1_1 + 1)))] (fun R hR => st_val hS rfl rfl rfl (r_move hS rfl rfl) fun a182 hS182 => st_val hS182 rfl rfl rfl (r_bin hS182 rfl rfl rfl b_add) fun a183 hS183 => st_val hS183 rfl rfl rfl (r_assign hS183 rfl rfl) fun a184 hS184 => wpList_nil (hR _ (hS184.re ⟨rfl, rfl, rfl, rfl, rfl, trivial⟩))) ?_
          clear hS
          clear a
          intro a hS
          refine ⟨k24, Nat.lt_succ_self _, ?_⟩
          exact ⟨t93, wi (m1_1 + 1), g23, H, hS.re ⟨rfl, rfl, rfl, rfl, rfl, trivial⟩, hb0, hf0_at, hf0_links, hf0_slots, hF⟩
         ·replace H := ite_f hb32 H
          refine wp_exit ?_
          have e := Option.some.inj H
          subst e
          exact ⟨g23, hS.re ⟨rfl, rfl, rfl, rfl, trivial⟩, hb0, hf0_at, hf0_links, hf0_slots, hF⟩
      ·clear H
       clear hf0_links hf0_slots hf0_at hb0 hF
       clear hS
       rintro a w18 ⟨g18, hS, hb0, hf0_at, hf0_links, hf0_slots, hF⟩
       have H := Hl21
       clear Hl21
       refine c_pure [(0, .pointer (some ⟨b_p0, 0, none⟩)), (1, .int .i64 p1), (5, .int .i64 m0_0), (50, .bool v19)] (fun R hR => st_val hS rfl rfl rfl (r_move hS rfl rfl) fun a185 hS185 => wpList_nil (hR _ (hS185.re ⟨rfl, rfl, rfl, rfl, trivial⟩))) ?_
       clear hS
       clear a
       intro a hS
       refine c_cond hS rfl (fun hb186 => ?_) (fun hb186 => ?_)
       ·replace H := ite_t hb186 H
        refine c_pure [(4, .int .i64 m0_0)] (fun R hR => st_val hS rfl rfl rfl (r_move hS rfl rfl) fun a187 hS187 => st_val hS187 rfl rfl rfl (r_assign hS187 rfl rfl) fun a188 hS188 => wpList_nil (hR _ (hS188.re ⟨rfl, trivial⟩))) ?_
        clear hS
        clear a
        intro a hS
        refine wp_ret ?_
        have e := Option.some.inj H
        subst e
        replace H := Fl.go_out Hl16
        have e := Option.some.inj H
        subst e
        replace H := Fl.go_out Hl5
        have e := Option.some.inj H
        subst e
        repeat (with_reducible first | refine then_ret ?_ | refine inBlock_ret ?_)
        exact c_ret1 hS Try.results41 rfl ⟨_, rfl, g18, rfl, hF⟩
       ·replace H := ite_f hb186 H
        refine wp_skip ?_
        have e := Option.some.inj H
        exact ⟨g18, e.symm, hS.re ⟨rfl, rfl, rfl, trivial⟩, hb0, hf0_at, hf0_links, hf0_slots, hF⟩
     ·clear H
      clear hf0_links hf0_slots hf0_at hb0 hF
      clear hS
      rintro a w13 ⟨g13, hpre0, hS, hb0, hf0_at, hf0_links, hf0_slots, hF⟩
      subst hpre0
      have H := Fl.go_nxt Hl16
      clear Hl16
      refine c_pure1 [(0, .pointer (some ⟨b_p0, 0, none⟩)), (1, .int .i64 p1), (5, .int .i64 (wi (m0_0 + 1)))] (fun R hR => st_val hS rfl rfl rfl (r_move hS rfl rfl) fun a189 hS189 => st_val hS189 rfl rfl rfl (r_bin hS189 rfl rfl rfl b_add) fun a190 hS190 => st_val hS190 rfl rfl rfl (r_assign hS190 rfl rfl) fun a191 hS191 => wpList_nil (hR _ (hS191.re ⟨rfl, rfl, rfl, trivial⟩))) ?_
      clear hS
      clear a
      intro a hS
      refine ⟨k8, Nat.lt_succ_self _, ?_⟩
      exact ⟨wi (m0_0 + 1), g13, H, hS.re ⟨rfl, rfl, rfl, trivial⟩, hb0, hf0_at, hf0_links, hf0_slots, hF⟩
    ·replace H := ite_f hb12 H
     refine wp_exit ?_
     have e := Option.some.inj H
     exact ⟨g7, e.symm, hS.re trivial, hb0, hf0_at, hf0_links, hf0_slots, hF⟩
 ·clear H
  clear hf0_links hf0_slots hf0_at hb0 hF
  clear hS
  rintro a w2 ⟨g2, hpre0, hS, hb0, hf0_at, hf0_links, hf0_slots, hF⟩
  subst hpre0
  have H := Fl.go_nxt Hl5
  clear Hl5
  refine c_pure [(4, .int .i64 (-1))] (fun R hR => st_val hS rfl rfl rfl (r_assign hS rfl rfl) fun a192 hS192 => wpList_nil (hR _ (hS192.re ⟨rfl, trivial⟩))) ?_
  clear hS
  clear a
  intro a hS
  refine wp_ret ?_
  have e := Option.some.inj H
  subst e
  repeat (with_reducible first | refine then_ret ?_ | refine inBlock_ret ?_)
  exact c_ret1 hS Try.results41 rfl ⟨_, rfl, g2, rfl, hF⟩


end Go.Proofs.Ythmjgadmadlpkaa.Sim

namespace Go.Proofs.Ythmjgadmadlpkaa.Sim
open Go
set_option linter.unusedVariables false
set_option linter.unusedSimpArgs false

/-! ### ref31_plan_ended: function 76 -/
def ref31_plan_ended.f (p0 : ref31_plan) (p1 : Int) : Option (Bool) := (idx p0.at_ p1).bind fun x8 => (if decide (0 ≤ x8) = true then (idx p0.slots x8).bind fun x26 => some (decide (x26.End ≤ p0.now)) else some false).bind fun t36 => some t36
set_option maxRecDepth 100000 in
set_option maxHeartbeats 4000000 in
theorem ref31_plan_ended.calls {p0 : ref31_plan} {c0 : Nat} {C_links_p0 : Nat → Prop} {b_p0 : Nat} {A_links_p0 : Option Addr} {cap_links_p0 : Nat} {A_slots_p0 : Option Addr} {cap_slots_p0 : Nat} {A_at_p0 : Option Addr} {cap_at_p0 : Nat} {p1 : Int} {w : World} {g : Nat → Nat} {out : Bool} (N : Nat) (hp0 : ref31_plan_At w g c0 C_links_p0 b_p0 A_links_p0 cap_links_p0 A_slots_p0 cap_slots_p0 A_at_p0 cap_at_p0 p0) (hc0 : c0 + 5 ≤ N) (hC_links_p0 : ∀ c, C_links_p0 c → c < N ∧ (c < c0 ∨ c0 + 5 ≤ c)) (H : ref31_plan_ended.f p0 p1 = some out) :
  Calls Try.prog 76 #[.pointer (some ⟨b_p0, 0, none⟩), .int .i64 p1] w (fun e w' => ∃ v, e = .returned v ∧ ∃ (g' : Nat → Nat), v = .bool out ∧ Fr (fun q => N ≤ q) w g w' g') := by
 unfold ref31_plan_ended.f at H
 refine calls_enter Try.func76 rfl Try.ntmps76 rfl (fun a hS => ?_)
 replace hS : Sl 34 a [(0, .pointer (some ⟨b_p0, 0, none⟩)), (1, .int .i64 p1)] := hS
 have hF : Fr (fun q => N ≤ q) w g w g := Fr.refl _ _ _
 obtain ⟨hb0, hf0_links, hf0_slots, hf0_at⟩ := hp0
 refine c_pure [(0, .pointer (some ⟨b_p0, 0, none⟩)), (1, .int .i64 p1)] (fun R hR => st_val hS rfl rfl rfl (r_assign hS rfl rfl) fun a1 hS1 => wpList_nil (hR _ (hS1.re ⟨rfl, rfl, trivial⟩))) ?_
 clear hS
 clear a
 intro a hS
 obtain ⟨x8, hx9, H⟩ := bind_el H
 obtain ⟨t36, ht37, H⟩ := bind_el H
 refine c_draw (fun K hK => d_start (fun q => False) g [] 30 #[false, false, false, false, false, false, false, false, false, false, false, false, false, false, false, false, false, false, false, false, false, false, false, false, false, false, false, false, false, false] (by kernel_rfl) rfl rfl (fun w2 hw2 => ?_))
 have F2 : Fr (fun _ => False) w g w2 g := by rw [hw2]; exact Fr.drew _ _ _
 replace hb0 := hb0.fr F2 (fun h => h)
 replace hf0_at := OwS.fr hf0_at F2 (fun _ _ h => h)
 replace hf0_links := RdS.fr hf0_links F2 (by decide) (fun _ _ h => h)
 replace hf0_slots := OwS.fr hf0_slots F2 (fun _ _ h => h)
 replace hF := hF.trans F2 (fun _ h => h.elim)
 have hC : Fr (fun q => False) w2 g w2 g := Fr.refl _ _ _
 refine d_pure hS 0 #[true, false, false, false, false, false, false, false, false, false, false, false, false, false, false, false, false, false, false, false, false, false, false, false, false, false, false, false, false, false] rfl rfl rfl rfl (by kernel_rfl) (fun _ _ _ h => h) (fun _ => (r_move hS rfl rfl)) fun a3 hS3 => d_pure hS3 1 #[true, true, false, false, false, false, false, false, false, false, false, false, false, false, false, false, false, false, false, false, false, false, false, false, false, false, false, false, false, false] rfl rfl rfl rfl (by kernel_rfl) (fun _ _ _ h => h) (fun _ => (r_nil hS3 rfl rfl)) fun a4 hS4 => d_pure hS4 2 #[true, true, true, false, false, false, false, false, false, false, false, false, false, false, false, false, false, false, false, false, false, false, false, false, false, false, false, false, false, false] rfl rfl rfl rfl (by kernel_rfl) (fun _ _ _ h => h) (fun _ => (r_fieldB (off := 2) hS4 rfl rfl (by kernel_rfl))) fun a5 hS5 => d_take hS5 3 #[true, true, true, true, false, false, false, false, false, false, false, false, false, false, false, false, false, false, false, false, false, false, false, false, false, false, false, false, false, false] rfl rfl rfl rfl (by kernel_rfl) (fun _ _ _ h => h) ⟨_, hC⟩ (fun w' g' Fz => (r_load1 (n := 1) hS5 rfl rfl (by kernel_rfl) (Bx.cell (hb0.fr Fz (fun h => h)) rfl))) fun a6 hS6 => d_pure hS6 4 #[true, true, true, true, true, false, false, false, false, false, false, false, false, false, false, false, false, false, false, false, false, false, false, false, false, false, false, false, false, false] rfl rfl rfl rfl (by kernel_rfl) (fun _ _ _ h => h) (fun _ => (r_move hS6 rfl rfl)) fun a7 hS7 => d_pure hS7 5 #[true, true, true, true, true, true, false, false, false, false, false, false, false, false, false, false, false, false, false, false, false, false, false, false, false, false, false, false, false, false] rfl rfl rfl rfl (by kernel_rfl) (fun _ _ _ h => h) (fun _ => (r_index (e := 3) (sz := 1) (by_ := 8) hS7 rfl rfl rfl (by kernel_rfl) (RdS.some_ (OwS.rd hf0_at) hx9) (idx_lo hx9) (idx_hi hx9))) fun a10 hS10 => d_take hS10 6 #[true, true, true, true, true, true, true, false, false, false, false, false, false, false, false, false, false, false, false, false, false, false, false, false, false, false, false, false, false, false] rfl rfl rfl rfl (by kernel_rfl) (fun _ _ _ h => h) ⟨_, hC⟩ (fun w' g' Fz => (r_load1 (n := 1) hS10 rfl rfl (by kernel_rfl) (RdS.cell (i := p1) (sz := 1) (j := 0) (OwS.rd (OwS.fr hf0_at Fz (fun _ _ h => h))) hx9 rfl))) fun a11 hS11 => d_pure hS11 7 #[true, true, true, true, true, true, true, true, false, false, false, false, false, false, false, false, false, false, false, false, false, false, false, false, false, false, false, false, false, false] rfl rfl rfl rfl (by kernel_rfl) (fun _ _ _ h => h) (fun _ => (r_bin hS11 rfl rfl rfl b_geq)) fun a12 hS12 => d_pure hS12 8 #[true, true, true, true, true, true, true, true, true, false, false, false, false, false, false, false, false, false, false, false, false, false, false, false, false, false, false, false, false, false] rfl rfl rfl rfl (by kernel_rfl) (fun _ _ _ h => h) (fun _ => (r_move hS12 rfl rfl)) fun a13 hS13 => ?_
 refine d_join (N := 34) 1 #[true, true, true, true, true, true, true, true, true, true, true, true, true, true, true, true, true, true, true, true, true, true, true, true, true, true, true, true, true, false] [(33, .bool t36)] ?_ (fun hk => ?_)
 rotate_left
 ·rcases Bool.eq_false_or_eq_true (decide (0 ≤ x8)) with hb14 | hb14
  ·have H := ite_t hb14 ht37
   obtain ⟨x49, hx50, H⟩ := bind_el H
   have e59 := Option.some.inj H
   refine d_pureW hS13 9 #[true, true, true, true, true, true, true, true, true, true, false, false, false, false, false, false, false, false, false, false, false, false, false, false, false, false, false, false, false, false] rfl (want_on hS13 rfl rfl rfl hb14) rfl rfl (by kernel_rfl) (fun _ _ _ h => h) (fun _ => (r_move hS13 rfl rfl)) fun a38 hS38 => d_pureW hS38 10 #[true, true, true, true, true, true, true, true, true, true, true, false, false, false, false, false, false, false, false, false, false, false, false, false, false, false, false, false, false, false] rfl (want_on hS38 rfl rfl rfl hb14) rfl rfl (by kernel_rfl) (fun _ _ _ h => h) (fun _ => (r_nil hS38 rfl rfl)) fun a39 hS39 => d_pureW hS39 11 #[true, true, true, true, true, true, true, true, true, true, true, true, false, false, false, false, false, false, false, false, false, false, false, false, false, false, false, false, false, false] rfl (want_on hS39 rfl rfl rfl hb14) rfl rfl (by kernel_rfl) (fun _ _ _ h => h) (fun _ => (r_fieldB (off := 1) hS39 rfl rfl (by kernel_rfl))) fun a40 hS40 => d_takeW hS40 12 #[true, true, true, true, true, true, true, true, true, true, true, true, true, false, false, false, false, false, false, false, false, false, false, false, false, false, false, false, false, false] rfl (want_on hS40 rfl rfl rfl hb14) rfl rfl (by kernel_rfl) (fun _ _ _ h => h) ⟨_, hC⟩ (fun w' g' Fz => (r_load1 (n := 1) hS40 rfl rfl (by kernel_rfl) (Bx.cell (hb0.fr Fz (fun h => h)) rfl))) fun a41 hS41 => d_pureW hS41 13 #[true, true, true, true, true, true, true, true, true, true, true, true, true, true, false, false, false, false, false, false, false, false, false, false, false, false, false, false, false, false] rfl (want_on hS41 rfl rfl rfl hb14) rfl rfl (by kernel_rfl) (fun _ _ _ h => h) (fun _ => (r_move hS41 rfl rfl)) fun a42 hS42 => d_pureW hS42 14 #[true, true, true, true, true, true, true, true, true, true, true, true, true, true, true, false, false, false, false, false, false, false, false, false, false, false, false, false, false, false] rfl (want_on hS42 rfl rfl rfl hb14) rfl rfl (by kernel_rfl) (fun _ _ _ h => h) (fun _ => (r_nil hS42 rfl rfl)) fun a43 hS43 => d_pureW hS43 15 #[true, true, true, true, true, true, true, true, true, true, true, true, true, true, true, true, false, false, false, false, false, false, false, false, false, false, false, false, false, false] rfl (want_on hS43 rfl rfl rfl hb14) rfl rfl (by kernel_rfl) (fun _ _ _ h => h) (fun _ => (r_fieldB (off := 2) hS43 rfl rfl (by kernel_rfl))) fun a44 hS44 => d_takeW hS44 16 #[true, true, true, true, true, true, true, true, true, true, true, true, true, true, true, true, true, false, false, false, false, false, false, false, false, false, false, false, false, false] rfl (want_on hS44 rfl rfl rfl hb14) rfl rfl (by kernel_rfl) (fun _ _ _ h => h) ⟨_, hC⟩ (fun w' g' Fz => (r_load1 (n := 1) hS44 rfl rfl (by kernel_rfl) (Bx.cell (hb0.fr Fz (fun h => h)) rfl))) fun a45 hS45 => d_pureW hS45 17 #[true, true, true, true, true, true, true, true, true, true, true, true, true, true, true, true, true, true, false, false, false, false, false, false, false, false, false, false, false, false] rfl (want_on hS45 rfl rfl rfl hb14) rfl rfl (by kernel_rfl) (fun _ _ _ h => h) (fun _ => (r_move hS45 rfl rfl)) fun a46 hS46 => d_pureW hS46 18 #[true, true, true, true, true, true, true, true, true, true, true, true, true, true, true, true, true, true, true, false, false, false, false, false, false, false, false, false, false, false] rfl (want_on hS46 rfl rfl rfl hb14) rfl rfl (by kernel_rfl) (fun _ _ _ h => h) (fun _ => (r_index (e := 3) (sz := 1) (by_ := 8) hS46 rfl rfl rfl (by kernel_rfl) (RdS.some_ (OwS.rd hf0_at) hx9) (idx_lo hx9) (idx_hi hx9))) fun a47 hS47 => d_takeW hS47 19 #[true, true, true, true, true, true, true, true, true, true, true, true, true, true, true, true, true, true, true, true, false, false, false, false, false, false, false, false, false, false] rfl (want_on hS47 rfl rfl rfl hb14) rfl rfl (by kernel_rfl) (fun _ _ _ h => h) ⟨_, hC⟩ (fun w' g' Fz => (r_load1 (n := 1) hS47 rfl rfl (by kernel_rfl) (RdS.cell (i := p1) (sz := 1) (j := 0) (OwS.rd (OwS.fr hf0_at Fz (fun _ _ h => h))) hx9 rfl))) fun a48 hS48 => d_pureW hS48 20 #[true, true, true, true, true, true, true, true, true, true, true, true, true, true, true, true, true, true, true, true, true, false, false, false, false, false, false, false, false, false] rfl (want_on hS48 rfl rfl rfl hb14) rfl rfl (by kernel_rfl) (fun _ _ _ h => h) (fun _ => (r_index (e := 38) (sz := 4) (by_ := 32) hS48 rfl rfl rfl (by kernel_rfl) (RdS.some_ (OwS.rd hf0_slots) hx50) (idx_lo hx50) (idx_hi hx50))) fun a51 hS51 => d_pureW hS51 21 #[true, true, true, true, true, true, true, true, true, true, true, true, true, true, true, true, true, true, true, true, true, true, false, false, false, false, false, false, false, false] rfl (want_on hS51 rfl rfl rfl hb14) rfl rfl (by kernel_rfl) (fun _ _ _ h => h) (fun _ => (r_fieldE (off := 3) hS51 rfl rfl (by kernel_rfl))) fun a52 hS52 => d_takeW hS52 22 #[true, true, true, true, true, true, true, true, true, true, true, true, true, true, true, true, true, true, true, true, true, true, true, false, false, false, false, false, false, false] rfl (want_on hS52 rfl rfl rfl hb14) rfl rfl (by kernel_rfl) (fun _ _ _ h => h) ⟨_, hC⟩ (fun w' g' Fz => (r_load1 (n := 1) hS52 rfl rfl (by kernel_rfl) (RdS.cell (i := x8) (sz := 4) (j := 3) (OwS.rd (OwS.fr hf0_slots Fz (fun _ _ h => h))) hx50 rfl))) fun a53 hS53 => d_pureW hS53 23 #[true, true, true, true, true, true, true, true, true, true, true, true, true, true, true, true, true, true, true, true, true, true, true, true, false, false, false, false, false, false] rfl (want_on hS53 rfl rfl rfl hb14) rfl rfl (by kernel_rfl) (fun _ _ _ h => h) (fun _ => (r_move hS53 rfl rfl)) fun a54 hS54 => d_pureW hS54 24 #[true, true, true, true, true, true, true, true, true, true, true, true, true, true, true, true, true, true, true, true, true, true, true, true, true, false, false, false, false, false] rfl (want_on hS54 rfl rfl rfl hb14) rfl rfl (by kernel_rfl) (fun _ _ _ h => h) (fun _ => (r_nil hS54 rfl rfl)) fun a55 hS55 => d_pureW hS55 25 #[true, true, true, true, true, true, true, true, true, true, true, true, true, true, true, true, true, true, true, true, true, true, true, true, true, true, false, false, false, false] rfl (want_on hS55 rfl rfl rfl hb14) rfl rfl (by kernel_rfl) (fun _ _ _ h => h) (fun _ => (r_fieldB (off := 3) hS55 rfl rfl (by kernel_rfl))) fun a56 hS56 => d_takeW hS56 26 #[true, true, true, true, true, true, true, true, true, true, true, true, true, true, true, true, true, true, true, true, true, true, true, true, true, true, true, false, false, false] rfl (want_on hS56 rfl rfl rfl hb14) rfl rfl (by kernel_rfl) (fun _ _ _ h => h) ⟨_, hC⟩ (fun w' g' Fz => (r_load1 (n := 1) hS56 rfl rfl (by kernel_rfl) (Bx.cell (hb0.fr Fz (fun h => h)) rfl))) fun a57 hS57 => d_pureW hS57 27 #[true, true, true, true, true, true, true, true, true, true, true, true, true, true, true, true, true, true, true, true, true, true, true, true, true, true, true, true, false, false] rfl (want_on hS57 rfl rfl rfl hb14) rfl rfl (by kernel_rfl) (fun _ _ _ h => h) (fun _ => (r_bin hS57 rfl rfl rfl b_leq)) fun a58 hS58 => d_pure hS58 28 #[true, true, true, true, true, true, true, true, true, true, true, true, true, true, true, true, true, true, true, true, true, true, true, true, true, true, true, true, true, false] rfl rfl rfl rfl (by kernel_rfl) (fun _ _ _ h => h) (fun _ => (r_pickT hS58 rfl rfl rfl hb14)) fun a60 hS60 => hk _ (hS60.re ⟨(by rw [← e59]; rfl), trivial⟩)
  ·have H := ite_f hb14 ht37
   have e61 := Option.some.inj H
   refine d_off hS13 9 #[true, true, true, true, true, true, true, true, true, true, false, false, false, false, false, false, false, false, false, false, false, false, false, false, false, false, false, false, false, false] rfl (want_off hS13 rfl rfl rfl hb14) rfl rfl (by kernel_rfl) (fun _ _ _ h => h) fun a62 hS62 => d_off hS62 10 #[true, true, true, true, true, true, true, true, true, true, true, false, false, false, false, false, false, false, false, false, false, false, false, false, false, false, false, false, false, false] rfl (want_off hS62 rfl rfl rfl hb14) rfl rfl (by kernel_rfl) (fun _ _ _ h => h) fun a63 hS63 => d_off hS63 11 #[true, true, true, true, true, true, true, true, true, true, true, true, false, false, false, false, false, false, false, false, false, false, false, false, false, false, false, false, false, false] rfl (want_off hS63 rfl rfl rfl hb14) rfl rfl (by kernel_rfl) (fun _ _ _ h => h) fun a64 hS64 => d_off hS64 12 #[true, true, true, true, true, true, true, true, true, true, true, true, true, false, false, false, false, false, false, false, false, false, false, false, false, false, false, false, false, false] rfl (want_off hS64 rfl rfl rfl hb14) rfl rfl (by kernel_rfl) (fun _ _ _ h => h) fun a65 hS65 => d_off hS65 13 #[true, true, true, true, true, true, true, true, true, true, true, true, true, true, false, false, false, false, false, false, false, false, false, false, false, false, false, false, false, false] rfl (want_off hS65 rfl rfl rfl hb14) rfl rfl (by kernel_rfl) (fun _ _ _ h => h) fun a66 hS66 => d_off hS66 14 #[true, true, true, true, true, true, true, true, true, true, true, true, true, true, true, false, false, false, false, false, false, false, false, false, false, false, false, false, false, false] rfl (want_off hS66 rfl rfl rfl hb14) rfl rfl (by kernel_rfl) (fun _ _ _ h => h) fun a67 hS67 => d_off hS67 15 #[true, true, true, true, true, true, true, true, true, true, true, true, true, true, true, true, false, false, false, false, false, false, false, false, false, false, false, false, false, false] rfl (want_off hS67 rfl rfl rfl hb14) rfl rfl (by kernel_rfl) (fun _ _ _ h => h) fun a68 hS68 => d_off hS68 16 #[true, true, true, true, true, true, true, true, true, true, true, true, true, true, true, true, true, false, false, false, false, false, false, false, false, false, false, false, false, false] rfl (want_off hS68 rfl rfl rfl hb14) rfl rfl (by kernel_rfl) (fun _ _ _ h => h) fun a69 hS69 => d_off hS69 17 #[true, true, true, true, true, true, true, true, true, true, true, true, true, true, true, true, true, true, false, false, false, false, false, false, false, false, false, false, false, false] rfl (want_off hS69 rfl rfl rfl hb14) rfl rfl (by kernel_rfl) (fun _ _ _ h => h) fun a70 hS70 => d_off hS70 18 #[true, true, true, true, true, true, true, true, true, true, true, true, true, true, true, true, true, true, true, false, false, false, false, false, false, false, false, false, false, false] rfl (want_off hS70 rfl rfl rfl hb14) rfl rfl (by kernel_rfl) (fun _ _ _ h => h) fun a71 hS71 => d_off hS71 19 #[true, true, true, true, true, true, true, true, true, true, true, true, true, true, true, true, true, true, true, true, false, false, false, false, false, false, false, false, false, false] rfl (want_off hS71 rfl rfl rfl hb14) rfl rfl (by kernel_rfl) (fun _ _ _ h => h) fun a72 hS72 => d_off hS72 20 #[true, true, true, true, true, true, true, true, true, true, true, true, true, true, true, true, true, true, true, true, true, false, false, false, false, false, false, false, false, false] rfl (want_off hS72 rfl rfl rfl hb14) rfl rfl (by kernel_rfl) (fun _ _ _ h => h) fun a73 hS73 => d_off hS73 21 #[true, true, true, true, true, true, true, true, true, true, true, true, true, true, true, true, true, true, true, true, true, true, false, false, false, false, false, false, false, false] rfl (want_off hS73 rfl rfl rfl hb14) rfl rfl (by kernel_rfl) (fun _ _ _ h => h) fun a74 hS74 => d_off hS74 22 #[true, true, true, true, true, true, true, true, true, true, true, true, true, true, true, true, true, true, true, true, true, true, true, false, false, false, false, false, false, false] rfl (want_off hS74 rfl rfl rfl hb14) rfl rfl (by kernel_rfl) (fun _ _ _ h => h) fun a75 hS75 => d_off hS75 23 #[true, true, true, true, true, true, true, true, true, true, true, true, true, true, true, true, true, true, true, true, true, true, true, true, false, false, false, false, false, false] rfl (want_off hS75 rfl rfl rfl hb14) rfl rfl (by kernel_rfl) (fun _ _ _ h => h) fun a76 hS76 => d_off hS76 24 #[true, true, true, true, true, true, true, true, true, true, true, true, true, true, true, true, true, true, true, true, true, true, true, true, true, false, false, false, false, false] rfl (want_off hS76 rfl rfl rfl hb14) rfl rfl (by kernel_rfl) (fun _ _ _ h => h) fun a77 hS77 => d_off hS77 25 #[true, true, true, true, true, true, true, true, true, true, true, true, true, true, true, true, true, true, true, true, true, true, true, true, true, true, false, false, false, false] rfl (want_off hS77 rfl rfl rfl hb14) rfl rfl (by kernel_rfl) (fun _ _ _ h => h) fun a78 hS78 => d_off hS78 26 #[true, true, true, true, true, true, true, true, true, true, true, true, true, true, true, true, true, true, true, true, true, true, true, true, true, true, true, false, false, false] rfl (want_off hS78 rfl rfl rfl hb14) rfl rfl (by kernel_rfl) (fun _ _ _ h => h) fun a79 hS79 => d_off hS79 27 #[true, true, true, true, true, true, true, true, true, true, true, true, true, true, true, true, true, true, true, true, true, true, true, true, true, true, true, true, false, false] rfl (want_off hS79 rfl rfl rfl hb14) rfl rfl (by kernel_rfl) (fun _ _ _ h => h) fun a80 hS80 => d_pure hS80 28 #[true, true, true, true, true, true, true, true, true, true, true, true, true, true, true, true, true, true, true, true, true, true, true, true, true, true, true, true, true, false] rfl rfl rfl rfl (by kernel_rfl) (fun _ _ _ h => h) (fun _ => (r_pickF hS80 rfl rfl rfl hb14)) fun a81 hS81 => hk _ (hS81.re ⟨(by rw [← e61]; rfl), trivial⟩)
 intro a82 hS82
 refine d_pure hS82 29 #[true, true, true, true, true, true, true, true, true, true, true, true, true, true, true, true, true, true, true, true, true, true, true, true, true, true, true, true, true, true] rfl rfl rfl rfl (by kernel_rfl) (fun _ _ _ h => h) (fun _ => (r_assign hS82 rfl rfl)) fun a83 hS83 => d_done (by kernel_rfl) (hK _ _ ?_)
 replace hS : Sl 34 _ [(4, .bool t36)] := hS83.re ⟨rfl, trivial⟩
 clear hK K hC
 try clear hS3 hS4 hS5 hS6 hS7 hS10 hS11 hS12 hS13 hS82 hS83
 obtain ⟨a, ha⟩ : ∃ a', a' = a83 := ⟨_, rfl⟩
 rw [← ha] at hS ⊢; clear ha
 refine wp_ret ?_
 have e := Option.some.inj H
 subst e
 repeat (with_reducible first | refine then_ret ?_ | refine inBlock_ret ?_)
 exact c_ret1 hS Try.results76 rfl ⟨_, rfl, g, rfl, hF⟩


end Go.Proofs.Ythmjgadmadlpkaa.Sim

namespace Go.Proofs.Ythmjgadmadlpkaa.Sim
open Go
set_option linter.unusedVariables false
set_option linter.unusedSimpArgs false

/-! ### ref31_plan_ready: function 40 -/
def ref31_plan_ready.l1 (p0 : ref31_plan) (m0_0 : Int) : Nat → Bool → Int → Option (Bool)
 | 0, _, _ => none
 | k38 + 1, m1_0, m1_1 => if ((decide (m1_1 < (p0.links.length : Int))) && m1_0) = true then ((idx p0.links m1_1).bind fun x60 => (if (x60.Consumer != m0_0) = true then some true else (ref31_plan_ended.f p0 x60.Supplier).bind fun r78 => some r78).bind fun t82 => ref31_plan_ready.l1 p0 m0_0 k38 t82 (wi (m1_1 + 1))) else (some m1_0)
def ref31_plan_ready.l0 (p0 : ref31_plan) : Nat → Int → Option (Fl (Int) (Unit))
 | 0, _ => none
 | k8 + 1, m0_0 => if decide (m0_0 < (p0.at_.length : Int)) = true then (((idx p0.at_ m0_0).bind fun x26 => (ref31_plan_ready.l1 p0 m0_0 FUEL (decide (x26 < 0)) 0 : Option (Bool)).bind fun v33 => if v33 = true then (some (.out (.out m0_0))) else (some (.nxt ())) : Option (Fl (Fl (Int) (Unit)) (Unit))).bind fun o19 => o19.go fun _ => ref31_plan_ready.l0 p0 k8 (wi (m0_0 + 1))) else (some (.nxt ()))
def ref31_plan_ready.f (p0 : ref31_plan) : Option (Int) := (ref31_plan_ready.l0 p0 FUEL 0 : Option (Fl (Int) (Unit))).bind fun o4 => o4.go fun _ => some (-1)
set_option maxRecDepth 100000 in
set_option maxHeartbeats 4000000 in
theorem ref31_plan_ready.calls {p0 : ref31_plan} {c0 : Nat} {C_links_p0 : Nat → Prop} {b_p0 : Nat} {A_links_p0 : Option Addr} {cap_links_p0 : Nat} {A_slots_p0 : Option Addr} {cap_slots_p0 : Nat} {A_at_p0 : Option Addr} {cap_at_p0 : Nat} {w : World} {g : Nat → Nat} {out : Int} (N : Nat) (hp0 : ref31_plan_At w g c0 C_links_p0 b_p0 A_links_p0 cap_links_p0 A_slots_p0 cap_slots_p0 A_at_p0 cap_at_p0 p0) (hc0 : c0 + 5 ≤ N) (hC_links_p0 : ∀ c, C_links_p0 c → c < N ∧ (c < c0 ∨ c0 + 5 ≤ c)) (H : ref31_plan_ready.f p0 = some out) :
  Calls Try.prog 40 #[.pointer (some ⟨b_p0, 0, none⟩)] w (fun e w' => ∃ v, e = .returned v ∧ ∃ (g' : Nat → Nat), v = .int .i64 out ∧ Fr (fun q => N ≤ q) w g w' g') := by
 unfold ref31_plan_ready.f at H
 refine calls_enter Try.func40 rfl Try.ntmps40 rfl (fun a hS => ?_)
 replace hS : Sl 59 a [(0, .pointer (some ⟨b_p0, 0, none⟩))] := hS
 have hF : Fr (fun q => N ≤ q) w g w g := Fr.refl _ _ _
 obtain ⟨hb0, hf0_links, hf0_slots, hf0_at⟩ := hp0
 refine c_pure [(0, .pointer (some ⟨b_p0, 0, none⟩))] (fun R hR => st_val hS rfl rfl rfl (r_assign hS rfl rfl) fun a1 hS1 => wpList_nil (hR _ (hS1.re ⟨rfl, trivial⟩))) ?_
 clear hS
 clear a
 intro a hS
 obtain ⟨o4, H, Hl5⟩ := bind_el H
 refine c_cut (fun a w2 => ∃ (g2 : Nat → Nat), o4 = .nxt () ∧ Sl 59 a [] ∧ Bx w2 g2 (c0) b_p0 80 [.slice A_links_p0 p0.links.length cap_links_p0, .slice A_slots_p0 p0.slots.length cap_slots_p0, .slice A_at_p0 p0.at_.length cap_at_p0, .int .u64 p0.now] ∧ OwS (kint .i64) 3 w2 g2 (c0 + 3) A_at_p0 cap_at_p0 p0.at_ ∧ RdS kd_api_Link w2 g2 C_links_p0 A_links_p0 cap_links_p0 p0.links ∧ OwS kd_api_Slot 38 w2 g2 (c0 + 1) A_slots_p0 cap_slots_p0 p0.slots ∧ Fr (fun q => N ≤ q) w g w2 g2) ?_ ?_
 ·refine c_pure [(0, .pointer (some ⟨b_p0, 0, none⟩)), (3, .int .i64 0)] (fun R hR => st_val hS rfl rfl rfl (r_assign hS rfl rfl) fun a6 hS6 => wpList_nil (hR _ (hS6.re ⟨rfl, rfl, trivial⟩))) ?_
  clear hS
  clear a
  intro a hS
  refine wp_block ?_
  refine wp_loop_ghost (fun kq => fun a w7 => ∃ (m0_0 : Int), ∃ (g7 : Nat → Nat), ref31_plan_ready.l0 p0 kq m0_0 = some o4 ∧ Sl 59 a [(0, .pointer (some ⟨b_p0, 0, none⟩)), (3, .int .i64 m0_0)] ∧ Bx w7 g7 (c0) b_p0 80 [.slice A_links_p0 p0.links.length cap_links_p0, .slice A_slots_p0 p0.slots.length cap_slots_p0, .slice A_at_p0 p0.at_.length cap_at_p0, .int .u64 p0.now] ∧ OwS (kint .i64) 3 w7 g7 (c0 + 3) A_at_p0 cap_at_p0 p0.at_ ∧ RdS kd_api_Link w7 g7 C_links_p0 A_links_p0 cap_links_p0 p0.links ∧ OwS kd_api_Slot 38 w7 g7 (c0 + 1) A_slots_p0 cap_slots_p0 p0.slots ∧ Fr (fun q => N ≤ q) w g w7 g7) FUEL ?_ ?_
  ·exact ⟨0, g, H, hS.re ⟨rfl, rfl, trivial⟩, hb0, hf0_at, hf0_links, hf0_slots, hF⟩
  ·clear H
   clear hf0_links hf0_slots hf0_at hb0 hF
   clear hS
   rintro k8 a w7 ⟨m0_0, g7, hpre0, hS, hb0, hf0_at, hf0_links, hf0_slots, hF⟩
   have H := hpre0
   clear hpre0
   cases k8 with
   | zero => exact absurd H (by simp [ref31_plan_ready.l0])
   | succ k8 =>
    rw [ref31_plan_ready.l0] at H
    refine wp_seq ?_
    refine c_pure [(0, .pointer (some ⟨b_p0, 0, none⟩)), (3, .int .i64 m0_0), (12, .bool (decide (m0_0 < (p0.at_.length : Int))))] (fun R hR => st_val hS rfl rfl rfl (r_move hS rfl rfl) fun a9 hS9 => st_val hS9 rfl rfl rfl (r_move hS9 rfl rfl) fun a10 hS10 => st_val hS10 rfl rfl rfl (r_nil hS10 rfl rfl) fun a11 hS11 => st_val hS11 rfl rfl rfl (r_fieldB (off := 2) hS11 rfl rfl (by kernel_rfl)) fun a12 hS12 => st_val hS12 rfl rfl rfl (r_load1 (n := 1) hS12 rfl rfl (by kernel_rfl) (Bx.cell hb0 rfl)) fun a13 hS13 => st_val hS13 rfl rfl rfl (r_len (e := 3) (sz := 1) (by_ := 8) hS13 rfl rfl (by kernel_rfl)) fun a14 hS14 => st_val hS14 rfl rfl rfl (r_bin hS14 rfl rfl rfl b_lss) fun a15 hS15 => wpList_nil (hR _ (hS15.re ⟨rfl, rfl, rfl, trivial⟩))) ?_
    clear hS
    clear a
    intro a hS
    refine c_cond hS rfl (fun hb16 => ?_) (fun hb16 => ?_)
    ·replace H := ite_t hb16 H
     refine wp_skip ?_
     change Code.wp _ _ _ _ _
     obtain ⟨o19, H, Hl20⟩ := bind_el H
     refine c_cut (fun a w17 => ∃ (g17 : Nat → Nat), o19 = .nxt () ∧ Sl 59 a [(0, .pointer (some ⟨b_p0, 0, none⟩)), (3, .int .i64 m0_0)] ∧ Bx w17 g17 (c0) b_p0 80 [.slice A_links_p0 p0.links.length cap_links_p0, .slice A_slots_p0 p0.slots.length cap_slots_p0, .slice A_at_p0 p0.at_.length cap_at_p0, .int .u64 p0.now] ∧ OwS (kint .i64) 3 w17 g17 (c0 + 3) A_at_p0 cap_at_p0 p0.at_ ∧ RdS kd_api_Link w17 g17 C_links_p0 A_links_p0 cap_links_p0 p0.links ∧ OwS kd_api_Slot 38 w17 g17 (c0 + 1) A_slots_p0 cap_slots_p0 p0.slots ∧ Fr (fun q => N ≤ q) w g w17 g17) ?_ ?_
     ·refine wp_block ?_
      obtain ⟨x26, hx27, H⟩ := bind_el H
      refine c_pure [(0, .pointer (some ⟨b_p0, 0, none⟩)), (3, .int .i64 m0_0), (4, .bool (decide (x26 < 0)))] (fun R hR => st_val hS rfl rfl rfl (r_move hS rfl rfl) fun a21 hS21 => st_val hS21 rfl rfl rfl (r_nil hS21 rfl rfl) fun a22 hS22 => st_val hS22 rfl rfl rfl (r_fieldB (off := 2) hS22 rfl rfl (by kernel_rfl)) fun a23 hS23 => st_val hS23 rfl rfl rfl (r_load1 (n := 1) hS23 rfl rfl (by kernel_rfl) (Bx.cell hb0 rfl)) fun a24 hS24 => st_val hS24 rfl rfl rfl (r_move hS24 rfl rfl) fun a25 hS25 => st_val hS25 rfl rfl rfl (r_index (e := 3) (sz := 1) (by_ := 8) hS25 rfl rfl rfl (by kernel_rfl) (RdS.some_ (OwS.rd hf0_at) hx27) (idx_lo hx27) (idx_hi hx27)) fun a28 hS28 => st_val hS28 rfl rfl rfl (r_load1 (n := 1) hS28 rfl rfl (by kernel_rfl) (RdS.cell (i := m0_0) (sz := 1) (j := 0) (OwS.rd hf0_at) hx27 rfl)) fun a29 hS29 => st_val hS29 rfl rfl rfl (r_bin hS29 rfl rfl rfl b_lss) fun a30 hS30 => st_val hS30 rfl rfl rfl (r_assign hS30 rfl rfl) fun a31 hS31 => wpList_nil (hR _ (hS31.re ⟨rfl, rfl, rfl, trivial⟩))) ?_
      clear hS
      clear a
      intro a hS
      obtain ⟨v33, H, Hl35⟩ := bind_el H
      refine c_cut (fun a w32 => ∃ (g32 : Nat → Nat), Sl 59 a [(0, .pointer (some ⟨b_p0, 0, none⟩)), (3, .int .i64 m0_0), (4, .bool v33)] ∧ Bx w32 g32 (c0) b_p0 80 [.slice A_links_p0 p0.links.length cap_links_p0, .slice A_slots_p0 p0.slots.length cap_slots_p0, .slice A_at_p0 p0.at_.length cap_at_p0, .int .u64 p0.now] ∧ OwS (kint .i64) 3 w32 g32 (c0 + 3) A_at_p0 cap_at_p0 p0.at_ ∧ RdS kd_api_Link w32 g32 C_links_p0 A_links_p0 cap_links_p0 p0.links ∧ OwS kd_api_Slot 38 w32 g32 (c0 + 1) A_slots_p0 cap_slots_p0 p0.slots ∧ Fr (fun q => N ≤ q) w g w32 g32) ?_ ?_
      ·refine c_pure [(0, .pointer (some ⟨b_p0, 0, none⟩)), (3, .int .i64 m0_0), (4, .bool (decide (x26 < 0))), (5, .int .i64 0)] (fun R hR => st_val hS rfl rfl rfl (r_assign hS rfl rfl) fun a36 hS36 => wpList_nil (hR _ (hS36.re ⟨rfl, rfl, rfl, rfl, trivial⟩))) ?_
       clear hS
       clear a
       intro a hS
       refine wp_block ?_
       refine wp_loop_ghost (fun kq => fun a w37 => ∃ (m1_0 : Bool), ∃ (m1_1 : Int), ∃ (g37 : Nat → Nat), ref31_plan_ready.l1 p0 m0_0 kq m1_0 m1_1 = some v33 ∧ Sl 59 a [(0, .pointer (some ⟨b_p0, 0, none⟩)), (3, .int .i64 m0_0), (4, .bool m1_0), (5, .int .i64 m1_1)] ∧ Bx w37 g37 (c0) b_p0 80 [.slice A_links_p0 p0.links.length cap_links_p0, .slice A_slots_p0 p0.slots.length cap_slots_p0, .slice A_at_p0 p0.at_.length cap_at_p0, .int .u64 p0.now] ∧ OwS (kint .i64) 3 w37 g37 (c0 + 3) A_at_p0 cap_at_p0 p0.at_ ∧ RdS kd_api_Link w37 g37 C_links_p0 A_links_p0 cap_links_p0 p0.links ∧ OwS kd_api_Slot 38 w37 g37 (c0 + 1) A_slots_p0 cap_slots_p0 p0.slots ∧ Fr (fun q => N ≤ q) w g w37 g37) FUEL ?_ ?_
       ·exact ⟨decide (x26 < 0), 0, g7, H, hS.re ⟨rfl, rfl, rfl, rfl, trivial⟩, hb0, hf0_at, hf0_links, hf0_slots, hF⟩
       ·clear H
        clear hf0_links hf0_slots hf0_at hb0 hF
        clear hS
        rintro k38 a w37 ⟨m1_0, m1_1, g37, hpre0, hS, hb0, hf0_at, hf0_links, hf0_slots, hF⟩
        have H := hpre0
        clear hpre0
        cases k38 with
        | zero => exact absurd H (by simp [ref31_plan_ready.l1])
        | succ k38 =>
         rw [ref31_plan_ready.l1] at H
         refine wp_seq ?_
         refine c_region (fun K hK => ?_)
         refine st_val hS rfl rfl rfl (r_move hS rfl rfl) fun a39 hS39 => st_val hS39 rfl rfl rfl (r_move hS39 rfl rfl) fun a40 hS40 => st_val hS40 rfl rfl rfl (r_nil hS40 rfl rfl) fun a41 hS41 => st_val hS41 rfl rfl rfl (r_fieldB (off := 0) hS41 rfl rfl (by kernel_rfl)) fun a42 hS42 => st_val hS42 rfl rfl rfl (r_load1 (n := 1) hS42 rfl rfl (by kernel_rfl) (Bx.cell hb0 rfl)) fun a43 hS43 => st_val hS43 rfl rfl rfl (r_len (e := 43) (sz := 2) (by_ := 16) hS43 rfl rfl (by kernel_rfl)) fun a44 hS44 => st_val hS44 rfl rfl rfl (r_bin hS44 rfl rfl rfl b_lss) fun a45 hS45 => st_val hS45 rfl rfl rfl (r_move hS45 rfl rfl) fun a46 hS46 => ?_
         refine g_join (N := 59) 2 [(0, .pointer (some ⟨b_p0, 0, none⟩)), (3, .int .i64 m0_0), (4, .bool m1_0), (5, .int .i64 m1_1), (32, .bool ((decide (m1_1 < (p0.links.length : Int))) && m1_0))] ?_ (fun hk => ?_)
         rotate_left
         ·rcases Bool.eq_false_or_eq_true (decide (m1_1 < (p0.links.length : Int))) with hb47 | hb47
          ·refine st_valW hS46 (want_on hS46 rfl rfl rfl hb47) rfl rfl (r_move hS46 rfl rfl) fun a49 hS49 => st_val hS49 rfl rfl rfl (r_pickT hS49 rfl rfl rfl hb47) fun a50 hS50 => hk _ (hS50.re ⟨rfl, rfl, rfl, rfl, (by rw [hb47]; rfl), trivial⟩)
          ·refine st_off hS46 (want_off hS46 rfl rfl rfl hb47) rfl rfl fun a51 hS51 => st_val hS51 rfl rfl rfl (r_pickF hS51 rfl rfl rfl hb47) fun a52 hS52 => hk _ (hS52.re ⟨rfl, rfl, rfl, rfl, (by rw [hb47]; rfl), trivial⟩)
         intro a53 hS53
         refine wpList_nil (hK _ _ ?_)
         replace hS : Sl 59 _ [(0, .pointer (some ⟨b_p0, 0, none⟩)), (3, .int .i64 m0_0), (4, .bool m1_0), (5, .int .i64 m1_1), (32, .bool ((decide (m1_1 < (p0.links.length : Int))) && m1_0))] := hS53.re ⟨rfl, rfl, rfl, rfl, rfl, trivial⟩
         clear hK K
         try clear hS39 hS40 hS41 hS42 hS43 hS44 hS45 hS46 hS53
         obtain ⟨a, ha⟩ : ∃ a', a' = a53 := ⟨_, rfl⟩
         rw [← ha] at hS ⊢; clear ha
         refine c_cond hS rfl (fun hb54 => ?_) (fun hb54 => ?_)
         ·replace H := ite_t hb54 H
          refine wp_skip ?_
          change Code.wp _ _ _ _ _
          refine wp_seq ?_
          refine wp_block ?_
          obtain ⟨x60, hx61, H⟩ := bind_el H
          obtain ⟨t82, ht83, H⟩ := bind_el H
          refine c_region1 (fun K hK => ?_)
          refine st_val hS rfl rfl rfl (r_move hS rfl rfl) fun a55 hS55 => st_val hS55 rfl rfl rfl (r_nil hS55 rfl rfl) fun a56 hS56 => st_val hS56 rfl rfl rfl (r_fieldB (off := 0) hS56 rfl rfl (by kernel_rfl)) fun a57 hS57 => st_val hS57 rfl rfl rfl (r_load1 (n := 1) hS57 rfl rfl (by kernel_rfl) (Bx.cell hb0 rfl)) fun a58 hS58 => st_val hS58 rfl rfl rfl (r_move hS58 rfl rfl) fun a59 hS59 => st_val hS59 rfl rfl rfl (r_index (e := 43) (sz := 2) (by_ := 16) hS59 rfl rfl rfl (by kernel_rfl) (RdS.some_ hf0_links hx61) (idx_lo hx61) (idx_hi hx61)) fun a62 hS62 => st_val hS62 rfl rfl rfl (r_fieldE (off := 0) hS62 rfl rfl (by kernel_rfl)) fun a63 hS63 => st_val hS63 rfl rfl rfl (r_load1 (n := 1) hS63 rfl rfl (by kernel_rfl) (RdS.cell (i := m1_1) (sz := 2) (j := 0) hf0_links hx61 rfl)) fun a64 hS64 => st_val hS64 rfl rfl rfl (r_move hS64 rfl rfl) fun a65 hS65 => st_val hS65 rfl rfl rfl (r_bin hS65 rfl rfl rfl b_neq) fun a66 hS66 => st_val hS66 rfl rfl rfl (r_move hS66 rfl rfl) fun a67 hS67 => ?_
          refine g_joinR 11 (fun a w84 => ∃ (g84 : Nat → Nat), Sl 59 a [(0, .pointer (some ⟨b_p0, 0, none⟩)), (3, .int .i64 m0_0), (4, .bool m1_0), (5, .int .i64 m1_1), (56, .bool t82)] ∧ Bx w84 g84 (c0) b_p0 80 [.slice A_links_p0 p0.links.length cap_links_p0, .slice A_slots_p0 p0.slots.length cap_slots_p0, .slice A_at_p0 p0.at_.length cap_at_p0, .int .u64 p0.now] ∧ OwS (kint .i64) 3 w84 g84 (c0 + 3) A_at_p0 cap_at_p0 p0.at_ ∧ RdS kd_api_Link w84 g84 C_links_p0 A_links_p0 cap_links_p0 p0.links ∧ OwS kd_api_Slot 38 w84 g84 (c0 + 1) A_slots_p0 cap_slots_p0 p0.slots ∧ Fr (fun q => N ≤ q) w g w84 g84) ?_ (fun hk => ?_)
          rotate_left
          ·rcases Bool.eq_false_or_eq_true ((x60.Consumer != m0_0)) with hb68 | hb68
           ·have H := ite_t hb68 ht83
            have e85 := Option.some.inj H
            refine st_off hS67 (want_off hS67 rfl rfl rfl hb68) rfl rfl fun a86 hS86 => st_off hS86 (want_off hS86 rfl rfl rfl hb68) rfl rfl fun a87 hS87 => st_off hS87 (want_off hS87 rfl rfl rfl hb68) rfl rfl fun a88 hS88 => st_off hS88 (want_off hS88 rfl rfl rfl hb68) rfl rfl fun a89 hS89 => st_off hS89 (want_off hS89 rfl rfl rfl hb68) rfl rfl fun a90 hS90 => st_off hS90 (want_off hS90 rfl rfl rfl hb68) rfl rfl fun a91 hS91 => st_off hS91 (want_off hS91 rfl rfl rfl hb68) rfl rfl fun a92 hS92 => st_off hS92 (want_off hS92 rfl rfl rfl hb68) rfl rfl fun a93 hS93 => st_off hS93 (want_off hS93 rfl rfl rfl hb68) rfl rfl fun a94 hS94 => st_off hS94 (want_off hS94 rfl rfl rfl hb68) rfl rfl fun a95 hS95 => st_val hS95 rfl rfl rfl (r_pickT hS95 rfl rfl rfl hb68) fun a96 hS96 => hk _ _ ?_
            exact ⟨g37, hS96.re ⟨rfl, rfl, rfl, rfl, (by rw [← e85]; rfl), trivial⟩, hb0, hf0_at, hf0_links, hf0_slots, hF⟩
           ·have H := ite_f hb68 ht83
            obtain ⟨r106, hr107, H⟩ := bind_el H
            have e110 := Option.some.inj H
            refine st_valW hS67 (want_on hS67 rfl rfl rfl hb68) rfl rfl (r_move hS67 rfl rfl) fun a97 hS97 => st_valW hS97 (want_on hS97 rfl rfl rfl hb68) rfl rfl (r_move hS97 rfl rfl) fun a98 hS98 => st_valW hS98 (want_on hS98 rfl rfl rfl hb68) rfl rfl (r_nil hS98 rfl rfl) fun a99 hS99 => st_valW hS99 (want_on hS99 rfl rfl rfl hb68) rfl rfl (r_fieldB (off := 0) hS99 rfl rfl (by kernel_rfl)) fun a100 hS100 => st_valW hS100 (want_on hS100 rfl rfl rfl hb68) rfl rfl (r_load1 (n := 1) hS100 rfl rfl (by kernel_rfl) (Bx.cell hb0 rfl)) fun a101 hS101 => st_valW hS101 (want_on hS101 rfl rfl rfl hb68) rfl rfl (r_move hS101 rfl rfl) fun a102 hS102 => st_valW hS102 (want_on hS102 rfl rfl rfl hb68) rfl rfl (r_index (e := 43) (sz := 2) (by_ := 16) hS102 rfl rfl rfl (by kernel_rfl) (RdS.some_ hf0_links hx61) (idx_lo hx61) (idx_hi hx61)) fun a103 hS103 => st_valW hS103 (want_on hS103 rfl rfl rfl hb68) rfl rfl (r_fieldE (off := 1) hS103 rfl rfl (by kernel_rfl)) fun a104 hS104 => st_valW hS104 (want_on hS104 rfl rfl rfl hb68) rfl rfl (r_load1 (n := 1) hS104 rfl rfl (by kernel_rfl) (RdS.cell (i := m1_1) (sz := 2) (j := 1) hf0_links hx61 rfl)) fun a105 hS105 => ?_
            refine st_enterW hS105 (want_on hS105 rfl rfl rfl hb68) rfl rfl (r_call hS105 rfl rfl (by kernel_rfl)) (ref31_plan_ended.calls (c0 := c0) (b_p0 := b_p0) (A_links_p0 := A_links_p0) (cap_links_p0 := cap_links_p0) (C_links_p0 := C_links_p0) (A_slots_p0 := A_slots_p0) (cap_slots_p0 := cap_slots_p0) (A_at_p0 := A_at_p0) (cap_at_p0 := cap_at_p0) (p0 := p0) (p1 := x60.Supplier) (g := g37) (N + 0)  ⟨hb0, hf0_links, hf0_slots, hf0_at⟩ (by omega) (fun q (hq : C_links_p0 q) => by have := hC_links_p0 q hq; omega) hr107) ?_
            rintro _ a108 w109 ⟨g109, rfl, F109⟩ hS108
            replace hb0 := hb0.fr F109 (fun (hm : N + 0 ≤ c0) => by omega)
            replace hf0_at := OwS.fr hf0_at F109 (fun c' hc (hm : N + 0 ≤ c') => by omega)
            replace hf0_links := RdS.fr hf0_links F109 (by decide) (fun q (hq : C_links_p0 q) (hm : N + 0 ≤ q) => by have := hC_links_p0 q hq; omega)
            replace hf0_slots := OwS.fr hf0_slots F109 (fun c' hc (hm : N + 0 ≤ c') => by omega)
            replace hF := hF.trans F109 (fun c' (hm : N + 0 ≤ c') => by show N ≤ c'; omega)
            refine st_val hS108 rfl rfl rfl (r_pickF hS108 rfl rfl rfl hb68) fun a111 hS111 => hk _ _ ?_
            exact ⟨g109, hS111.re ⟨rfl, rfl, rfl, rfl, (by rw [← e110]; rfl), trivial⟩, hb0, hf0_at, hf0_links, hf0_slots, hF⟩
          rintro a112 w84 ⟨g84, hS112, hb0, hf0_at, hf0_links, hf0_slots, hF⟩
          refine st_val hS112 rfl rfl rfl (r_assign hS112 rfl rfl) fun a113 hS113 => wpList_nil (hK _ _ ?_)
          replace hS : Sl 59 _ [(0, .pointer (some ⟨b_p0, 0, none⟩)), (3, .int .i64 m0_0), (4, .bool t82), (5, .int .i64 m1_1)] := hS113.re ⟨rfl, rfl, rfl, rfl, trivial⟩
          clear hK K
          try clear hS55 hS56 hS57 hS58 hS59 hS62 hS63 hS64 hS65 hS66 hS67 hS112 hS113
          obtain ⟨a, ha⟩ : ∃ a', a' = a113 := ⟨_, rfl⟩
          rw [← ha] at hS ⊢; clear ha
          change Code.wp _ _ _ _ _
          refine c_pure1 [(0, .pointer (some ⟨b_p0, 0, none⟩)), (3, .int .i64 m0_0), (4, .bool t82), (5, .int .i64 (wi (m1_1 + 1)))] (fun R hR => st_val hS rfl rfl rfl (r_move hS rfl rfl) fun a114 hS114 => st_val hS114 rfl rfl rfl (r_bin hS114 rfl rfl rfl b_add) fun a115 hS115 => st_val hS115 rfl rfl rfl (r_assign hS115 rfl rfl) fun a116 hS116 => wpList_nil (hR _ (hS116.re ⟨rfl, rfl, rfl, rfl, trivial⟩))) ?_
          clear hS
          clear a
          intro a hS
          refine ⟨k38, Nat.lt_succ_self _, ?_⟩
          exact ⟨t82, wi (m1_1 + 1), g84, H, hS.re ⟨rfl, rfl, rfl, rfl, trivial⟩, hb0, hf0_at, hf0_links, hf0_slots, hF⟩
         ·replace H := ite_f hb54 H
          refine wp_exit ?_
          have e := Option.some.inj H
          subst e
          exact ⟨g37, hS.re ⟨rfl, rfl, rfl, trivial⟩, hb0, hf0_at, hf0_links, hf0_slots, hF⟩
      ·clear H
       clear hf0_links hf0_slots hf0_at hb0 hF
       clear hS
       rintro a w32 ⟨g32, hS, hb0, hf0_at, hf0_links, hf0_slots, hF⟩
       have H := Hl35
       clear Hl35
       refine c_pure [(0, .pointer (some ⟨b_p0, 0, none⟩)), (3, .int .i64 m0_0), (57, .bool v33)] (fun R hR => st_val hS rfl rfl rfl (r_move hS rfl rfl) fun a117 hS117 => wpList_nil (hR _ (hS117.re ⟨rfl, rfl, rfl, trivial⟩))) ?_
       clear hS
       clear a
       intro a hS
       refine c_cond hS rfl (fun hb118 => ?_) (fun hb118 => ?_)
       ·replace H := ite_t hb118 H
        refine c_pure [(2, .int .i64 m0_0)] (fun R hR => st_val hS rfl rfl rfl (r_move hS rfl rfl) fun a119 hS119 => st_val hS119 rfl rfl rfl (r_assign hS119 rfl rfl) fun a120 hS120 => wpList_nil (hR _ (hS120.re ⟨rfl, trivial⟩))) ?_
        clear hS
        clear a
        intro a hS
        refine wp_ret ?_
        have e := Option.some.inj H
        subst e
        replace H := Fl.go_out Hl20
        have e := Option.some.inj H
        subst e
        replace H := Fl.go_out Hl5
        have e := Option.some.inj H
        subst e
        repeat (with_reducible first | refine then_ret ?_ | refine inBlock_ret ?_)
        exact c_ret1 hS Try.results40 rfl ⟨_, rfl, g32, rfl, hF⟩
       ·replace H := ite_f hb118 H
        refine wp_skip ?_
        have e := Option.some.inj H
        exact ⟨g32, e.symm, hS.re ⟨rfl, rfl, trivial⟩, hb0, hf0_at, hf0_links, hf0_slots, hF⟩
     ·clear H
      clear hf0_links hf0_slots hf0_at hb0 hF
      clear hS
      rintro a w17 ⟨g17, hpre0, hS, hb0, hf0_at, hf0_links, hf0_slots, hF⟩
      subst hpre0
      have H := Fl.go_nxt Hl20
      clear Hl20
      refine c_pure1 [(0, .pointer (some ⟨b_p0, 0, none⟩)), (3, .int .i64 (wi (m0_0 + 1)))] (fun R hR => st_val hS rfl rfl rfl (r_move hS rfl rfl) fun a121 hS121 => st_val hS121 rfl rfl rfl (r_bin hS121 rfl rfl rfl b_add) fun a122 hS122 => st_val hS122 rfl rfl rfl (r_assign hS122 rfl rfl) fun a123 hS123 => wpList_nil (hR _ (hS123.re ⟨rfl, rfl, trivial⟩))) ?_
      clear hS
      clear a
      intro a hS
      refine ⟨k8, Nat.lt_succ_self _, ?_⟩
      exact ⟨wi (m0_0 + 1), g17, H, hS.re ⟨rfl, rfl, trivial⟩, hb0, hf0_at, hf0_links, hf0_slots, hF⟩
    ·replace H := ite_f hb16 H
     refine wp_exit ?_
     have e := Option.some.inj H
     exact ⟨g7, e.symm, hS.re trivial, hb0, hf0_at, hf0_links, hf0_slots, hF⟩
 ·clear H
  clear hf0_links hf0_slots hf0_at hb0 hF
  clear hS
  rintro a w2 ⟨g2, hpre0, hS, hb0, hf0_at, hf0_links, hf0_slots, hF⟩
  subst hpre0
  have H := Fl.go_nxt Hl5
  clear Hl5
  refine c_pure [(2, .int .i64 (-1))] (fun R hR => st_val hS rfl rfl rfl (r_assign hS rfl rfl) fun a124 hS124 => wpList_nil (hR _ (hS124.re ⟨rfl, trivial⟩))) ?_
  clear hS
  clear a
  intro a hS
  refine wp_ret ?_
  have e := Option.some.inj H
  subst e
  repeat (with_reducible first | refine then_ret ?_ | refine inBlock_ret ?_)
  exact c_ret1 hS Try.results40 rfl ⟨_, rfl, g2, rfl, hF⟩


end Go.Proofs.Ythmjgadmadlpkaa.Sim

namespace Go.Proofs.Ythmjgadmadlpkaa.Sim
open Go
set_option linter.unusedVariables false
set_option linter.unusedSimpArgs false

/-! ### ref31_Schedule: function 19 -/
def ref31_Schedule.l0 (p0 : Int) : Nat → ref31_plan → Int → Option (ref31_plan)
 | 0, _, _ => none
 | k43 + 1, m0_0, m0_1 => if decide (m0_1 < p0) = true then ((app m0_0.at_ [(-1)]).bind fun y58 => ref31_Schedule.l0 p0 k43 (ref31_plan.mk m0_0.links ([] : List api_Slot) y58 m0_0.now) (wi (m0_1 + 1))) else (some (ref31_plan.mk m0_0.links ([] : List api_Slot) m0_0.at_ m0_0.now))
def ref31_Schedule.l2 (m1_0 : ref31_plan) : Nat → Int → Int → Option (Int)
 | 0, _, _ => none
 | k183 + 1, m2_0, m2_1 => if decide (m2_1 < (m1_0.slots.length : Int)) = true then (((idx m1_0.slots m2_1).bind fun x200 => if ((decide (m1_0.now < x200.End)) && ((m2_0 == 0) || (decide (x200.End < m2_0)))) = true then (some x200.End) else (some m2_0) : Option (Int)).bind fun v192 => ref31_Schedule.l2 m1_0 k183 v192 (wi (m2_1 + 1))) else (some m2_0)
def ref31_Schedule.l1 (p2 : List Int) (p3 : Int) : Nat → ref31_plan → Option ((List api_Slot) × Int)
 | 0, _ => none
 | k77 + 1, m1_0 => ((ref31_plan_ready.f m1_0).bind fun r87 => (ref31_plan_free.f m1_0 p3).bind fun r93 => if ((decide (0 ≤ r87)) && (decide (0 ≤ r93))) = true then ((idx m1_0.at_ r87).bind fun x113 => (idx p2 r87).bind fun x129 => (app m1_0.slots [(api_Slot.mk r87 r93 m1_0.now (wu (m1_0.now + x129)))]).bind fun y134 => some (.nxt (ref31_plan.mk m1_0.links y134 (upd m1_0.at_ r87 (m1_0.slots.length : Int)) m1_0.now))) else ((ref31_Schedule.l2 m1_0 FUEL 0 0 : Option (Int)).bind fun v179 => if (v179 == 0) = true then (some (.out (m1_0.slots, 0))) else (some (.nxt (ref31_plan.mk m1_0.links m1_0.slots m1_0.at_ v179)))) : Option (Fl ((List api_Slot) × Int) (ref31_plan))).bind fun o83 => o83.go fun v82 => ref31_Schedule.l1 p2 p3 k77 v82
def ref31_Schedule.f (p0 : Int) (p1 : List api_Link) (p2 : List Int) (p3 : Int) : Option ((List api_Slot) × Int) := (ref31_input.f p0 p1 p2 p3).bind fun r7 => if (r7 != 0) = true then (some ([], r7)) else (if (p3 == 0) = true then (some ([], 1)) else ((ref31_Schedule.l0 p0 FUEL (ref31_plan.mk p1 ([] : List api_Slot) ([] : List Int) 0) 0 : Option (ref31_plan)).bind fun v35 => ref31_Schedule.l1 p2 p3 FUEL (ref31_plan.mk v35.links ([] : List api_Slot) v35.at_ v35.now)))
set_option maxRecDepth 100000 in
set_option maxHeartbeats 4000000 in
theorem ref31_Schedule.calls {p0 : Int} {p1 : List api_Link} {A1 : Option Addr} {cap1 : Nat} {C1 : Nat → Prop} {p2 : List Int} {A2 : Option Addr} {cap2 : Nat} {C2 : Nat → Prop} {p3 : Int} {w : World} {g : Nat → Nat} {out : (List api_Slot) × Int} (N : Nat) (r0 : Nat) (hp1 : RdS kd_api_Link w g C1 A1 cap1 p1) (hC1 : ∀ c, C1 c → c < N) (hp2 : RdS (kint .u64) w g C2 A2 cap2 p2) (hC2 : ∀ c, C2 c → c < N) (hr0 : r0 + 2 ≤ N) (H : ref31_Schedule.f p0 p1 p2 p3 = some out) :
  Calls Try.prog 19 #[.int .i64 p0, .slice A1 p1.length cap1, .slice A2 p2.length cap2, .int .i64 p3] w (fun e w' => ∃ v, e = .returned v ∧ ∃ (g' : Nat → Nat) (A_r0 : Option Addr) (cap_r0 : Nat), v = .tuple #[.slice A_r0 out.1.length cap_r0, .int .i64 out.2] ∧ OwS kd_api_Slot 38 w' g' r0 A_r0 cap_r0 out.1 ∧ Fr (fun q => (r0 ≤ q ∧ q < r0 + 2) ∨ N ≤ q) w g w' g') := by
 unfold ref31_Schedule.f at H
 refine calls_enter Try.func19 rfl Try.ntmps19 rfl (fun a hS => ?_)
 replace hS : Sl 135 a [(0, .int .i64 p0), (1, .slice A1 p1.length cap1), (2, .slice A2 p2.length cap2), (3, .int .i64 p3)] := hS
 have hF : Fr (fun q => (r0 ≤ q ∧ q < r0 + 2) ∨ N ≤ q) w g w g := Fr.refl _ _ _
 refine c_pure [(0, .int .i64 p0), (1, .slice A1 p1.length cap1), (2, .slice A2 p2.length cap2), (3, .int .i64 p3)] (fun R hR => st_val hS rfl rfl rfl (r_assign hS rfl rfl) fun a1 hS1 => st_val hS1 rfl rfl rfl (r_assign hS1 rfl rfl) fun a2 hS2 => wpList_nil (hR _ (hS2.re ⟨rfl, rfl, rfl, rfl, trivial⟩))) ?_
 clear hS
 clear a
 intro a hS
 refine wp_seq ?_
 obtain ⟨r7, hr8, H⟩ := bind_el H
 refine c_region (fun K hK => ?_)
 refine st_val hS rfl rfl rfl (r_move hS rfl rfl) fun a3 hS3 => st_val hS3 rfl rfl rfl (r_move hS3 rfl rfl) fun a4 hS4 => st_val hS4 rfl rfl rfl (r_move hS4 rfl rfl) fun a5 hS5 => st_val hS5 rfl rfl rfl (r_move hS5 rfl rfl) fun a6 hS6 => ?_
 refine st_enter hS6 rfl rfl rfl (r_call hS6 rfl rfl (by kernel_rfl)) (ref31_input.calls (C1 := C1) (C2 := C2) (p0 := p0) (p1 := p1) (p2 := p2) (p3 := p3) (g := g) (N + 11)  hp1 (fun q (hq : C1 q) => by have := hC1 q hq; omega) hp2 (fun q (hq : C2 q) => by have := hC2 q hq; omega) hr8) ?_
 rintro _ a9 w10 ⟨g10, rfl, F10⟩ hS9
 replace hp1 := RdS.fr hp1 F10 (by decide) (fun q (hq : C1 q) (hm : N + 11 ≤ q) => by have := hC1 q hq; omega)
 replace hp2 := RdS.fr hp2 F10 (by decide) (fun q (hq : C2 q) (hm : N + 11 ≤ q) => by have := hC2 q hq; omega)
 replace hF := hF.trans F10 (fun c' (hm : N + 11 ≤ c') => by show (r0 ≤ c' ∧ c' < r0 + 2) ∨ N ≤ c'; omega)
 refine st_val hS9 rfl rfl rfl (r_assign hS9 rfl rfl) fun a11 hS11 => wpList_nil (hK _ _ ?_)
 replace hS : Sl 135 _ [(0, .int .i64 p0), (1, .slice A1 p1.length cap1), (2, .slice A2 p2.length cap2), (3, .int .i64 p3), (10, .int .i64 r7)] := hS11.re ⟨rfl, rfl, rfl, rfl, rfl, trivial⟩
 clear hK K
 try clear hS3 hS4 hS5 hS6 hS9 hS11
 obtain ⟨a, ha⟩ : ∃ a', a' = a11 := ⟨_, rfl⟩
 rw [← ha] at hS ⊢; clear ha
 refine c_pure [(0, .int .i64 p0), (1, .slice A1 p1.length cap1), (2, .slice A2 p2.length cap2), (3, .int .i64 p3), (10, .int .i64 r7), (24, .bool (r7 != 0))] (fun R hR => st_val hS rfl rfl rfl (r_move hS rfl rfl) fun a12 hS12 => st_val hS12 rfl rfl rfl (r_bin hS12 rfl rfl rfl b_neq) fun a13 hS13 => wpList_nil (hR _ (hS13.re ⟨rfl, rfl, rfl, rfl, rfl, rfl, trivial⟩))) ?_
 clear hS
 clear a
 intro a hS
 refine c_cond hS rfl (fun hb14 => ?_) (fun hb14 => ?_)
 ·replace H := ite_t hb14 H
  refine c_pure [(8, .slice none 0 0), (9, .int .i64 r7)] (fun R hR => st_val hS rfl rfl rfl (r_move hS rfl rfl) fun a15 hS15 => st_val hS15 rfl rfl rfl (r_assign hS15 rfl rfl) fun a16 hS16 => st_val hS16 rfl rfl rfl (r_assign hS16 rfl rfl) fun a17 hS17 => wpList_nil (hR _ (hS17.re ⟨rfl, rfl, trivial⟩))) ?_
  clear hS
  clear a
  intro a hS
  refine wp_ret ?_
  have e := Option.some.inj H
  subst e
  repeat (with_reducible first | refine then_ret ?_ | refine inBlock_ret ?_)
  exact c_ret2 hS Try.results19 rfl rfl ⟨_, rfl, g10, none, 0, rfl, OwS.nil kd_api_Slot 38 w10 g10 r0, hF⟩
 ·replace H := ite_f hb14 H
  refine wp_skip ?_
  change Code.wp _ _ _ _ _
  refine wp_seq ?_
  refine c_pure [(0, .int .i64 p0), (1, .slice A1 p1.length cap1), (2, .slice A2 p2.length cap2), (3, .int .i64 p3), (27, .bool (p3 == 0))] (fun R hR => st_val hS rfl rfl rfl (r_move hS rfl rfl) fun a18 hS18 => st_val hS18 rfl rfl rfl (r_bin hS18 rfl rfl rfl b_eql) fun a19 hS19 => wpList_nil (hR _ (hS19.re ⟨rfl, rfl, rfl, rfl, rfl, trivial⟩))) ?_
  clear hS
  clear a
  intro a hS
  refine c_cond hS rfl (fun hb20 => ?_) (fun hb20 => ?_)
  ·replace H := ite_t hb20 H
   refine c_pure [(8, .slice none 0 0), (9, .int .i64 1)] (fun R hR => st_val hS rfl rfl rfl (r_assign hS rfl rfl) fun a21 hS21 => st_val hS21 rfl rfl rfl (r_assign hS21 rfl rfl) fun a22 hS22 => wpList_nil (hR _ (hS22.re ⟨rfl, rfl, trivial⟩))) ?_
   clear hS
   clear a
   intro a hS
   refine wp_ret ?_
   have e := Option.some.inj H
   subst e
   repeat (with_reducible first | refine then_ret ?_ | refine inBlock_ret ?_)
   exact c_ret2 hS Try.results19 rfl rfl ⟨_, rfl, g10, none, 0, rfl, OwS.nil kd_api_Slot 38 w10 g10 r0, hF⟩
  ·replace H := ite_f hb20 H
   refine wp_skip ?_
   change Code.wp _ _ _ _ _
   refine c_region (fun K hK => ?_)
   refine st_val hS rfl rfl rfl (r_move hS rfl rfl) fun a23 hS23 => st_val hS23 rfl rfl rfl (r_build (parts := [(0, .slice A1 p1.length cap1)]) (u := .agg #[.slice A1 p1.length cap1, .slice none 0 0, .slice none 0 0, .int .u64 0]) hS23 rfl rfl (fun _ => by kernel_rfl)) fun a24 hS24 => ?_
   refine st_eff hS24 rfl rfl rfl (e_box (cs := [.slice A1 p1.length cap1, .slice none 0 0, .slice none 0 0, .int .u64 0]) (N + 0) g10 hS24 rfl rfl rfl) ?_
   rintro _ a28 w29 g29 ⟨⟨b25, rfl, h26⟩, F29⟩ hS28
   replace hp1 := RdS.fr hp1 F29 (by decide) (fun _ _ h => h)
   replace hp2 := RdS.fr hp2 F29 (by decide) (fun _ _ h => h)
   replace hF := hF.trans F29 (fun _ h => h.elim)
   refine st_val hS28 rfl rfl rfl (r_assign hS28 rfl rfl) fun a30 hS30 => wpList_nil (hK _ _ ?_)
   replace hS : Sl 135 _ [(0, .int .i64 p0), (2, .slice A2 p2.length cap2), (3, .int .i64 p3), (11, .pointer (some ⟨b25, 0, none⟩))] := hS30.re ⟨rfl, rfl, rfl, rfl, trivial⟩
   clear hK K
   try clear hS23 hS24 hS28 hS30
   obtain ⟨a, ha⟩ : ∃ a', a' = a30 := ⟨_, rfl⟩
   rw [← ha] at hS ⊢; clear ha
   obtain ⟨v35, H, Hl37⟩ := bind_el H
   refine c_cut (fun a w31 => ∃ (g31 : Nat → Nat), ∃ (A32 : Option Addr), ∃ (cap33 : Nat), Sl 135 a [(2, .slice A2 p2.length cap2), (3, .int .i64 p3), (11, .pointer (some ⟨b25, 0, none⟩))] ∧ Bx w31 g31 (N + 0) b25 80 [.slice A1 v35.links.length cap1, .slice none 0 0, .slice A32 v35.at_.length cap33, .int .u64 v35.now] ∧ OwS (kint .i64) 3 w31 g31 (N + 7) A32 cap33 v35.at_ ∧ RdS kd_api_Link w31 g31 C1 A1 cap1 v35.links ∧ RdS (kint .u64) w31 g31 C2 A2 cap2 p2 ∧ Fr (fun q => (r0 ≤ q ∧ q < r0 + 2) ∨ N ≤ q) w g w31 g31) ?_ ?_
   ·refine c_pure [(0, .int .i64 p0), (2, .slice A2 p2.length cap2), (3, .int .i64 p3), (11, .pointer (some ⟨b25, 0, none⟩)), (12, .int .i64 0)] (fun R hR => st_val hS rfl rfl rfl (r_assign hS rfl rfl) fun a38 hS38 => wpList_nil (hR _ (hS38.re ⟨rfl, rfl, rfl, rfl, rfl, trivial⟩))) ?_
    clear hS
    clear a
    intro a hS
    refine wp_block ?_
    refine wp_loop_ghost (fun kq => fun a w39 => ∃ (m0_0 : ref31_plan), ∃ (m0_1 : Int), ∃ (g39 : Nat → Nat), ∃ (A40 : Option Addr), ∃ (cap41 : Nat), ref31_Schedule.l0 p0 kq m0_0 m0_1 = some v35 ∧ Sl 135 a [(0, .int .i64 p0), (2, .slice A2 p2.length cap2), (3, .int .i64 p3), (11, .pointer (some ⟨b25, 0, none⟩)), (12, .int .i64 m0_1)] ∧ Bx w39 g39 (N + 0) b25 80 [.slice A1 m0_0.links.length cap1, .slice none 0 0, .slice A40 m0_0.at_.length cap41, .int .u64 m0_0.now] ∧ OwS (kint .i64) 3 w39 g39 (N + 7) A40 cap41 m0_0.at_ ∧ RdS kd_api_Link w39 g39 C1 A1 cap1 m0_0.links ∧ RdS (kint .u64) w39 g39 C2 A2 cap2 p2 ∧ Fr (fun q => (r0 ≤ q ∧ q < r0 + 2) ∨ N ≤ q) w g w39 g39) FUEL ?_ ?_
    ·exact ⟨(ref31_plan.mk p1 ([] : List api_Slot) ([] : List Int) 0), 0, g29, none, 0, H, hS.re ⟨rfl, rfl, rfl, rfl, rfl, trivial⟩, h26, OwS.nil (kint .i64) 3 w29 g29 (N + 7), hp1, hp2, hF⟩
    ·clear H
     clear hp1 hp2 h26 hF
     clear hS
     rintro k43 a w39 ⟨m0_0, m0_1, g39, A40, cap41, hpre0, hS, h26, h42, hp1, hp2, hF⟩
     have H := hpre0
     clear hpre0
     cases k43 with
     | zero => exact absurd H (by simp [ref31_Schedule.l0])
     | succ k43 =>
      rw [ref31_Schedule.l0] at H
      refine wp_seq ?_
      refine c_pure [(0, .int .i64 p0), (2, .slice A2 p2.length cap2), (3, .int .i64 p3), (11, .pointer (some ⟨b25, 0, none⟩)), (12, .int .i64 m0_1), (33, .bool (decide (m0_1 < p0)))] (fun R hR => st_val hS rfl rfl rfl (r_move hS rfl rfl) fun a44 hS44 => st_val hS44 rfl rfl rfl (r_move hS44 rfl rfl) fun a45 hS45 => st_val hS45 rfl rfl rfl (r_bin hS45 rfl rfl rfl b_lss) fun a46 hS46 => wpList_nil (hR _ (hS46.re ⟨rfl, rfl, rfl, rfl, rfl, rfl, trivial⟩))) ?_
      clear hS
      clear a
      intro a hS
      refine c_cond hS rfl (fun hb47 => ?_) (fun hb47 => ?_)
      ·replace H := ite_t hb47 H
       refine wp_skip ?_
       change Code.wp _ _ _ _ _
       refine wp_seq ?_
       refine wp_block ?_
       obtain ⟨y58, hy59, H⟩ := bind_el H
       refine c_region1 (fun K hK => ?_)
       refine st_val hS rfl rfl rfl (r_move hS rfl rfl) fun a48 hS48 => st_val hS48 rfl rfl rfl (r_move hS48 rfl rfl) fun a49 hS49 => st_val hS49 rfl rfl rfl (r_nil hS49 rfl rfl) fun a50 hS50 => st_val hS50 rfl rfl rfl (r_fieldB (off := 2) hS50 rfl rfl (by kernel_rfl)) fun a51 hS51 => st_val hS51 rfl rfl rfl (r_load1 (n := 1) hS51 rfl rfl (by kernel_rfl) (Bx.cell h26 rfl)) fun a52 hS52 => ?_
       refine st_eff hS52 rfl rfl rfl (e_lit (e := 3) (parts := [(0, .int .i64 (-1))]) (cs := [.int .i64 (-1)]) (kint .i64) [(-1)] (N + 5) g39 hS52 rfl rfl (fun _ => by kernel_rfl) rfl (by decide) (Rows.cons (cs := [.int .i64 (-1)]) rfl Rows.nil)) ?_
       rintro _ a56 w57 g57 ⟨⟨A53, rfl, h54⟩, F57⟩ hS56
       replace h26 := h26.fr F57 (fun h => h)
       replace h42 := OwS.fr h42 F57 (fun _ _ h => h)
       replace hp1 := RdS.fr hp1 F57 (by decide) (fun _ _ h => h)
       replace hp2 := RdS.fr hp2 F57 (by decide) (fun _ _ h => h)
       replace hF := hF.trans F57 (fun _ h => h.elim)
       refine st_eff hS56 rfl rfl rfl (e_append (e := 3) (sz := 1) (by_ := 8) (z := [.int .i64 0]) (kd := (kint .i64)) g57 hS56 rfl rfl rfl rfl (by kernel_rfl) (by kernel_rfl) rfl rfl rfl rfl h42 (OwD.rdx h54) (fun _ _ _ h => h) hy59) ?_
       rintro _ a64 w65 g65 ⟨⟨A60, cap61, rfl, h62⟩, F65⟩ hS64
       replace h26 := h26.fr F65 (fun (hm : N + 0 = N + 7) => by omega)
       replace h54 := OwS.fr h54 F65 (fun c' hc (hm : c' = N + 7) => by omega)
       replace hp1 := RdS.fr hp1 F65 (by decide) (fun q (hq : C1 q) (hm : q = N + 7) => by have := hC1 q hq; omega)
       replace hp2 := RdS.fr hp2 F65 (by decide) (fun q (hq : C2 q) (hm : q = N + 7) => by have := hC2 q hq; omega)
       replace hF := hF.trans F65 (fun c' (hm : c' = N + 7) => by show (r0 ≤ c' ∧ c' < r0 + 2) ∨ N ≤ c'; omega)
       refine st_val hS64 rfl rfl rfl (r_nil hS64 rfl rfl) fun a66 hS66 => st_val hS66 rfl rfl rfl (r_fieldB (off := 2) hS66 rfl rfl (by kernel_rfl)) fun a67 hS67 => ?_
       refine st_effS hS67 rfl rfl (e_storeB (n := 1) (bb := false) (cs' := [.slice A1 m0_0.links.length cap1, .slice none 0 0, .slice A60 y58.length cap61, .int .u64 m0_0.now]) g65 hS67 rfl rfl rfl (by kernel_rfl) rfl rfl rfl h26 rfl rfl) ?_
       rintro a68 w69 g69 ⟨h26, F69⟩ hS68
       replace h54 := OwS.fr h54 F69 (fun c' hc (hm : c' = N + 0) => by omega)
       replace h62 := OwS.fr h62 F69 (fun c' hc (hm : c' = N + 0) => by omega)
       replace hp1 := RdS.fr hp1 F69 (by decide) (fun q (hq : C1 q) (hm : q = N + 0) => by have := hC1 q hq; omega)
       replace hp2 := RdS.fr hp2 F69 (by decide) (fun q (hq : C2 q) (hm : q = N + 0) => by have := hC2 q hq; omega)
       replace hF := hF.trans F69 (fun c' (hm : c' = N + 0) => by show (r0 ≤ c' ∧ c' < r0 + 2) ∨ N ≤ c'; omega)
       refine wpList_nil (hK _ _ ?_)
       replace hS : Sl 135 _ [(0, .int .i64 p0), (2, .slice A2 p2.length cap2), (3, .int .i64 p3), (11, .pointer (some ⟨b25, 0, none⟩)), (12, .int .i64 m0_1)] := hS68.re ⟨rfl, rfl, rfl, rfl, rfl, trivial⟩
       clear hK K
       try clear hS48 hS49 hS50 hS51 hS52 hS56 hS64 hS66 hS67 hS68
       obtain ⟨a, ha⟩ : ∃ a', a' = a68 := ⟨_, rfl⟩
       rw [← ha] at hS ⊢; clear ha
       change Code.wp _ _ _ _ _
       refine c_pure1 [(0, .int .i64 p0), (2, .slice A2 p2.length cap2), (3, .int .i64 p3), (11, .pointer (some ⟨b25, 0, none⟩)), (12, .int .i64 (wi (m0_1 + 1)))] (fun R hR => st_val hS rfl rfl rfl (r_move hS rfl rfl) fun a70 hS70 => st_val hS70 rfl rfl rfl (r_bin hS70 rfl rfl rfl b_add) fun a71 hS71 => st_val hS71 rfl rfl rfl (r_assign hS71 rfl rfl) fun a72 hS72 => wpList_nil (hR _ (hS72.re ⟨rfl, rfl, rfl, rfl, rfl, trivial⟩))) ?_
       clear hS
       clear a
       intro a hS
       refine ⟨k43, Nat.lt_succ_self _, ?_⟩
       exact ⟨(ref31_plan.mk m0_0.links ([] : List api_Slot) y58 m0_0.now), wi (m0_1 + 1), g69, A60, cap61, H, hS.re ⟨rfl, rfl, rfl, rfl, rfl, trivial⟩, h26, h62, hp1, hp2, hF⟩
      ·replace H := ite_f hb47 H
       refine wp_exit ?_
       have e := Option.some.inj H
       subst e
       exact ⟨g39, A40, cap41, hS.re ⟨rfl, rfl, rfl, trivial⟩, h26, h42, hp1, hp2, hF⟩
   ·clear H
    clear hp1 hp2 h26 hF
    clear hS
    rintro a w31 ⟨g31, A32, cap33, hS, h26, h34, hp1, hp2, hF⟩
    have H := Hl37
    clear Hl37
    refine wp_block ?_
    refine wp_loop_ghost (fun kq => fun a w73 => ∃ (m1_0 : ref31_plan), ∃ (g73 : Nat → Nat), ∃ (A74 : Option Addr), ∃ (cap75 : Nat), ref31_Schedule.l1 p2 p3 kq m1_0 = some out ∧ Sl 135 a [(2, .slice A2 p2.length cap2), (3, .int .i64 p3), (11, .pointer (some ⟨b25, 0, none⟩))] ∧ Bx w73 g73 (N + 0) b25 80 [.slice A1 m1_0.links.length cap1, .slice A74 m1_0.slots.length cap75, .slice A32 m1_0.at_.length cap33, .int .u64 m1_0.now] ∧ OwS (kint .i64) 3 w73 g73 (N + 7) A32 cap33 m1_0.at_ ∧ OwS kd_api_Slot 38 w73 g73 (N + 0 + 1) A74 cap75 m1_0.slots ∧ RdS kd_api_Link w73 g73 C1 A1 cap1 m1_0.links ∧ RdS (kint .u64) w73 g73 C2 A2 cap2 p2 ∧ Fr (fun q => (r0 ≤ q ∧ q < r0 + 2) ∨ N ≤ q) w g w73 g73) FUEL ?_ ?_
    ·exact ⟨(ref31_plan.mk v35.links ([] : List api_Slot) v35.at_ v35.now), g31, none, 0, H, hS.re ⟨rfl, rfl, rfl, trivial⟩, h26, h34, OwS.nil kd_api_Slot 38 w31 g31 (N + 0 + 1), hp1, hp2, hF⟩
    ·clear H
     clear hp1 hp2 h26 h34 hF
     clear hS
     rintro k77 a w73 ⟨m1_0, g73, A74, cap75, hpre0, hS, h26, h34, h76, hp1, hp2, hF⟩
     have H := hpre0
     clear hpre0
     cases k77 with
     | zero => exact absurd H (by simp [ref31_Schedule.l1])
     | succ k77 =>
      rw [ref31_Schedule.l1] at H
      obtain ⟨o83, H, Hl84⟩ := bind_el H
      refine c_cut1 (fun a w78 => ∃ (v82 : ref31_plan), ∃ (g78 : Nat → Nat), ∃ (A79 : Option Addr), ∃ (cap80 : Nat), o83 = .nxt v82 ∧ Sl 135 a [(2, .slice A2 p2.length cap2), (3, .int .i64 p3), (11, .pointer (some ⟨b25, 0, none⟩))] ∧ Bx w78 g78 (N + 0) b25 80 [.slice A1 v82.links.length cap1, .slice A79 v82.slots.length cap80, .slice A32 v82.at_.length cap33, .int .u64 v82.now] ∧ OwS (kint .i64) 3 w78 g78 (N + 7) A32 cap33 v82.at_ ∧ OwS kd_api_Slot 38 w78 g78 (N + 0 + 1) A79 cap80 v82.slots ∧ RdS kd_api_Link w78 g78 C1 A1 cap1 v82.links ∧ RdS (kint .u64) w78 g78 C2 A2 cap2 p2 ∧ Fr (fun q => (r0 ≤ q ∧ q < r0 + 2) ∨ N ≤ q) w g w78 g78) ?_ ?_
      ·refine wp_block ?_
       obtain ⟨r87, hr88, H⟩ := bind_el H
       obtain ⟨r93, hr94, H⟩ := bind_el H
       refine c_region (fun K hK => ?_)
       refine st_val hS rfl rfl rfl (r_move hS rfl rfl) fun a85 hS85 => ?_
       have F86 := Fr.recol2 w73 g73 (N + 7) (N + 0 + 3)
       replace h34 := h34.recol2 (N + 0 + 3)
       replace h26 := h26.fr F86 (fun (hm : N + 0 = N + 7 ∨ N + 0 = N + 7 + 1) => by omega)
       replace h76 := OwS.fr h76 F86 (fun c' hc (hm : c' = N + 7 ∨ c' = N + 7 + 1) => by omega)
       replace hp1 := RdS.fr hp1 F86 (by decide) (fun q (hq : C1 q) (hm : q = N + 7 ∨ q = N + 7 + 1) => by have := hC1 q hq; omega)
       replace hp2 := RdS.fr hp2 F86 (by decide) (fun q (hq : C2 q) (hm : q = N + 7 ∨ q = N + 7 + 1) => by have := hC2 q hq; omega)
       replace hF := hF.trans F86 (fun c' (hm : c' = N + 7 ∨ c' = N + 7 + 1) => by show (r0 ≤ c' ∧ c' < r0 + 2) ∨ N ≤ c'; omega)
       refine st_enter hS85 rfl rfl rfl (r_call hS85 rfl rfl (by kernel_rfl)) (ref31_plan_ready.calls (c0 := N + 0) (b_p0 := b25) (A_links_p0 := A1) (cap_links_p0 := cap1) (C_links_p0 := C1) (A_slots_p0 := A74) (cap_slots_p0 := cap75) (A_at_p0 := A32) (cap_at_p0 := cap33) (p0 := m1_0) (g := (recol2 g73 (N + 7) (N + 0 + 3))) (N + 11)  ⟨h26, hp1, h76, h34⟩ (by omega) (fun q (hq : C1 q) => by have := hC1 q hq; omega) hr88) ?_
       rintro _ a89 w90 ⟨g90, rfl, F90⟩ hS89
       replace h26 := h26.fr F90 (fun (hm : N + 11 ≤ N + 0) => by omega)
       replace h34 := OwS.fr h34 F90 (fun c' hc (hm : N + 11 ≤ c') => by omega)
       replace h76 := OwS.fr h76 F90 (fun c' hc (hm : N + 11 ≤ c') => by omega)
       replace hp1 := RdS.fr hp1 F90 (by decide) (fun q (hq : C1 q) (hm : N + 11 ≤ q) => by have := hC1 q hq; omega)
       replace hp2 := RdS.fr hp2 F90 (by decide) (fun q (hq : C2 q) (hm : N + 11 ≤ q) => by have := hC2 q hq; omega)
       replace hF := hF.trans F90 (fun c' (hm : N + 11 ≤ c') => by show (r0 ≤ c' ∧ c' < r0 + 2) ∨ N ≤ c'; omega)
       refine st_val hS89 rfl rfl rfl (r_move hS89 rfl rfl) fun a91 hS91 => st_val hS91 rfl rfl rfl (r_move hS91 rfl rfl) fun a92 hS92 => ?_
       refine st_enter hS92 rfl rfl rfl (r_call hS92 rfl rfl (by kernel_rfl)) (ref31_plan_free.calls (c0 := N + 0) (b_p0 := b25) (A_links_p0 := A1) (cap_links_p0 := cap1) (C_links_p0 := C1) (A_slots_p0 := A74) (cap_slots_p0 := cap75) (A_at_p0 := A32) (cap_at_p0 := cap33) (p0 := m1_0) (p1 := p3) (g := g90) (N + 11)  ⟨h26, hp1, h76, h34⟩ (by omega) (fun q (hq : C1 q) => by have := hC1 q hq; omega) hr94) ?_
       rintro _ a95 w96 ⟨g96, rfl, F96⟩ hS95
       replace h26 := h26.fr F96 (fun (hm : N + 11 ≤ N + 0) => by omega)
       replace h34 := OwS.fr h34 F96 (fun c' hc (hm : N + 11 ≤ c') => by omega)
       replace h76 := OwS.fr h76 F96 (fun c' hc (hm : N + 11 ≤ c') => by omega)
       replace hp1 := RdS.fr hp1 F96 (by decide) (fun q (hq : C1 q) (hm : N + 11 ≤ q) => by have := hC1 q hq; omega)
       replace hp2 := RdS.fr hp2 F96 (by decide) (fun q (hq : C2 q) (hm : N + 11 ≤ q) => by have := hC2 q hq; omega)
       replace hF := hF.trans F96 (fun c' (hm : N + 11 ≤ c') => by show (r0 ≤ c' ∧ c' < r0 + 2) ∨ N ≤ c'; omega)
       refine st_val hS95 rfl rfl rfl (r_assign hS95 rfl rfl) fun a97 hS97 => st_val hS97 rfl rfl rfl (r_assign hS97 rfl rfl) fun a98 hS98 => wpList_nil (hK _ _ ?_)
       replace hS : Sl 135 _ [(2, .slice A2 p2.length cap2), (3, .int .i64 p3), (11, .pointer (some ⟨b25, 0, none⟩)), (13, .int .i64 r87), (14, .int .i64 r93)] := hS98.re ⟨rfl, rfl, rfl, rfl, rfl, trivial⟩
       clear hK K
       try clear hS85 hS89 hS91 hS92 hS95 hS97 hS98
       obtain ⟨a, ha⟩ : ∃ a', a' = a98 := ⟨_, rfl⟩
       rw [← ha] at hS ⊢; clear ha
       refine wp_seq ?_
       refine c_region (fun K hK => ?_)
       refine st_val hS rfl rfl rfl (r_move hS rfl rfl) fun a99 hS99 => st_val hS99 rfl rfl rfl (r_bin hS99 rfl rfl rfl b_geq) fun a100 hS100 => st_val hS100 rfl rfl rfl (r_move hS100 rfl rfl) fun a101 hS101 => ?_
       refine g_join (N := 135) 3 [(2, .slice A2 p2.length cap2), (3, .int .i64 p3), (11, .pointer (some ⟨b25, 0, none⟩)), (13, .int .i64 r87), (14, .int .i64 r93), (55, .bool ((decide (0 ≤ r87)) && (decide (0 ≤ r93))))] ?_ (fun hk => ?_)
       rotate_left
       ·rcases Bool.eq_false_or_eq_true (decide (0 ≤ r87)) with hb102 | hb102
        ·refine st_valW hS101 (want_on hS101 rfl rfl rfl hb102) rfl rfl (r_move hS101 rfl rfl) fun a105 hS105 => st_valW hS105 (want_on hS105 rfl rfl rfl hb102) rfl rfl (r_bin hS105 rfl rfl rfl b_geq) fun a106 hS106 => st_val hS106 rfl rfl rfl (r_pickT hS106 rfl rfl rfl hb102) fun a107 hS107 => hk _ (hS107.re ⟨rfl, rfl, rfl, rfl, rfl, (by rw [hb102]; rfl), trivial⟩)
        ·refine st_off hS101 (want_off hS101 rfl rfl rfl hb102) rfl rfl fun a108 hS108 => st_off hS108 (want_off hS108 rfl rfl rfl hb102) rfl rfl fun a109 hS109 => st_val hS109 rfl rfl rfl (r_pickF hS109 rfl rfl rfl hb102) fun a110 hS110 => hk _ (hS110.re ⟨rfl, rfl, rfl, rfl, rfl, (by rw [hb102]; rfl), trivial⟩)
       intro a111 hS111
       refine wpList_nil (hK _ _ ?_)
       replace hS : Sl 135 _ [(2, .slice A2 p2.length cap2), (3, .int .i64 p3), (11, .pointer (some ⟨b25, 0, none⟩)), (13, .int .i64 r87), (14, .int .i64 r93), (55, .bool ((decide (0 ≤ r87)) && (decide (0 ≤ r93))))] := hS111.re ⟨rfl, rfl, rfl, rfl, rfl, rfl, trivial⟩
       clear hK K
       try clear hS99 hS100 hS101 hS111
       obtain ⟨a, ha⟩ : ∃ a', a' = a111 := ⟨_, rfl⟩
       rw [← ha] at hS ⊢; clear ha
       refine c_cond hS rfl (fun hb112 => ?_) (fun hb112 => ?_)
       ·replace H := ite_t hb112 H
        obtain ⟨x113, hx114, H⟩ := bind_el H
        refine c_draw (fun K hK => d_start (fun q => False) g96 [11] 12 #[false, false, false, false, false, false, false, false, false, false, false, false] (by kernel_rfl) rfl rfl (fun w115 hw115 => ?_))
        have F115 : Fr (fun _ => False) w96 g96 w115 g96 := by rw [hw115]; exact Fr.drew _ _ _
        replace h26 := h26.fr F115 (fun h => h)
        replace h34 := OwS.fr h34 F115 (fun _ _ h => h)
        replace h76 := OwS.fr h76 F115 (fun _ _ h => h)
        replace hp1 := RdS.fr hp1 F115 (by decide) (fun _ _ h => h)
        replace hp2 := RdS.fr hp2 F115 (by decide) (fun _ _ h => h)
        replace hF := hF.trans F115 (fun _ h => h.elim)
        have hC : Fr (fun q => False) w115 g96 w115 g96 := Fr.refl _ _ _
        refine d_pure hS 0 #[true, false, false, false, false, false, false, false, false, false, false, false] rfl rfl rfl rfl (by kernel_rfl) (fun _ _ _ h => h) (fun _ => (r_move hS rfl rfl)) fun a116 hS116 => d_pure hS116 1 #[true, true, false, false, false, false, false, false, false, false, false, false] rfl rfl rfl rfl (by kernel_rfl) (fun _ _ _ h => h) (fun _ => (r_nil hS116 rfl rfl)) fun a117 hS117 => d_pure hS117 2 #[true, true, true, false, false, false, false, false, false, false, false, false] rfl rfl rfl rfl (by kernel_rfl) (fun _ _ _ h => h) (fun _ => (r_fieldB (off := 2) hS117 rfl rfl (by kernel_rfl))) fun a118 hS118 => d_take hS118 3 #[true, true, true, true, false, false, false, false, false, false, false, false] rfl rfl rfl rfl (by kernel_rfl) (fun _ _ _ h => h) ⟨_, hC⟩ (fun w' g' Fz => (r_load1 (n := 1) hS118 rfl rfl (by kernel_rfl) (Bx.cell (h26.fr Fz (fun h => h)) rfl))) fun a119 hS119 => d_pure hS119 4 #[true, true, true, true, true, false, false, false, false, false, false, false] rfl rfl rfl rfl (by kernel_rfl) (fun _ _ _ h => h) (fun _ => (r_move hS119 rfl rfl)) fun a120 hS120 => d_pure hS120 5 #[true, true, true, true, true, true, false, false, false, false, false, false] rfl rfl rfl rfl (by kernel_rfl) (fun _ _ _ h => h) (fun _ => (r_move hS120 rfl rfl)) fun a121 hS121 => d_pure hS121 6 #[true, true, true, true, true, true, true, false, false, false, false, false] rfl rfl rfl rfl (by kernel_rfl) (fun _ _ _ h => h) (fun _ => (r_nil hS121 rfl rfl)) fun a122 hS122 => d_pure hS122 7 #[true, true, true, true, true, true, true, true, false, false, false, false] rfl rfl rfl rfl (by kernel_rfl) (fun _ _ _ h => h) (fun _ => (r_fieldB (off := 1) hS122 rfl rfl (by kernel_rfl))) fun a123 hS123 => d_take hS123 8 #[true, true, true, true, true, true, true, true, true, false, false, false] rfl rfl rfl rfl (by kernel_rfl) (fun _ _ _ h => h) ⟨_, hC⟩ (fun w' g' Fz => (r_load1 (n := 1) hS123 rfl rfl (by kernel_rfl) (Bx.cell (h26.fr Fz (fun h => h)) rfl))) fun a124 hS124 => d_pure hS124 9 #[true, true, true, true, true, true, true, true, true, true, false, false] rfl rfl rfl rfl (by kernel_rfl) (fun _ _ _ h => h) (fun _ => (r_len (e := 38) (sz := 4) (by_ := 32) hS124 rfl rfl (by kernel_rfl))) fun a125 hS125 => d_pure hS125 10 #[true, true, true, true, true, true, true, true, true, true, true, false] rfl rfl rfl rfl (by kernel_rfl) (fun _ _ _ h => h) (fun _ => (r_index (e := 3) (sz := 1) (by_ := 8) hS125 rfl rfl rfl (by kernel_rfl) (RdS.some_ (OwS.rd h34) hx114) (idx_lo hx114) (idx_hi hx114))) fun a126 hS126 => ?_
        refine d_one 11 #[true, true, true, true, true, true, true, true, true, true, true, true] rfl (by kernel_rfl) (arm_effS hS126 rfl rfl (e_storeE (n := 1) (bb := false) (kd := (kint .i64)) (j := 0) (x' := (m1_0.slots.length : Int)) (us := [.int .i64 (m1_0.slots.length : Int)]) g96 hS126 rfl rfl rfl rfl (by kernel_rfl) rfl rfl (by intro v hv; simp only [List.mem_cons, List.not_mem_nil, or_false] at hv; rcases hv with rfl <;> rfl) h34 hx114 rfl (fun _ _ cs hR => by rw [show cs = _ from hR]; rfl)) (.inl (by decide)) ?_)
        rintro a127 w128 g128 ⟨h34, F128⟩ hS127
        replace h26 := h26.fr F128 (fun (hm : N + 0 = N + 0 + 3) => by omega)
        replace h76 := OwS.fr h76 F128 (fun c' hc (hm : c' = N + 0 + 3) => by omega)
        replace hp1 := RdS.fr hp1 F128 (by decide) (fun q (hq : C1 q) (hm : q = N + 0 + 3) => by have := hC1 q hq; omega)
        replace hp2 := RdS.fr hp2 F128 (by decide) (fun q (hq : C2 q) (hm : q = N + 0 + 3) => by have := hC2 q hq; omega)
        replace hF := hF.trans F128 (fun c' (hm : c' = N + 0 + 3) => by show (r0 ≤ c' ∧ c' < r0 + 2) ∨ N ≤ c'; omega)
        replace h26 : Bx w128 g128 (N + 0) b25 80 [.slice A1 m1_0.links.length cap1, .slice A74 m1_0.slots.length cap75, .slice A32 (upd m1_0.at_ r87 (m1_0.slots.length : Int)).length cap33, .int .u64 m1_0.now] := by simpa only [upd_length] using h26
        refine d_done (by kernel_rfl) (hK _ _ ?_)
        replace hS : Sl 135 _ [(2, .slice A2 p2.length cap2), (3, .int .i64 p3), (11, .pointer (some ⟨b25, 0, none⟩)), (13, .int .i64 r87), (14, .int .i64 r93)] := hS127.re ⟨rfl, rfl, rfl, rfl, rfl, trivial⟩
        clear hK K hC
        try clear hS116 hS117 hS118 hS119 hS120 hS121 hS122 hS123 hS124 hS125 hS126 hS127
        obtain ⟨a, ha⟩ : ∃ a', a' = a127 := ⟨_, rfl⟩
        rw [← ha] at hS ⊢; clear ha
        obtain ⟨x129, hx130, H⟩ := bind_el H
        obtain ⟨y134, hy135, H⟩ := bind_el H
        refine c_draw (fun K hK => d_start (fun q => q = N + 0 + 1) g128 [25] 26 #[false, false, false, false, false, false, false, false, false, false, false, false, false, false, false, false, false, false, false, false, false, false, false, false, false, false] (by kernel_rfl) rfl rfl (fun w140 hw140 => ?_))
        have F140 : Fr (fun _ => False) w128 g128 w140 g128 := by rw [hw140]; exact Fr.drew _ _ _
        replace h26 := h26.fr F140 (fun h => h)
        replace h34 := OwS.fr h34 F140 (fun _ _ h => h)
        replace h76 := OwS.fr h76 F140 (fun _ _ h => h)
        replace hp1 := RdS.fr hp1 F140 (by decide) (fun _ _ h => h)
        replace hp2 := RdS.fr hp2 F140 (by decide) (fun _ _ h => h)
        replace hF := hF.trans F140 (fun _ h => h.elim)
        have hC : Fr (fun q => q = N + 0 + 1) w140 g128 w140 g128 := Fr.refl _ _ _
        refine d_pure hS 0 #[true, false, false, false, false, false, false, false, false, false, false, false, false, false, false, false, false, false, false, false, false, false, false, false, false, false] rfl rfl rfl rfl (by kernel_rfl) (fun _ _ _ h => h) (fun _ => (r_move hS rfl rfl)) fun a141 hS141 => d_pure hS141 1 #[true, true, false, false, false, false, false, false, false, false, false, false, false, false, false, false, false, false, false, false, false, false, false, false, false, false] rfl rfl rfl rfl (by kernel_rfl) (fun _ _ _ h => h) (fun _ => (r_move hS141 rfl rfl)) fun a142 hS142 => d_pure hS142 2 #[true, true, true, false, false, false, false, false, false, false, false, false, false, false, false, false, false, false, false, false, false, false, false, false, false, false] rfl rfl rfl rfl (by kernel_rfl) (fun _ _ _ h => h) (fun _ => (r_nil hS142 rfl rfl)) fun a143 hS143 => d_pure hS143 3 #[true, true, true, true, false, false, false, false, false, false, false, false, false, false, false, false, false, false, false, false, false, false, false, false, false, false] rfl rfl rfl rfl (by kernel_rfl) (fun _ _ _ h => h) (fun _ => (r_fieldB (off := 1) hS143 rfl rfl (by kernel_rfl))) fun a144 hS144 => d_take hS144 4 #[true, true, true, true, true, false, false, false, false, false, false, false, false, false, false, false, false, false, false, false, false, false, false, false, false, false] rfl rfl rfl rfl (by kernel_rfl) (fun _ _ _ h => h) ⟨_, hC⟩ (fun w' g' Fz => (r_load1 (n := 1) hS144 rfl rfl (by kernel_rfl) (Bx.cell (h26.fr Fz (fun (hm : N + 0 = N + 0 + 1) => by omega)) rfl))) fun a145 hS145 => d_pure hS145 5 #[true, true, true, true, true, true, false, false, false, false, false, false, false, false, false, false, false, false, false, false, false, false, false, false, false, false] rfl rfl rfl rfl (by kernel_rfl) (fun _ _ _ h => h) (fun _ => (r_move hS145 rfl rfl)) fun a146 hS146 => d_pure hS146 6 #[true, true, true, true, true, true, true, false, false, false, false, false, false, false, false, false, false, false, false, false, false, false, false, false, false, false] rfl rfl rfl rfl (by kernel_rfl) (fun _ _ _ h => h) (fun _ => (r_move hS146 rfl rfl)) fun a147 hS147 => d_pure hS147 7 #[true, true, true, true, true, true, true, true, false, false, false, false, false, false, false, false, false, false, false, false, false, false, false, false, false, false] rfl rfl rfl rfl (by kernel_rfl) (fun _ _ _ h => h) (fun _ => (r_move hS147 rfl rfl)) fun a148 hS148 => d_pure hS148 8 #[true, true, true, true, true, true, true, true, true, false, false, false, false, false, false, false, false, false, false, false, false, false, false, false, false, false] rfl rfl rfl rfl (by kernel_rfl) (fun _ _ _ h => h) (fun _ => (r_nil hS148 rfl rfl)) fun a149 hS149 => d_pure hS149 9 #[true, true, true, true, true, true, true, true, true, true, false, false, false, false, false, false, false, false, false, false, false, false, false, false, false, false] rfl rfl rfl rfl (by kernel_rfl) (fun _ _ _ h => h) (fun _ => (r_fieldB (off := 3) hS149 rfl rfl (by kernel_rfl))) fun a150 hS150 => d_take hS150 10 #[true, true, true, true, true, true, true, true, true, true, true, false, false, false, false, false, false, false, false, false, false, false, false, false, false, false] rfl rfl rfl rfl (by kernel_rfl) (fun _ _ _ h => h) ⟨_, hC⟩ (fun w' g' Fz => (r_load1 (n := 1) hS150 rfl rfl (by kernel_rfl) (Bx.cell (h26.fr Fz (fun (hm : N + 0 = N + 0 + 1) => by omega)) rfl))) fun a151 hS151 => d_pure hS151 11 #[true, true, true, true, true, true, true, true, true, true, true, true, false, false, false, false, false, false, false, false, false, false, false, false, false, false] rfl rfl rfl rfl (by kernel_rfl) (fun _ _ _ h => h) (fun _ => (r_move hS151 rfl rfl)) fun a152 hS152 => d_pure hS152 12 #[true, true, true, true, true, true, true, true, true, true, true, true, true, false, false, false, false, false, false, false, false, false, false, false, false, false] rfl rfl rfl rfl (by kernel_rfl) (fun _ _ _ h => h) (fun _ => (r_nil hS152 rfl rfl)) fun a153 hS153 => d_pure hS153 13 #[true, true, true, true, true, true, true, true, true, true, true, true, true, true, false, false, false, false, false, false, false, false, false, false, false, false] rfl rfl rfl rfl (by kernel_rfl) (fun _ _ _ h => h) (fun _ => (r_fieldB (off := 3) hS153 rfl rfl (by kernel_rfl))) fun a154 hS154 => d_take hS154 14 #[true, true, true, true, true, true, true, true, true, true, true, true, true, true, true, false, false, false, false, false, false, false, false, false, false, false] rfl rfl rfl rfl (by kernel_rfl) (fun _ _ _ h => h) ⟨_, hC⟩ (fun w' g' Fz => (r_load1 (n := 1) hS154 rfl rfl (by kernel_rfl) (Bx.cell (h26.fr Fz (fun (hm : N + 0 = N + 0 + 1) => by omega)) rfl))) fun a155 hS155 => d_pure hS155 15 #[true, true, true, true, true, true, true, true, true, true, true, true, true, true, true, true, false, false, false, false, false, false, false, false, false, false] rfl rfl rfl rfl (by kernel_rfl) (fun _ _ _ h => h) (fun _ => (r_move hS155 rfl rfl)) fun a156 hS156 => d_pure hS156 16 #[true, true, true, true, true, true, true, true, true, true, true, true, true, true, true, true, true, false, false, false, false, false, false, false, false, false] rfl rfl rfl rfl (by kernel_rfl) (fun _ _ _ h => h) (fun _ => (r_move hS156 rfl rfl)) fun a157 hS157 => d_pure hS157 17 #[true, true, true, true, true, true, true, true, true, true, true, true, true, true, true, true, true, true, false, false, false, false, false, false, false, false] rfl rfl rfl rfl (by kernel_rfl) (fun _ _ _ h => h) (fun _ => (r_index (e := 33) (sz := 1) (by_ := 8) hS157 rfl rfl rfl (by kernel_rfl) (RdS.some_ hp2 hx130) (idx_lo hx130) (idx_hi hx130))) fun a158 hS158 => d_take hS158 18 #[true, true, true, true, true, true, true, true, true, true, true, true, true, true, true, true, true, true, true, false, false, false, false, false, false, false] rfl rfl rfl rfl (by kernel_rfl) (fun _ _ _ h => h) ⟨_, hC⟩ (fun w' g' Fz => (r_load1 (n := 1) hS158 rfl rfl (by kernel_rfl) (RdS.cell (i := r87) (sz := 1) (j := 0) (RdS.fr hp2 Fz (by decide) (fun q (hq : C2 q) (hm : q = N + 0 + 1) => by have := hC2 q hq; omega)) hx130 rfl))) fun a159 hS159 => d_pure hS159 19 #[true, true, true, true, true, true, true, true, true, true, true, true, true, true, true, true, true, true, true, true, false, false, false, false, false, false] rfl rfl rfl rfl (by kernel_rfl) (fun _ _ _ h => h) (fun _ => (r_bin hS159 rfl rfl rfl b_add)) fun a160 hS160 => d_pure hS160 20 #[true, true, true, true, true, true, true, true, true, true, true, true, true, true, true, true, true, true, true, true, true, false, false, false, false, false] rfl rfl rfl rfl (by kernel_rfl) (fun _ _ _ h => h) (fun _ => (r_build (parts := [(0, .int .i64 r87), (1, .int .i64 r93), (2, .int .u64 m1_0.now), (3, .int .u64 (wu (m1_0.now + x129)))]) (u := .agg #[.int .i64 r87, .int .i64 r93, .int .u64 m1_0.now, .int .u64 (wu (m1_0.now + x129))]) hS160 rfl rfl (fun _ => by kernel_rfl))) fun a161 hS161 => ?_
        refine d_one 21 #[true, true, true, true, true, true, true, true, true, true, true, true, true, true, true, true, true, true, true, true, true, true, false, false, false, false] rfl (by kernel_rfl) (arm_eff hS161 rfl rfl rfl (e_lit (e := 38) (parts := [(0, .agg #[.int .i64 r87, .int .i64 r93, .int .u64 m1_0.now, .int .u64 (wu (m1_0.now + x129))])]) (cs := [.int .i64 r87, .int .i64 r93, .int .u64 m1_0.now, .int .u64 (wu (m1_0.now + x129))]) kd_api_Slot [(api_Slot.mk r87 r93 m1_0.now (wu (m1_0.now + x129)))] (N + 9) g128 hS161 rfl rfl (fun _ => by kernel_rfl) rfl (by decide) (Rows.cons (cs := [.int .i64 r87, .int .i64 r93, .int .u64 m1_0.now, .int .u64 (wu (m1_0.now + x129))]) rfl Rows.nil)) (fun _ _ g' hR _ => ⟨g', hC.trans hR.2 (fun _ h => h.elim)⟩) ?_)
        rintro _ a165 w166 g166 ⟨⟨A162, rfl, h163⟩, F166⟩ hS165
        have hC166 := hC.trans F166 (fun _ h => h.elim)
        replace h26 := h26.fr F166 (fun h => h)
        replace h34 := OwS.fr h34 F166 (fun _ _ h => h)
        replace h76 := OwS.fr h76 F166 (fun _ _ h => h)
        replace hp1 := RdS.fr hp1 F166 (by decide) (fun _ _ h => h)
        replace hp2 := RdS.fr hp2 F166 (by decide) (fun _ _ h => h)
        replace hF := hF.trans F166 (fun _ h => h.elim)
        refine d_one 22 #[true, true, true, true, true, true, true, true, true, true, true, true, true, true, true, true, true, true, true, true, true, true, true, false, false, false] rfl (by kernel_rfl) (arm_eff hS165 rfl rfl rfl (e_append (e := 38) (sz := 4) (by_ := 32) (z := [.int .i64 0, .int .i64 0, .int .u64 0, .int .u64 0]) (kd := kd_api_Slot) g166 hS165 rfl rfl rfl rfl (by kernel_rfl) (by kernel_rfl) rfl rfl rfl rfl h76 (OwD.rdx h163) (fun _ _ _ h => h) hy135) (fun _ _ g' hR _ => ⟨g', hC166.trans hR.2 (fun c' (hm : c' = N + 0 + 1) => by show c' = N + 0 + 1; omega)⟩) ?_)
        rintro _ a171 w172 g172 ⟨⟨A167, cap168, rfl, h169⟩, F172⟩ hS171
        have hC172 := hC166.trans F172 (fun c' (hm : c' = N + 0 + 1) => by show c' = N + 0 + 1; omega)
        replace h163 := OwS.fr h163 F172 (fun c' hc (hm : c' = N + 0 + 1) => by omega)
        replace h26 := h26.fr F172 (fun (hm : N + 0 = N + 0 + 1) => by omega)
        replace h34 := OwS.fr h34 F172 (fun c' hc (hm : c' = N + 0 + 1) => by omega)
        replace hp1 := RdS.fr hp1 F172 (by decide) (fun q (hq : C1 q) (hm : q = N + 0 + 1) => by have := hC1 q hq; omega)
        replace hp2 := RdS.fr hp2 F172 (by decide) (fun q (hq : C2 q) (hm : q = N + 0 + 1) => by have := hC2 q hq; omega)
        replace hF := hF.trans F172 (fun c' (hm : c' = N + 0 + 1) => by show (r0 ≤ c' ∧ c' < r0 + 2) ∨ N ≤ c'; omega)
        refine d_pure hS171 23 #[true, true, true, true, true, true, true, true, true, true, true, true, true, true, true, true, true, true, true, true, true, true, true, true, false, false] rfl rfl rfl rfl (by kernel_rfl) (fun _ _ _ h => h) (fun _ => (r_nil hS171 rfl rfl)) fun a173 hS173 => d_pure hS173 24 #[true, true, true, true, true, true, true, true, true, true, true, true, true, true, true, true, true, true, true, true, true, true, true, true, true, false] rfl rfl rfl rfl (by kernel_rfl) (fun _ _ _ h => h) (fun _ => (r_fieldB (off := 1) hS173 rfl rfl (by kernel_rfl))) fun a174 hS174 => ?_
        refine d_one 25 #[true, true, true, true, true, true, true, true, true, true, true, true, true, true, true, true, true, true, true, true, true, true, true, true, true, true] rfl (by kernel_rfl) (arm_effS hS174 rfl rfl (e_storeB (n := 1) (bb := false) (cs' := [.slice A1 m1_0.links.length cap1, .slice A167 y134.length cap168, .slice A32 (upd m1_0.at_ r87 (m1_0.slots.length : Int)).length cap33, .int .u64 m1_0.now]) g172 hS174 rfl rfl rfl (by kernel_rfl) rfl rfl rfl h26 rfl rfl) (.inl (by decide)) ?_)
        rintro a175 w176 g176 ⟨h26, F176⟩ hS175
        replace h163 := OwS.fr h163 F176 (fun c' hc (hm : c' = N + 0) => by omega)
        replace h169 := OwS.fr h169 F176 (fun c' hc (hm : c' = N + 0) => by omega)
        replace h34 := OwS.fr h34 F176 (fun c' hc (hm : c' = N + 0) => by omega)
        replace hp1 := RdS.fr hp1 F176 (by decide) (fun q (hq : C1 q) (hm : q = N + 0) => by have := hC1 q hq; omega)
        replace hp2 := RdS.fr hp2 F176 (by decide) (fun q (hq : C2 q) (hm : q = N + 0) => by have := hC2 q hq; omega)
        replace hF := hF.trans F176 (fun c' (hm : c' = N + 0) => by show (r0 ≤ c' ∧ c' < r0 + 2) ∨ N ≤ c'; omega)
        refine d_done (by kernel_rfl) (hK _ _ ?_)
        replace hS : Sl 135 _ [(2, .slice A2 p2.length cap2), (3, .int .i64 p3), (11, .pointer (some ⟨b25, 0, none⟩))] := hS175.re ⟨rfl, rfl, rfl, trivial⟩
        clear hK K hC
        try clear hS141 hS142 hS143 hS144 hS145 hS146 hS147 hS148 hS149 hS150 hS151 hS152 hS153 hS154 hS155 hS156 hS157 hS158 hS159 hS160 hS161 hS165 hS171 hS173 hS174 hS175
        obtain ⟨a, ha⟩ : ∃ a', a' = a175 := ⟨_, rfl⟩
        rw [← ha] at hS ⊢; clear ha
        refine wp_exit ?_
        have e := Option.some.inj H
        have F177 := Fr.recol2 w176 g176 (N + 0 + 3) (N + 7)
        replace h34 := h34.recol2 (N + 7)
        replace h169 := OwS.fr h169 F177 (fun c' hc (hm : c' = N + 0 + 3 ∨ c' = N + 0 + 3 + 1) => by omega)
        replace h26 := h26.fr F177 (fun (hm : N + 0 = N + 0 + 3 ∨ N + 0 = N + 0 + 3 + 1) => by omega)
        replace hp1 := RdS.fr hp1 F177 (by decide) (fun q (hq : C1 q) (hm : q = N + 0 + 3 ∨ q = N + 0 + 3 + 1) => by have := hC1 q hq; omega)
        replace hp2 := RdS.fr hp2 F177 (by decide) (fun q (hq : C2 q) (hm : q = N + 0 + 3 ∨ q = N + 0 + 3 + 1) => by have := hC2 q hq; omega)
        replace hF := hF.trans F177 (fun c' (hm : c' = N + 0 + 3 ∨ c' = N + 0 + 3 + 1) => by show (r0 ≤ c' ∧ c' < r0 + 2) ∨ N ≤ c'; omega)
        exact ⟨(ref31_plan.mk m1_0.links y134 (upd m1_0.at_ r87 (m1_0.slots.length : Int)) m1_0.now), (recol2 g176 (N + 0 + 3) (N + 7)), A167, cap168, e.symm, hS.re ⟨rfl, rfl, rfl, trivial⟩, h26, h34, h169, hp1, hp2, hF⟩
       ·replace H := ite_f hb112 H
        refine wp_skip ?_
        change Code.wp _ _ _ _ _
        refine c_pure [(2, .slice A2 p2.length cap2), (3, .int .i64 p3), (11, .pointer (some ⟨b25, 0, none⟩)), (15, .int .u64 0)] (fun R hR => st_val hS rfl rfl rfl (r_assign hS rfl rfl) fun a178 hS178 => wpList_nil (hR _ (hS178.re ⟨rfl, rfl, rfl, rfl, trivial⟩))) ?_
        clear hS
        clear a
        intro a hS
        obtain ⟨v179, H, Hl181⟩ := bind_el H
        refine c_cut (fun a w' => w96 = w' ∧ Sl 135 a [(2, .slice A2 p2.length cap2), (3, .int .i64 p3), (11, .pointer (some ⟨b25, 0, none⟩)), (15, .int .u64 v179)]) ?_ ?_
        ·refine c_pure [(2, .slice A2 p2.length cap2), (3, .int .i64 p3), (11, .pointer (some ⟨b25, 0, none⟩)), (15, .int .u64 0), (16, .int .i64 0)] (fun R hR => st_val hS rfl rfl rfl (r_assign hS rfl rfl) fun a182 hS182 => wpList_nil (hR _ (hS182.re ⟨rfl, rfl, rfl, rfl, rfl, trivial⟩))) ?_
         clear hS
         clear a
         intro a hS
         refine wp_block ?_
         refine wp_loop_ghost (fun kq => fun a w' => ∃ (m2_0 : Int), ∃ (m2_1 : Int), ref31_Schedule.l2 m1_0 kq m2_0 m2_1 = some v179 ∧ w96 = w' ∧ Sl 135 a [(2, .slice A2 p2.length cap2), (3, .int .i64 p3), (11, .pointer (some ⟨b25, 0, none⟩)), (15, .int .u64 m2_0), (16, .int .i64 m2_1)]) FUEL ?_ ?_
         ·exact ⟨0, 0, H, rfl, hS.re ⟨rfl, rfl, rfl, rfl, rfl, trivial⟩⟩
         ·clear H
          clear hS
          rintro k183 a w' ⟨m2_0, m2_1, hpre0, hw, hS⟩
          subst hw
          have H := hpre0
          clear hpre0
          cases k183 with
          | zero => exact absurd H (by simp [ref31_Schedule.l2])
          | succ k183 =>
           rw [ref31_Schedule.l2] at H
           refine wp_seq ?_
           refine c_pure [(2, .slice A2 p2.length cap2), (3, .int .i64 p3), (11, .pointer (some ⟨b25, 0, none⟩)), (15, .int .u64 m2_0), (16, .int .i64 m2_1), (98, .bool (decide (m2_1 < (m1_0.slots.length : Int))))] (fun R hR => st_val hS rfl rfl rfl (r_move hS rfl rfl) fun a184 hS184 => st_val hS184 rfl rfl rfl (r_move hS184 rfl rfl) fun a185 hS185 => st_val hS185 rfl rfl rfl (r_nil hS185 rfl rfl) fun a186 hS186 => st_val hS186 rfl rfl rfl (r_fieldB (off := 1) hS186 rfl rfl (by kernel_rfl)) fun a187 hS187 => st_val hS187 rfl rfl rfl (r_load1 (n := 1) hS187 rfl rfl (by kernel_rfl) (Bx.cell h26 rfl)) fun a188 hS188 => st_val hS188 rfl rfl rfl (r_len (e := 38) (sz := 4) (by_ := 32) hS188 rfl rfl (by kernel_rfl)) fun a189 hS189 => st_val hS189 rfl rfl rfl (r_bin hS189 rfl rfl rfl b_lss) fun a190 hS190 => wpList_nil (hR _ (hS190.re ⟨rfl, rfl, rfl, rfl, rfl, rfl, trivial⟩))) ?_
           clear hS
           clear a
           intro a hS
           refine c_cond hS rfl (fun hb191 => ?_) (fun hb191 => ?_)
           ·replace H := ite_t hb191 H
            refine wp_skip ?_
            change Code.wp _ _ _ _ _
            obtain ⟨v192, H, Hl194⟩ := bind_el H
            refine c_cut (fun a w' => w96 = w' ∧ Sl 135 a [(2, .slice A2 p2.length cap2), (3, .int .i64 p3), (11, .pointer (some ⟨b25, 0, none⟩)), (15, .int .u64 v192), (16, .int .i64 m2_1)]) ?_ ?_
            ·refine wp_block ?_
             obtain ⟨x200, hx201, H⟩ := bind_el H
             refine c_pure [(2, .slice A2 p2.length cap2), (3, .int .i64 p3), (11, .pointer (some ⟨b25, 0, none⟩)), (15, .int .u64 m2_0), (16, .int .i64 m2_1), (17, .int .u64 x200.End)] (fun R hR => st_val hS rfl rfl rfl (r_move hS rfl rfl) fun a195 hS195 => st_val hS195 rfl rfl rfl (r_nil hS195 rfl rfl) fun a196 hS196 => st_val hS196 rfl rfl rfl (r_fieldB (off := 1) hS196 rfl rfl (by kernel_rfl)) fun a197 hS197 => st_val hS197 rfl rfl rfl (r_load1 (n := 1) hS197 rfl rfl (by kernel_rfl) (Bx.cell h26 rfl)) fun a198 hS198 => st_val hS198 rfl rfl rfl (r_move hS198 rfl rfl) fun a199 hS199 => st_val hS199 rfl rfl rfl (r_index (e := 38) (sz := 4) (by_ := 32) hS199 rfl rfl rfl (by kernel_rfl) (RdS.some_ (OwS.rd h76) hx201) (idx_lo hx201) (idx_hi hx201)) fun a202 hS202 => st_val hS202 rfl rfl rfl (r_fieldE (off := 3) hS202 rfl rfl (by kernel_rfl)) fun a203 hS203 => st_val hS203 rfl rfl rfl (r_load1 (n := 1) hS203 rfl rfl (by kernel_rfl) (RdS.cell (i := m2_1) (sz := 4) (j := 3) (OwS.rd h76) hx201 rfl)) fun a204 hS204 => st_val hS204 rfl rfl rfl (r_assign hS204 rfl rfl) fun a205 hS205 => wpList_nil (hR _ (hS205.re ⟨rfl, rfl, rfl, rfl, rfl, rfl, trivial⟩))) ?_
             clear hS
             clear a
             intro a hS
             refine c_region (fun K hK => ?_)
             refine st_val hS rfl rfl rfl (r_move hS rfl rfl) fun a206 hS206 => st_val hS206 rfl rfl rfl (r_move hS206 rfl rfl) fun a207 hS207 => st_val hS207 rfl rfl rfl (r_nil hS207 rfl rfl) fun a208 hS208 => st_val hS208 rfl rfl rfl (r_fieldB (off := 3) hS208 rfl rfl (by kernel_rfl)) fun a209 hS209 => st_val hS209 rfl rfl rfl (r_load1 (n := 1) hS209 rfl rfl (by kernel_rfl) (Bx.cell h26 rfl)) fun a210 hS210 => st_val hS210 rfl rfl rfl (r_bin hS210 rfl rfl rfl b_gtr) fun a211 hS211 => st_val hS211 rfl rfl rfl (r_move hS211 rfl rfl) fun a212 hS212 => ?_
             refine g_join (N := 135) 8 [(2, .slice A2 p2.length cap2), (3, .int .i64 p3), (11, .pointer (some ⟨b25, 0, none⟩)), (15, .int .u64 m2_0), (16, .int .i64 m2_1), (17, .int .u64 x200.End), (123, .bool ((decide (m1_0.now < x200.End)) && ((m2_0 == 0) || (decide (x200.End < m2_0)))))] ?_ (fun hk => ?_)
             rotate_left
             ·rcases Bool.eq_false_or_eq_true (decide (m1_0.now < x200.End)) with hb213 | hb213
              ·refine st_valW hS212 (want_on hS212 rfl rfl rfl hb213) rfl rfl (r_move hS212 rfl rfl) fun a230 hS230 => st_valW hS230 (want_on hS230 rfl rfl rfl hb213) rfl rfl (r_bin hS230 rfl rfl rfl b_eql) fun a231 hS231 => st_valW hS231 (want_on hS231 rfl rfl rfl hb213) rfl rfl (r_move hS231 rfl rfl) fun a232 hS232 => ?_
               refine g_join (N := 135) 4 [(2, .slice A2 p2.length cap2), (3, .int .i64 p3), (11, .pointer (some ⟨b25, 0, none⟩)), (15, .int .u64 m2_0), (16, .int .i64 m2_1), (17, .int .u64 x200.End), (115, .bool (decide (m1_0.now < x200.End))), (116, .int .u64 m2_0), (117, .bool (m2_0 == 0)), (118, .bool (m2_0 == 0)), (122, .bool ((m2_0 == 0) || (decide (x200.End < m2_0))))] ?_ (fun hk => ?_)
               rotate_left
               ·rcases Bool.eq_false_or_eq_true ((m2_0 == 0)) with hb233 | hb233
                ·refine st_off hS232 (want_off hS232 rfl rfl rfl hb233) rfl rfl fun a237 hS237 => st_off hS237 (want_off hS237 rfl rfl rfl hb233) rfl rfl fun a238 hS238 => st_off hS238 (want_off hS238 rfl rfl rfl hb233) rfl rfl fun a239 hS239 => st_valW hS239 (want_on hS239 rfl rfl rfl hb213) rfl rfl (r_pickT hS239 rfl rfl rfl hb233) fun a240 hS240 => hk _ (hS240.re ⟨rfl, rfl, rfl, rfl, rfl, rfl, rfl, rfl, rfl, rfl, (by rw [hb233]; rfl), trivial⟩)
                ·refine st_valW hS232 (want_on hS232 rfl rfl rfl hb233) rfl rfl (r_move hS232 rfl rfl) fun a241 hS241 => st_valW hS241 (want_on hS241 rfl rfl rfl hb233) rfl rfl (r_move hS241 rfl rfl) fun a242 hS242 => st_valW hS242 (want_on hS242 rfl rfl rfl hb233) rfl rfl (r_bin hS242 rfl rfl rfl b_lss) fun a243 hS243 => st_valW hS243 (want_on hS243 rfl rfl rfl hb213) rfl rfl (r_pickF hS243 rfl rfl rfl hb233) fun a244 hS244 => hk _ (hS244.re ⟨rfl, rfl, rfl, rfl, rfl, rfl, rfl, rfl, rfl, rfl, (by rw [hb233]; rfl), trivial⟩)
               intro a245 hS245
               refine st_val hS245 rfl rfl rfl (r_pickT hS245 rfl rfl rfl hb213) fun a246 hS246 => hk _ (hS246.re ⟨rfl, rfl, rfl, rfl, rfl, rfl, (by rw [hb213]; rfl), trivial⟩)
              ·refine st_off hS212 (want_off hS212 rfl rfl rfl hb213) rfl rfl fun a247 hS247 => st_off hS247 (want_off hS247 rfl rfl rfl hb213) rfl rfl fun a248 hS248 => st_off hS248 (want_off hS248 rfl rfl rfl hb213) rfl rfl fun a249 hS249 => st_off hS249 (want_un hS249 rfl rfl rfl) rfl rfl fun a250 hS250 => st_off hS250 (want_un hS250 rfl rfl rfl) rfl rfl fun a251 hS251 => st_off hS251 (want_un hS251 rfl rfl rfl) rfl rfl fun a252 hS252 => st_off hS252 (want_off hS252 rfl rfl rfl hb213) rfl rfl fun a253 hS253 => st_val hS253 rfl rfl rfl (r_pickF hS253 rfl rfl rfl hb213) fun a254 hS254 => hk _ (hS254.re ⟨rfl, rfl, rfl, rfl, rfl, rfl, (by rw [hb213]; rfl), trivial⟩)
             intro a255 hS255
             refine wpList_nil (hK _ _ ?_)
             replace hS : Sl 135 _ [(2, .slice A2 p2.length cap2), (3, .int .i64 p3), (11, .pointer (some ⟨b25, 0, none⟩)), (15, .int .u64 m2_0), (16, .int .i64 m2_1), (17, .int .u64 x200.End), (123, .bool ((decide (m1_0.now < x200.End)) && ((m2_0 == 0) || (decide (x200.End < m2_0)))))] := hS255.re ⟨rfl, rfl, rfl, rfl, rfl, rfl, rfl, trivial⟩
             clear hK K
             try clear hS206 hS207 hS208 hS209 hS210 hS211 hS212 hS255
             obtain ⟨a, ha⟩ : ∃ a', a' = a255 := ⟨_, rfl⟩
             rw [← ha] at hS ⊢; clear ha
             refine c_cond hS rfl (fun hb256 => ?_) (fun hb256 => ?_)
             ·replace H := ite_t hb256 H
              refine c_pure1 [(2, .slice A2 p2.length cap2), (3, .int .i64 p3), (11, .pointer (some ⟨b25, 0, none⟩)), (15, .int .u64 x200.End), (16, .int .i64 m2_1)] (fun R hR => st_val hS rfl rfl rfl (r_move hS rfl rfl) fun a257 hS257 => st_val hS257 rfl rfl rfl (r_assign hS257 rfl rfl) fun a258 hS258 => wpList_nil (hR _ (hS258.re ⟨rfl, rfl, rfl, rfl, rfl, trivial⟩))) ?_
              clear hS
              clear a
              intro a hS
              have e := Option.some.inj H
              subst e
              exact ⟨rfl, hS.re ⟨rfl, rfl, rfl, rfl, rfl, trivial⟩⟩
             ·replace H := ite_f hb256 H
              refine wp_skip ?_
              have e := Option.some.inj H
              subst e
              exact ⟨rfl, hS.re ⟨rfl, rfl, rfl, rfl, rfl, trivial⟩⟩
            ·clear H
             clear hS
             rintro a w' ⟨hw, hS⟩
             subst hw
             have H := Hl194
             clear Hl194
             refine c_pure1 [(2, .slice A2 p2.length cap2), (3, .int .i64 p3), (11, .pointer (some ⟨b25, 0, none⟩)), (15, .int .u64 v192), (16, .int .i64 (wi (m2_1 + 1)))] (fun R hR => st_val hS rfl rfl rfl (r_move hS rfl rfl) fun a259 hS259 => st_val hS259 rfl rfl rfl (r_bin hS259 rfl rfl rfl b_add) fun a260 hS260 => st_val hS260 rfl rfl rfl (r_assign hS260 rfl rfl) fun a261 hS261 => wpList_nil (hR _ (hS261.re ⟨rfl, rfl, rfl, rfl, rfl, trivial⟩))) ?_
             clear hS
             clear a
             intro a hS
             refine ⟨k183, Nat.lt_succ_self _, ?_⟩
             exact ⟨v192, wi (m2_1 + 1), H, rfl, hS.re ⟨rfl, rfl, rfl, rfl, rfl, trivial⟩⟩
           ·replace H := ite_f hb191 H
            refine wp_exit ?_
            have e := Option.some.inj H
            subst e
            exact ⟨rfl, hS.re ⟨rfl, rfl, rfl, rfl, trivial⟩⟩
        ·clear H
         clear hS
         rintro a w' ⟨hw, hS⟩
         subst hw
         have H := Hl181
         clear Hl181
         refine wp_seq ?_
         refine c_pure [(2, .slice A2 p2.length cap2), (3, .int .i64 p3), (11, .pointer (some ⟨b25, 0, none⟩)), (15, .int .u64 v179), (126, .bool (v179 == 0))] (fun R hR => st_val hS rfl rfl rfl (r_move hS rfl rfl) fun a262 hS262 => st_val hS262 rfl rfl rfl (r_bin hS262 rfl rfl rfl b_eql) fun a263 hS263 => wpList_nil (hR _ (hS263.re ⟨rfl, rfl, rfl, rfl, rfl, trivial⟩))) ?_
         clear hS
         clear a
         intro a hS
         refine c_cond hS rfl (fun hb264 => ?_) (fun hb264 => ?_)
         ·replace H := ite_t hb264 H
          refine c_pure [(8, .slice A74 m1_0.slots.length cap75), (9, .int .i64 0)] (fun R hR => st_val hS rfl rfl rfl (r_move hS rfl rfl) fun a265 hS265 => st_val hS265 rfl rfl rfl (r_nil hS265 rfl rfl) fun a266 hS266 => st_val hS266 rfl rfl rfl (r_fieldB (off := 1) hS266 rfl rfl (by kernel_rfl)) fun a267 hS267 => st_val hS267 rfl rfl rfl (r_load1 (n := 1) hS267 rfl rfl (by kernel_rfl) (Bx.cell h26 rfl)) fun a268 hS268 => st_val hS268 rfl rfl rfl (r_assign hS268 rfl rfl) fun a269 hS269 => st_val hS269 rfl rfl rfl (r_assign hS269 rfl rfl) fun a270 hS270 => wpList_nil (hR _ (hS270.re ⟨rfl, rfl, trivial⟩))) ?_
          clear hS
          clear a
          intro a hS
          refine wp_ret ?_
          have e := Option.some.inj H
          subst e
          replace H := Fl.go_out Hl84
          have e := Option.some.inj H
          subst e
          have F271 := Fr.recol2 w96 g96 (N + 0 + 1) r0
          replace h76 := h76.recol2 r0
          replace hF := hF.trans F271 (fun c' (hm : c' = N + 0 + 1 ∨ c' = N + 0 + 1 + 1) => by show (r0 ≤ c' ∧ c' < r0 + 2) ∨ N ≤ c'; omega)
          repeat (with_reducible first | refine then_ret ?_ | refine inBlock_ret ?_)
          exact c_ret2 hS Try.results19 rfl rfl ⟨_, rfl, (recol2 g96 (N + 0 + 1) r0), A74, cap75, rfl, h76, hF⟩
         ·replace H := ite_f hb264 H
          refine wp_skip ?_
          change Code.wp _ _ _ _ _
          refine c_region1 (fun K hK => ?_)
          refine st_val hS rfl rfl rfl (r_move hS rfl rfl) fun a272 hS272 => st_val hS272 rfl rfl rfl (r_move hS272 rfl rfl) fun a273 hS273 => st_val hS273 rfl rfl rfl (r_nil hS273 rfl rfl) fun a274 hS274 => st_val hS274 rfl rfl rfl (r_fieldB (off := 3) hS274 rfl rfl (by kernel_rfl)) fun a275 hS275 => ?_
          refine st_effS hS275 rfl rfl (e_storeB (n := 1) (bb := false) (cs' := [.slice A1 m1_0.links.length cap1, .slice A74 m1_0.slots.length cap75, .slice A32 m1_0.at_.length cap33, .int .u64 v179]) g96 hS275 rfl rfl rfl (by kernel_rfl) rfl rfl rfl h26 rfl rfl) ?_
          rintro a276 w277 g277 ⟨h26, F277⟩ hS276
          replace h34 := OwS.fr h34 F277 (fun c' hc (hm : c' = N + 0) => by omega)
          replace h76 := OwS.fr h76 F277 (fun c' hc (hm : c' = N + 0) => by omega)
          replace hp1 := RdS.fr hp1 F277 (by decide) (fun q (hq : C1 q) (hm : q = N + 0) => by have := hC1 q hq; omega)
          replace hp2 := RdS.fr hp2 F277 (by decide) (fun q (hq : C2 q) (hm : q = N + 0) => by have := hC2 q hq; omega)
          replace hF := hF.trans F277 (fun c' (hm : c' = N + 0) => by show (r0 ≤ c' ∧ c' < r0 + 2) ∨ N ≤ c'; omega)
          refine wpList_nil (hK _ _ ?_)
          replace hS : Sl 135 _ [(2, .slice A2 p2.length cap2), (3, .int .i64 p3), (11, .pointer (some ⟨b25, 0, none⟩))] := hS276.re ⟨rfl, rfl, rfl, trivial⟩
          clear hK K
          try clear hS272 hS273 hS274 hS275 hS276
          obtain ⟨a, ha⟩ : ∃ a', a' = a276 := ⟨_, rfl⟩
          rw [← ha] at hS ⊢; clear ha
          have e := Option.some.inj H
          have F278 := Fr.recol2 w277 g277 (N + 0 + 3) (N + 7)
          replace h34 := h34.recol2 (N + 7)
          replace h26 := h26.fr F278 (fun (hm : N + 0 = N + 0 + 3 ∨ N + 0 = N + 0 + 3 + 1) => by omega)
          replace h76 := OwS.fr h76 F278 (fun c' hc (hm : c' = N + 0 + 3 ∨ c' = N + 0 + 3 + 1) => by omega)
          replace hp1 := RdS.fr hp1 F278 (by decide) (fun q (hq : C1 q) (hm : q = N + 0 + 3 ∨ q = N + 0 + 3 + 1) => by have := hC1 q hq; omega)
          replace hp2 := RdS.fr hp2 F278 (by decide) (fun q (hq : C2 q) (hm : q = N + 0 + 3 ∨ q = N + 0 + 3 + 1) => by have := hC2 q hq; omega)
          replace hF := hF.trans F278 (fun c' (hm : c' = N + 0 + 3 ∨ c' = N + 0 + 3 + 1) => by show (r0 ≤ c' ∧ c' < r0 + 2) ∨ N ≤ c'; omega)
          exact ⟨(ref31_plan.mk m1_0.links m1_0.slots m1_0.at_ v179), (recol2 g277 (N + 0 + 3) (N + 7)), A74, cap75, e.symm, hS.re ⟨rfl, rfl, rfl, trivial⟩, h26, h34, h76, hp1, hp2, hF⟩
      ·clear H
       clear hp1 hp2 h26 h34 h76 hF
       clear hS
       rintro a w78 ⟨v82, g78, A79, cap80, hpre0, hS, h26, h34, h81, hp1, hp2, hF⟩
       subst hpre0
       have H := Fl.go_nxt Hl84
       clear Hl84
       refine ⟨k77, Nat.lt_succ_self _, ?_⟩
       exact ⟨v82, g78, A79, cap80, H, hS.re ⟨rfl, rfl, rfl, trivial⟩, h26, h34, h81, hp1, hp2, hF⟩


end Go.Proofs.Ythmjgadmadlpkaa.Sim
