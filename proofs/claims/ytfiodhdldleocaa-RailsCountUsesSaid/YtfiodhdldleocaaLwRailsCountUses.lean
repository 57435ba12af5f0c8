/-
  Printed by a program of this session (wip/tools): plain functions with the same answers as the Go functions, and the proofs of it.
-/
import Derived.Test.YtfiodhdldleocaaFn
import Derived.Test.YtfiodhdldleocaaOp
namespace Go.Proofs.Ytfiodhdldleocaa.Sim
open Go
set_option linter.unusedVariables false
set_option linter.unusedSimpArgs false

/-! ### law25_RailsCountUses: function 7 -/
def law25_RailsCountUses.l2 (r12 : (List api_Rail)) (r135 : rails_Rails × (List api_RailOp) × Int) (m1_0 : Int) : Nat → Int → Int → Option (Int)
  | 0, _, _ => none
  | k205 + 1, m2_0, m2_1 => if decide (m2_1 < (r12.length : Int)) = true then (((idx r12 m2_1).bind fun x217 => (if (x217.Supply == m1_0) = true then (rails_Rails_Count.f r135.1 m2_1).bind fun r228 => some (decide (0 < r228)) else some false).bind fun t233 => if t233 = true then (some (wi (m2_0 + 1))) else (some m2_0) : Option (Int)).bind fun v212 => law25_RailsCountUses.l2 r12 r135 m1_0 k205 v212 (wi (m2_1 + 1))) else (some m2_0)
def law25_RailsCountUses.l1 (r12 : (List api_Rail)) (r135 : rails_Rails × (List api_RailOp) × Int) (v149 : (List Int) × Int) : Nat → Int → Option (Fl (Fl (Bool) (Unit)) (rails_Rails × (List Int) × Int))
  | 0, _ => none
  | k182 + 1, m1_0 => if decide (m1_0 < (r12.length : Int)) = true then (((idx v149.1 m1_0).bind fun x194 => (law25_RailsCountUses.l2 r12 r135 m1_0 FUEL x194 0 : Option (Int)).bind fun v200 => (rails_Rails_Count.f r135.1 m1_0).bind fun r261 => if ((r261 != v200) || (decide (v200 < 0))) = true then (some (.out (.out (.out false)))) else (some (.nxt ())) : Option (Fl (Fl (Fl (Bool) (Unit)) (rails_Rails × (List Int) × Int)) (Unit))).bind fun o190 => o190.go fun _ => law25_RailsCountUses.l1 r12 r135 v149 k182 (wi (m1_0 + 1))) else (some (.nxt (r135.1, v149.1, v149.2)))
def law25_RailsCountUses.l0 (p1 : List law25_Call) (r12 : (List api_Rail)) : Nat → rails_Rails → (List Int) → Int → Int → Option (Fl (Bool) (Unit))
  | 0, _, _, _, _ => none
  | k77 + 1, m0_0, m0_1, m0_2, m0_3 => if ((decide (m0_3 < (p1.length : Int))) && (decide (0 < (r12.length : Int)))) = true then (((idx p1 m0_3).bind fun x103 => (law25_Call_at.f (law25_Call.mk x103.Release x103.Rail x103.Wait false) (r12.length : Int) m0_2).bind fun r121 => (law25_do.f m0_0 (law25_Call.mk x103.Release x103.Rail x103.Wait false) (r12.length : Int) m0_2).bind fun r135 => (if (r135.2.2 == 0) = true then (if x103.Release = true then ((idx m0_1 r121.1).bind fun x162 => some ((upd m0_1 r121.1 (wi (x162 - 1))), r121.2)) else ((idx m0_1 r121.1).bind fun x172 => some ((upd m0_1 r121.1 (wi (x172 + 1))), r121.2))) else (some (m0_1, m0_2)) : Option ((List Int) × Int)).bind fun v149 => law25_RailsCountUses.l1 r12 r135 v149 FUEL 0 : Option (Fl (Fl (Bool) (Unit)) (rails_Rails × (List Int) × Int))).bind fun o99 => o99.go fun v98 => law25_RailsCountUses.l0 p1 r12 k77 v98.1 v98.2.1 v98.2.2 (wi (m0_3 + 1))) else (some (.nxt ()))
def law25_RailsCountUses.f (p0 : List api_Rail) (p1 : List law25_Call) : Option (Bool) := if decide (40 < (p1.length : Int)) = true then ((law25_awake.f ).bind fun r6 => some r6) else ((law25_Some.f p0).bind fun r12 => (rails_New.f r12).bind fun r22 => if ((r22.2 != 0) || r22.1.isNone) = true then (some false) else ((mk (r12.length : Int) 0).bind fun y51 => ((r22.1).bind fun st66 => law25_RailsCountUses.l0 p1 r12 FUEL st66 y51 0 0 : Option (Fl (Bool) (Unit))).bind fun o63 => o63.go fun _ => (law25_awake.f ).bind fun r286 => some r286))
set_option maxRecDepth 100000 in
set_option maxHeartbeats 4000000 in
theorem law25_RailsCountUses.calls {p0 : List api_Rail} {A0 : Option Addr} {cap0 : Nat} {C0 : Nat → Prop} {p1 : List law25_Call} {A1 : Option Addr} {cap1 : Nat} {C1 : Nat → Prop} {w : World} {g : Nat → Nat} {out : Bool} (N : Nat) (hp0 : RdS kd_api_Rail w g C0 A0 cap0 p0) (hC0 : ∀ c, C0 c → c < N) (hp1 : RdS kd_law25_Call w g C1 A1 cap1 p1) (hC1 : ∀ c, C1 c → c < N) (H : law25_RailsCountUses.f p0 p1 = some out) :
    Calls Try.prog 7 #[.slice A0 p0.length cap0, .slice A1 p1.length cap1] w (fun e w' => ∃ v, e = .returned v ∧ ∃ (g' : Nat → Nat), v = .bool out ∧ Fr (fun q => N ≤ q) w g w' g') := by
  unfold law25_RailsCountUses.f at H
  refine calls_enter Try.func7 rfl Try.ntmps7 rfl (fun a hS => ?_)
  replace hS : Sl 130 a [(0, .slice A0 p0.length cap0), (1, .slice A1 p1.length cap1)] := hS
  have hF : Fr (fun q => N ≤ q) w g w g := Fr.refl _ _ _
  refine c_pure [(0, .slice A0 p0.length cap0), (1, .slice A1 p1.length cap1)] (fun R hR => st_val hS rfl rfl rfl (r_assign hS rfl rfl) fun a1 hS1 => wpList_nil (hR _ (hS1.re ⟨rfl, rfl, trivial⟩))) ?_
  clear hS
  clear a
  intro a hS
  refine wp_seq ?_
  refine c_pure [(0, .slice A0 p0.length cap0), (1, .slice A1 p1.length cap1), (21, .bool (decide (40 < (p1.length : Int))))] (fun R hR => st_val hS rfl rfl rfl (r_move hS rfl rfl) fun a2 hS2 => st_val hS2 rfl rfl rfl (r_len (e := 46) (sz := 4) (by_ := 32) hS2 rfl rfl (by kernel_rfl)) fun a3 hS3 => st_val hS3 rfl rfl rfl (r_bin hS3 rfl rfl rfl b_gtr) fun a4 hS4 => wpList_nil (hR _ (hS4.re ⟨rfl, rfl, rfl, trivial⟩))) ?_
  clear hS
  clear a
  intro a hS
  refine c_cond hS rfl (fun hb5 => ?_) (fun hb5 => ?_)
  · replace H := ite_t hb5 H
    obtain ⟨r6, hr7, H⟩ := bind_el H
    refine c_region (fun K hK => ?_)
    refine st_enter hS rfl rfl rfl (r_call hS rfl rfl (by kernel_rfl)) (law25_awake.calls (g := g) (N + 11)   hr7) ?_
    rintro _ a8 w9 ⟨g9, rfl, F9⟩ hS8
    replace hp0 := RdS.fr hp0 F9 (by decide) (fun q (hq : C0 q) (hm : N + 11 ≤ q) => by have := hC0 q hq; omega)
    replace hp1 := RdS.fr hp1 F9 (by decide) (fun q (hq : C1 q) (hm : N + 11 ≤ q) => by have := hC1 q hq; omega)
    replace hF := hF.trans F9 (fun c' (hm : N + 11 ≤ c') => by show N ≤ c'; omega)
    refine st_val hS8 rfl rfl rfl (r_assign hS8 rfl rfl) fun a10 hS10 => wpList_nil (hK _ _ ?_)
    replace hS : Sl 130 _ [(4, .bool r6)] := hS10.re ⟨rfl, trivial⟩
    clear hK K
    try clear hS8 hS10
    obtain ⟨a, ha⟩ : ∃ a', a' = a10 := ⟨_, rfl⟩
    rw [← ha] at hS ⊢; clear ha
    refine wp_ret ?_
    have e := Option.some.inj H
    subst e
    repeat (with_reducible first | refine then_ret ?_ | refine inBlock_ret ?_)
    exact c_ret1 hS Try.results7 rfl ⟨_, rfl, g9, rfl, hF⟩
  · replace H := ite_f hb5 H
    refine wp_skip ?_
    change Code.wp _ _ _ _ _
    obtain ⟨r12, hr13, H⟩ := bind_el H
    refine c_region (fun K hK => ?_)
    refine st_val hS rfl rfl rfl (r_move hS rfl rfl) fun a11 hS11 => ?_
    refine st_enter hS11 rfl rfl rfl (r_call hS11 rfl rfl (by kernel_rfl)) (law25_Some.calls (C0 := C0) (p0 := p0) (g := g) (N + 11) (N + 0) hp0 (fun q (hq : C0 q) => by have := hC0 q hq; omega) (by omega) hr13) ?_
    rintro _ a18 w19 ⟨g19, A14, cap15, rfl, h16, F19⟩ hS18
    replace hp0 := RdS.fr hp0 F19 (by decide) (fun q (hq : C0 q) (hm : (N + 0 ≤ q ∧ q < N + 0 + 2) ∨ N + 11 ≤ q) => by have := hC0 q hq; omega)
    replace hp1 := RdS.fr hp1 F19 (by decide) (fun q (hq : C1 q) (hm : (N + 0 ≤ q ∧ q < N + 0 + 2) ∨ N + 11 ≤ q) => by have := hC1 q hq; omega)
    replace hF := hF.trans F19 (fun c' (hm : (N + 0 ≤ c' ∧ c' < N + 0 + 2) ∨ N + 11 ≤ c') => by show N ≤ c'; omega)
    refine st_val hS18 rfl rfl rfl (r_assign hS18 rfl rfl) fun a20 hS20 => wpList_nil (hK _ _ ?_)
    replace hS : Sl 130 _ [(1, .slice A1 p1.length cap1), (5, .slice A14 r12.length cap15)] := hS20.re ⟨rfl, rfl, trivial⟩
    clear hK K
    try clear hS11 hS18 hS20
    obtain ⟨a, ha⟩ : ∃ a', a' = a20 := ⟨_, rfl⟩
    rw [← ha] at hS ⊢; clear ha
    obtain ⟨r22, hr23, H⟩ := bind_el H
    refine c_region (fun K hK => ?_)
    refine st_val hS rfl rfl rfl (r_move hS rfl rfl) fun a21 hS21 => ?_
    refine st_enter hS21 rfl rfl rfl (r_call hS21 rfl rfl (by kernel_rfl)) (rails_New.calls (C0 := (fun q => q = N + 0)) (p0 := r12) (g := g19) (N + 11) (N + 2) (OwD.rdf (fun _ _ _ _ _ _ h => h) h16) (fun q (hq : q = N + 0) => by omega) (by omega) hr23) ?_
    rintro _ a27 w28 ⟨g28, p24, rfl, h25, F28⟩ hS27
    replace h16 := OwS.fr h16 F28 (fun c' hc (hm : (N + 2 ≤ c' ∧ c' < N + 2 + 3) ∨ N + 11 ≤ c') => by omega)
    replace hp1 := RdS.fr hp1 F28 (by decide) (fun q (hq : C1 q) (hm : (N + 2 ≤ q ∧ q < N + 2 + 3) ∨ N + 11 ≤ q) => by have := hC1 q hq; omega)
    replace hF := hF.trans F28 (fun c' (hm : (N + 2 ≤ c' ∧ c' < N + 2 + 3) ∨ N + 11 ≤ c') => by show N ≤ c'; omega)
    refine st_val hS27 rfl rfl rfl (r_move hS27 rfl rfl) fun a29 hS29 => st_val hS29 rfl rfl rfl (r_extract hS29 rfl rfl rfl) fun a30 hS30 => st_val hS30 rfl rfl rfl (r_extract hS30 rfl rfl rfl) fun a31 hS31 => st_val hS31 rfl rfl rfl (r_assign hS31 rfl rfl) fun a32 hS32 => st_val hS32 rfl rfl rfl (r_assign hS32 rfl rfl) fun a33 hS33 => wpList_nil (hK _ _ ?_)
    replace hS : Sl 130 _ [(1, .slice A1 p1.length cap1), (5, .slice A14 r12.length cap15), (6, .pointer p24), (7, .int .i64 r22.2)] := hS33.re ⟨rfl, rfl, rfl, rfl, trivial⟩
    clear hK K
    try clear hS21 hS27 hS29 hS30 hS31 hS32 hS33
    obtain ⟨a, ha⟩ : ∃ a', a' = a33 := ⟨_, rfl⟩
    rw [← ha] at hS ⊢; clear ha
    refine wp_seq ?_
    refine c_region (fun K hK => ?_)
    refine st_val hS rfl rfl rfl (r_move hS rfl rfl) fun a34 hS34 => st_val hS34 rfl rfl rfl (r_bin hS34 rfl rfl rfl b_neq) fun a35 hS35 => st_val hS35 rfl rfl rfl (r_move hS35 rfl rfl) fun a36 hS36 => ?_
    refine g_join (N := 130) 3 [(1, .slice A1 p1.length cap1), (5, .slice A14 r12.length cap15), (6, .pointer p24), (35, .bool ((r22.2 != 0) || r22.1.isNone))] ?_ (fun hk => ?_)
    rotate_left
    · rcases Bool.eq_false_or_eq_true ((r22.2 != 0)) with hb37 | hb37
      · refine st_off hS36 (want_off hS36 rfl rfl rfl hb37) rfl rfl fun a40 hS40 => st_off hS40 (want_off hS40 rfl rfl rfl hb37) rfl rfl fun a41 hS41 => st_val hS41 rfl rfl rfl (r_pickT hS41 rfl rfl rfl hb37) fun a42 hS42 => hk _ (hS42.re ⟨rfl, rfl, rfl, (by rw [hb37]; rfl), trivial⟩)
      · refine st_valW hS36 (want_on hS36 rfl rfl rfl hb37) rfl rfl (r_move hS36 rfl rfl) fun a43 hS43 => st_valW hS43 (want_on hS43 rfl rfl rfl hb37) rfl rfl (r_optEq hS43 rfl rfl (by kernel_rfl) (rails_Rails_Opt.isNone h25)) fun a44 hS44 => st_val hS44 rfl rfl rfl (r_pickF hS44 rfl rfl rfl hb37) fun a45 hS45 => hk _ (hS45.re ⟨rfl, rfl, rfl, (by rw [hb37]; rfl), trivial⟩)
    intro a46 hS46
    refine wpList_nil (hK _ _ ?_)
    replace hS : Sl 130 _ [(1, .slice A1 p1.length cap1), (5, .slice A14 r12.length cap15), (6, .pointer p24), (35, .bool ((r22.2 != 0) || r22.1.isNone))] := hS46.re ⟨rfl, rfl, rfl, rfl, trivial⟩
    clear hK K
    try clear hS34 hS35 hS36 hS46
    obtain ⟨a, ha⟩ : ∃ a', a' = a46 := ⟨_, rfl⟩
    rw [← ha] at hS ⊢; clear ha
    refine c_cond hS rfl (fun hb47 => ?_) (fun hb47 => ?_)
    · replace H := ite_t hb47 H
      refine c_pure [(4, .bool false)] (fun R hR => st_val hS rfl rfl rfl (r_assign hS rfl rfl) fun a48 hS48 => wpList_nil (hR _ (hS48.re ⟨rfl, trivial⟩))) ?_
      clear hS
      clear a
      intro a hS
      refine wp_ret ?_
      have e := Option.some.inj H
      subst e
      repeat (with_reducible first | refine then_ret ?_ | refine inBlock_ret ?_)
      exact c_ret1 hS Try.results7 rfl ⟨_, rfl, g28, rfl, hF⟩
    · replace H := ite_f hb47 H
      refine wp_skip ?_
      change Code.wp _ _ _ _ _
      obtain ⟨y51, hy52, H⟩ := bind_el H
      refine c_region (fun K hK => ?_)
      refine st_val hS rfl rfl rfl (r_move hS rfl rfl) fun a49 hS49 => st_val hS49 rfl rfl rfl (r_len (e := 35) (sz := 3) (by_ := 24) hS49 rfl rfl (by kernel_rfl)) fun a50 hS50 => ?_
      refine st_eff hS50 rfl rfl rfl (e_make (e := 3) (sz := 1) (by_ := 8) (z := [.int .i64 0]) (kd := (kint .i64)) (N + 5) g28 hS50 rfl rfl (by kernel_rfl) (by kernel_rfl) rfl rfl rfl (fun _ _ _ => by exact rfl) hy52) ?_
      rintro _ a57 w58 g58 ⟨⟨A53, cap54, rfl, h55⟩, F58⟩ hS57
      replace h16 := OwS.fr h16 F58 (fun _ _ h => h)
      replace h25 := rails_Rails_Opt.fr h25 F58 (fun _ _ _ h => h)
      replace hp1 := RdS.fr hp1 F58 (by decide) (fun _ _ h => h)
      replace hF := hF.trans F58 (fun _ h => h.elim)
      refine st_val hS57 rfl rfl rfl (r_assign hS57 rfl rfl) fun a59 hS59 => wpList_nil (hK _ _ ?_)
      replace hS : Sl 130 _ [(1, .slice A1 p1.length cap1), (5, .slice A14 r12.length cap15), (6, .pointer p24), (8, .slice A53 y51.length cap54)] := hS59.re ⟨rfl, rfl, rfl, rfl, trivial⟩
      clear hK K
      try clear hS49 hS50 hS57 hS59
      obtain ⟨a, ha⟩ : ∃ a', a' = a59 := ⟨_, rfl⟩
      rw [← ha] at hS ⊢; clear ha
      refine c_pure [(1, .slice A1 p1.length cap1), (5, .slice A14 r12.length cap15), (6, .pointer p24), (8, .slice A53 y51.length cap54), (9, .int .u64 0)] (fun R hR => st_val hS rfl rfl rfl (r_assign hS rfl rfl) fun a60 hS60 => wpList_nil (hR _ (hS60.re ⟨rfl, rfl, rfl, rfl, rfl, trivial⟩))) ?_
      clear hS
      clear a
      intro a hS
      obtain ⟨o63, H, Hl64⟩ := bind_el H
      refine c_cut (fun a w61 => ∃ (g61 : Nat → Nat), o63 = .nxt () ∧ Sl 130 a [] ∧ Fr (fun q => N ≤ q) w g w61 g61) ?_ ?_
      · refine c_pure [(1, .slice A1 p1.length cap1), (5, .slice A14 r12.length cap15), (6, .pointer p24), (8, .slice A53 y51.length cap54), (9, .int .u64 0), (10, .int .i64 0)] (fun R hR => st_val hS rfl rfl rfl (r_assign hS rfl rfl) fun a65 hS65 => wpList_nil (hR _ (hS65.re ⟨rfl, rfl, rfl, rfl, rfl, rfl, trivial⟩))) ?_
        clear hS
        clear a
        intro a hS
        refine wp_block ?_
        obtain ⟨st66, hst67, H⟩ := bind_el H
        rw [hst67] at h25
        obtain ⟨b68, A71, cap72, hp75, h69, h73⟩ := h25
        subst hp75
        refine wp_loop_ghost (fun kq => fun a w76 => ∃ (m0_0 : rails_Rails), ∃ (m0_1 : List Int), ∃ (m0_2 : Int), ∃ (m0_3 : Int), ∃ (g76 : Nat → Nat), law25_RailsCountUses.l0 p1 r12 kq m0_0 m0_1 m0_2 m0_3 = some o63 ∧ Sl 130 a [(1, .slice A1 p1.length cap1), (5, .slice A14 r12.length cap15), (6, .pointer (some ⟨b68, 0, none⟩)), (8, .slice A53 m0_1.length cap54), (9, .int .u64 m0_2), (10, .int .i64 m0_3)] ∧ OwS kd_api_Rail 35 w76 g76 (N + 0) A14 cap15 r12 ∧ OwS (kint .i64) 3 w76 g76 (N + 5) A53 cap54 m0_1 ∧ Bx w76 g76 (N + 2) b68 70 [.slice A71 m0_0.list.length cap72, .int .u64 m0_0.now] ∧ OwS kd_rails_rail 75 w76 g76 (N + 2 + 1) A71 cap72 m0_0.list ∧ RdS kd_law25_Call w76 g76 C1 A1 cap1 p1 ∧ Fr (fun q => N ≤ q) w g w76 g76) FUEL ?_ ?_
        · exact ⟨st66, y51, 0, 0, g58, H, hS.re ⟨rfl, rfl, rfl, rfl, rfl, rfl, trivial⟩, h16, h55, h69, h73, hp1, hF⟩
        · clear H
          clear hp1 h16 h55 h73 h69 hF
          clear hS
          rintro k77 a w76 ⟨m0_0, m0_1, m0_2, m0_3, g76, hpre0, hS, h16, h55, h69, h73, hp1, hF⟩
          have H := hpre0
          clear hpre0
          cases k77 with
          | zero => exact absurd H (by simp [law25_RailsCountUses.l0])
          | succ k77 =>
            rw [law25_RailsCountUses.l0] at H
            refine wp_seq ?_
            refine c_region (fun K hK => ?_)
            refine st_val hS rfl rfl rfl (r_move hS rfl rfl) fun a78 hS78 => st_val hS78 rfl rfl rfl (r_move hS78 rfl rfl) fun a79 hS79 => st_val hS79 rfl rfl rfl (r_len (e := 46) (sz := 4) (by_ := 32) hS79 rfl rfl (by kernel_rfl)) fun a80 hS80 => st_val hS80 rfl rfl rfl (r_bin hS80 rfl rfl rfl b_lss) fun a81 hS81 => st_val hS81 rfl rfl rfl (r_move hS81 rfl rfl) fun a82 hS82 => ?_
            refine g_join (N := 130) 4 [(1, .slice A1 p1.length cap1), (5, .slice A14 r12.length cap15), (6, .pointer (some ⟨b68, 0, none⟩)), (8, .slice A53 m0_1.length cap54), (9, .int .u64 m0_2), (10, .int .i64 m0_3), (47, .bool ((decide (m0_3 < (p1.length : Int))) && (decide (0 < (r12.length : Int)))))] ?_ (fun hk => ?_)
            rotate_left
            · rcases Bool.eq_false_or_eq_true (decide (m0_3 < (p1.length : Int))) with hb83 | hb83
              · refine st_valW hS82 (want_on hS82 rfl rfl rfl hb83) rfl rfl (r_move hS82 rfl rfl) fun a87 hS87 => st_valW hS87 (want_on hS87 rfl rfl rfl hb83) rfl rfl (r_len (e := 35) (sz := 3) (by_ := 24) hS87 rfl rfl (by kernel_rfl)) fun a88 hS88 => st_valW hS88 (want_on hS88 rfl rfl rfl hb83) rfl rfl (r_bin hS88 rfl rfl rfl b_gtr) fun a89 hS89 => st_val hS89 rfl rfl rfl (r_pickT hS89 rfl rfl rfl hb83) fun a90 hS90 => hk _ (hS90.re ⟨rfl, rfl, rfl, rfl, rfl, rfl, (by rw [hb83]; rfl), trivial⟩)
              · refine st_off hS82 (want_off hS82 rfl rfl rfl hb83) rfl rfl fun a91 hS91 => st_off hS91 (want_off hS91 rfl rfl rfl hb83) rfl rfl fun a92 hS92 => st_off hS92 (want_off hS92 rfl rfl rfl hb83) rfl rfl fun a93 hS93 => st_val hS93 rfl rfl rfl (r_pickF hS93 rfl rfl rfl hb83) fun a94 hS94 => hk _ (hS94.re ⟨rfl, rfl, rfl, rfl, rfl, rfl, (by rw [hb83]; rfl), trivial⟩)
            intro a95 hS95
            refine wpList_nil (hK _ _ ?_)
            replace hS : Sl 130 _ [(1, .slice A1 p1.length cap1), (5, .slice A14 r12.length cap15), (6, .pointer (some ⟨b68, 0, none⟩)), (8, .slice A53 m0_1.length cap54), (9, .int .u64 m0_2), (10, .int .i64 m0_3), (47, .bool ((decide (m0_3 < (p1.length : Int))) && (decide (0 < (r12.length : Int)))))] := hS95.re ⟨rfl, rfl, rfl, rfl, rfl, rfl, rfl, trivial⟩
            clear hK K
            try clear hS78 hS79 hS80 hS81 hS82 hS95
            obtain ⟨a, ha⟩ : ∃ a', a' = a95 := ⟨_, rfl⟩
            rw [← ha] at hS ⊢; clear ha
            refine c_cond hS rfl (fun hb96 => ?_) (fun hb96 => ?_)
            · replace H := ite_t hb96 H
              refine wp_skip ?_
              change Code.wp _ _ _ _ _
              obtain ⟨o99, H, Hl100⟩ := bind_el H
              refine c_cut (fun a w97 => ∃ (v98 : rails_Rails × (List Int) × Int), ∃ (g97 : Nat → Nat), o99 = .nxt v98 ∧ Sl 130 a [(1, .slice A1 p1.length cap1), (5, .slice A14 r12.length cap15), (6, .pointer (some ⟨b68, 0, none⟩)), (8, .slice A53 v98.2.1.length cap54), (9, .int .u64 v98.2.2), (10, .int .i64 m0_3)] ∧ OwS kd_api_Rail 35 w97 g97 (N + 0) A14 cap15 r12 ∧ OwS (kint .i64) 3 w97 g97 (N + 5) A53 cap54 v98.2.1 ∧ Bx w97 g97 (N + 2) b68 70 [.slice A71 v98.1.list.length cap72, .int .u64 v98.1.now] ∧ OwS kd_rails_rail 75 w97 g97 (N + 2 + 1) A71 cap72 v98.1.list ∧ RdS kd_law25_Call w97 g97 C1 A1 cap1 p1 ∧ Fr (fun q => N ≤ q) w g w97 g97) ?_ ?_
              · refine wp_block ?_
                obtain ⟨x103, hx104, H⟩ := bind_el H
                refine c_region (fun K hK => ?_)
                refine st_val hS rfl rfl rfl (r_move hS rfl rfl) fun a101 hS101 => st_val hS101 rfl rfl rfl (r_move hS101 rfl rfl) fun a102 hS102 => st_val hS102 rfl rfl rfl (r_index (e := 46) (sz := 4) (by_ := 32) hS102 rfl rfl rfl (by kernel_rfl) (RdS.some_ hp1 hx104) (idx_lo hx104) (idx_hi hx104)) fun a105 hS105 => st_val hS105 rfl rfl rfl (r_loadN (n := 4) (cs := [.bool x103.Release, .int .i64 x103.Rail, .int .u64 x103.Wait, .bool x103.Raw]) hS105 rfl rfl (by kernel_rfl) rfl (RdS.cells_off hp1 hx104 0 4)) fun a106 hS106 => ?_
                refine st_eff hS106 rfl rfl rfl (e_alloc (cs := [.bool false, .int .i64 0, .int .u64 0, .bool false]) (N + 7) g76 hS106 rfl (by kernel_rfl)) ?_
                rintro _ a110 w111 g111 ⟨⟨b107, rfl, h108⟩, F111⟩ hS110
                replace h16 := OwS.fr h16 F111 (fun _ _ h => h)
                replace h55 := OwS.fr h55 F111 (fun _ _ h => h)
                replace h69 := h69.fr F111 (fun h => h)
                replace h73 := OwS.fr h73 F111 (fun _ _ h => h)
                replace hp1 := RdS.fr hp1 F111 (by decide) (fun _ _ h => h)
                replace hF := hF.trans F111 (fun _ h => h.elim)
                refine st_effS hS110 rfl rfl (e_storeB (n := 4) (bb := true) (cs' := [.bool x103.Release, .int .i64 x103.Rail, .int .u64 x103.Wait, .bool x103.Raw]) g111 hS110 rfl rfl rfl (by kernel_rfl) rfl rfl rfl h108 rfl rfl) ?_
                rintro a112 w113 g113 ⟨h108, F113⟩ hS112
                replace h16 := OwS.fr h16 F113 (fun c' hc (hm : c' = N + 7) => by omega)
                replace h55 := OwS.fr h55 F113 (fun c' hc (hm : c' = N + 7) => by omega)
                replace h69 := h69.fr F113 (fun (hm : N + 2 = N + 7) => by omega)
                replace h73 := OwS.fr h73 F113 (fun c' hc (hm : c' = N + 7) => by omega)
                replace hp1 := RdS.fr hp1 F113 (by decide) (fun q (hq : C1 q) (hm : q = N + 7) => by have := hC1 q hq; omega)
                replace hF := hF.trans F113 (fun c' (hm : c' = N + 7) => by show N ≤ c'; omega)
                refine wpList_nil (hK _ _ ?_)
                replace hS : Sl 130 _ [(1, .slice A1 p1.length cap1), (5, .slice A14 r12.length cap15), (6, .pointer (some ⟨b68, 0, none⟩)), (8, .slice A53 m0_1.length cap54), (9, .int .u64 m0_2), (10, .int .i64 m0_3), (11, .pointer (some ⟨b107, 0, none⟩))] := hS112.re ⟨rfl, rfl, rfl, rfl, rfl, rfl, rfl, trivial⟩
                clear hK K
                try clear hS101 hS102 hS105 hS106 hS110 hS112
                obtain ⟨a, ha⟩ : ∃ a', a' = a112 := ⟨_, rfl⟩
                rw [← ha] at hS ⊢; clear ha
                refine c_region (fun K hK => ?_)
                refine st_val hS rfl rfl rfl (r_fieldB (off := 3) hS rfl rfl (by kernel_rfl)) fun a114 hS114 => ?_
                refine st_effS hS114 rfl rfl (e_storeB (n := 1) (bb := false) (cs' := [.bool x103.Release, .int .i64 x103.Rail, .int .u64 x103.Wait, .bool false]) g113 hS114 rfl rfl rfl (by kernel_rfl) rfl rfl rfl h108 rfl rfl) ?_
                rintro a115 w116 g116 ⟨h108, F116⟩ hS115
                replace h16 := OwS.fr h16 F116 (fun c' hc (hm : c' = N + 7) => by omega)
                replace h55 := OwS.fr h55 F116 (fun c' hc (hm : c' = N + 7) => by omega)
                replace h69 := h69.fr F116 (fun (hm : N + 2 = N + 7) => by omega)
                replace h73 := OwS.fr h73 F116 (fun c' hc (hm : c' = N + 7) => by omega)
                replace hp1 := RdS.fr hp1 F116 (by decide) (fun q (hq : C1 q) (hm : q = N + 7) => by have := hC1 q hq; omega)
                replace hF := hF.trans F116 (fun c' (hm : c' = N + 7) => by show N ≤ c'; omega)
                refine wpList_nil (hK _ _ ?_)
                replace hS : Sl 130 _ [(1, .slice A1 p1.length cap1), (5, .slice A14 r12.length cap15), (6, .pointer (some ⟨b68, 0, none⟩)), (8, .slice A53 m0_1.length cap54), (9, .int .u64 m0_2), (10, .int .i64 m0_3), (11, .pointer (some ⟨b107, 0, none⟩))] := hS115.re ⟨rfl, rfl, rfl, rfl, rfl, rfl, rfl, trivial⟩
                clear hK K
                try clear hS114 hS115
                obtain ⟨a, ha⟩ : ∃ a', a' = a115 := ⟨_, rfl⟩
                rw [← ha] at hS ⊢; clear ha
                obtain ⟨r121, hr122, H⟩ := bind_el H
                refine c_region (fun K hK => ?_)
                refine st_val hS rfl rfl rfl (r_loadN (n := 4) (cs := [.bool x103.Release, .int .i64 x103.Rail, .int .u64 x103.Wait, .bool false]) hS rfl rfl (by kernel_rfl) rfl (Bx.cells_off h108 0 4)) fun a117 hS117 => st_val hS117 rfl rfl rfl (r_move hS117 rfl rfl) fun a118 hS118 => st_val hS118 rfl rfl rfl (r_len (e := 35) (sz := 3) (by_ := 24) hS118 rfl rfl (by kernel_rfl)) fun a119 hS119 => st_val hS119 rfl rfl rfl (r_move hS119 rfl rfl) fun a120 hS120 => ?_
                refine st_enter hS120 rfl rfl rfl (r_call hS120 rfl rfl (by kernel_rfl)) (law25_Call_at.calls (p0 := (law25_Call.mk x103.Release x103.Rail x103.Wait false)) (p1 := (r12.length : Int)) (p2 := m0_2) (g := g116) (N + 11)   hr122) ?_
                rintro _ a123 w124 ⟨g124, rfl, F124⟩ hS123
                replace h108 := h108.fr F124 (fun (hm : N + 11 ≤ N + 7) => by omega)
                replace h16 := OwS.fr h16 F124 (fun c' hc (hm : N + 11 ≤ c') => by omega)
                replace h55 := OwS.fr h55 F124 (fun c' hc (hm : N + 11 ≤ c') => by omega)
                replace h69 := h69.fr F124 (fun (hm : N + 11 ≤ N + 2) => by omega)
                replace h73 := OwS.fr h73 F124 (fun c' hc (hm : N + 11 ≤ c') => by omega)
                replace hp1 := RdS.fr hp1 F124 (by decide) (fun q (hq : C1 q) (hm : N + 11 ≤ q) => by have := hC1 q hq; omega)
                replace hF := hF.trans F124 (fun c' (hm : N + 11 ≤ c') => by show N ≤ c'; omega)
                refine st_val hS123 rfl rfl rfl (r_move hS123 rfl rfl) fun a125 hS125 => st_val hS125 rfl rfl rfl (r_extract hS125 rfl rfl rfl) fun a126 hS126 => st_val hS126 rfl rfl rfl (r_extract hS126 rfl rfl rfl) fun a127 hS127 => st_val hS127 rfl rfl rfl (r_assign hS127 rfl rfl) fun a128 hS128 => st_val hS128 rfl rfl rfl (r_assign hS128 rfl rfl) fun a129 hS129 => wpList_nil (hK _ _ ?_)
                replace hS : Sl 130 _ [(1, .slice A1 p1.length cap1), (5, .slice A14 r12.length cap15), (6, .pointer (some ⟨b68, 0, none⟩)), (8, .slice A53 m0_1.length cap54), (9, .int .u64 m0_2), (10, .int .i64 m0_3), (11, .pointer (some ⟨b107, 0, none⟩)), (12, .int .i64 r121.1), (13, .int .u64 r121.2)] := hS129.re ⟨rfl, rfl, rfl, rfl, rfl, rfl, rfl, rfl, rfl, trivial⟩
                clear hK K
                try clear hS117 hS118 hS119 hS120 hS123 hS125 hS126 hS127 hS128 hS129
                obtain ⟨a, ha⟩ : ∃ a', a' = a129 := ⟨_, rfl⟩
                rw [← ha] at hS ⊢; clear ha
                obtain ⟨r135, hr136, H⟩ := bind_el H
                refine c_region (fun K hK => ?_)
                refine st_val hS rfl rfl rfl (r_move hS rfl rfl) fun a130 hS130 => st_val hS130 rfl rfl rfl (r_loadN (n := 4) (cs := [.bool x103.Release, .int .i64 x103.Rail, .int .u64 x103.Wait, .bool false]) hS130 rfl rfl (by kernel_rfl) rfl (Bx.cells_off h108 0 4)) fun a131 hS131 => st_val hS131 rfl rfl rfl (r_move hS131 rfl rfl) fun a132 hS132 => st_val hS132 rfl rfl rfl (r_len (e := 35) (sz := 3) (by_ := 24) hS132 rfl rfl (by kernel_rfl)) fun a133 hS133 => st_val hS133 rfl rfl rfl (r_move hS133 rfl rfl) fun a134 hS134 => ?_
                refine st_enter hS134 rfl rfl rfl (r_call hS134 rfl rfl (by kernel_rfl)) (law25_do.calls (c0 := N + 2) (b_p0 := b68) (A_list_p0 := A71) (cap_list_p0 := cap72) (p0 := m0_0) (p1 := (law25_Call.mk x103.Release x103.Rail x103.Wait false)) (p2 := (r12.length : Int)) (p3 := m0_2) (g := g124) (N + 11) (N + 9) ⟨h69, h73⟩ (by omega) (by omega) (by omega) hr136) ?_
                rintro _ a141 w142 ⟨g142, A137, cap138, rfl, ⟨h69, h73⟩, h139, F142⟩ hS141
                replace h108 := h108.fr F142 (fun (hm : (N + 2 ≤ N + 7 ∧ N + 7 < N + 2 + 3) ∨ (N + 9 ≤ N + 7 ∧ N + 7 < N + 9 + 2) ∨ N + 11 ≤ N + 7) => by omega)
                replace h16 := OwS.fr h16 F142 (fun c' hc (hm : (N + 2 ≤ c' ∧ c' < N + 2 + 3) ∨ (N + 9 ≤ c' ∧ c' < N + 9 + 2) ∨ N + 11 ≤ c') => by omega)
                replace h55 := OwS.fr h55 F142 (fun c' hc (hm : (N + 2 ≤ c' ∧ c' < N + 2 + 3) ∨ (N + 9 ≤ c' ∧ c' < N + 9 + 2) ∨ N + 11 ≤ c') => by omega)
                replace hp1 := RdS.fr hp1 F142 (by decide) (fun q (hq : C1 q) (hm : (N + 2 ≤ q ∧ q < N + 2 + 3) ∨ (N + 9 ≤ q ∧ q < N + 9 + 2) ∨ N + 11 ≤ q) => by have := hC1 q hq; omega)
                replace hF := hF.trans F142 (fun c' (hm : (N + 2 ≤ c' ∧ c' < N + 2 + 3) ∨ (N + 9 ≤ c' ∧ c' < N + 9 + 2) ∨ N + 11 ≤ c') => by show N ≤ c'; omega)
                refine st_val hS141 rfl rfl rfl (r_move hS141 rfl rfl) fun a143 hS143 => st_val hS143 rfl rfl rfl (r_extract hS143 rfl rfl rfl) fun a144 hS144 => st_val hS144 rfl rfl rfl (r_extract hS144 rfl rfl rfl) fun a145 hS145 => st_val hS145 rfl rfl rfl (r_assign hS145 rfl rfl) fun a146 hS146 => st_val hS146 rfl rfl rfl (r_assign hS146 rfl rfl) fun a147 hS147 => wpList_nil (hK _ _ ?_)
                replace hS : Sl 130 _ [(1, .slice A1 p1.length cap1), (5, .slice A14 r12.length cap15), (6, .pointer (some ⟨b68, 0, none⟩)), (8, .slice A53 m0_1.length cap54), (9, .int .u64 m0_2), (10, .int .i64 m0_3), (11, .pointer (some ⟨b107, 0, none⟩)), (12, .int .i64 r121.1), (13, .int .u64 r121.2), (15, .int .i64 r135.2.2)] := hS147.re ⟨rfl, rfl, rfl, rfl, rfl, rfl, rfl, rfl, rfl, rfl, trivial⟩
                clear hK K
                try clear hS130 hS131 hS132 hS133 hS134 hS141 hS143 hS144 hS145 hS146 hS147
                obtain ⟨a, ha⟩ : ∃ a', a' = a147 := ⟨_, rfl⟩
                rw [← ha] at hS ⊢; clear ha
                obtain ⟨v149, H, Hl151⟩ := bind_el H
                refine c_cut (fun a w148 => ∃ (g148 : Nat → Nat), Sl 130 a [(1, .slice A1 p1.length cap1), (5, .slice A14 r12.length cap15), (6, .pointer (some ⟨b68, 0, none⟩)), (8, .slice A53 v149.1.length cap54), (9, .int .u64 v149.2), (10, .int .i64 m0_3)] ∧ OwS kd_api_Rail 35 w148 g148 (N + 0) A14 cap15 r12 ∧ OwS (kint .i64) 3 w148 g148 (N + 5) A53 cap54 v149.1 ∧ Bx w148 g148 (N + 2) b68 70 [.slice A71 r135.1.list.length cap72, .int .u64 r135.1.now] ∧ OwS kd_rails_rail 75 w148 g148 (N + 2 + 1) A71 cap72 r135.1.list ∧ RdS kd_law25_Call w148 g148 C1 A1 cap1 p1 ∧ Fr (fun q => N ≤ q) w g w148 g148) ?_ ?_
                · refine c_pure [(1, .slice A1 p1.length cap1), (5, .slice A14 r12.length cap15), (6, .pointer (some ⟨b68, 0, none⟩)), (8, .slice A53 m0_1.length cap54), (9, .int .u64 m0_2), (10, .int .i64 m0_3), (11, .pointer (some ⟨b107, 0, none⟩)), (12, .int .i64 r121.1), (13, .int .u64 r121.2), (73, .bool (r135.2.2 == 0))] (fun R hR => st_val hS rfl rfl rfl (r_move hS rfl rfl) fun a152 hS152 => st_val hS152 rfl rfl rfl (r_bin hS152 rfl rfl rfl b_eql) fun a153 hS153 => wpList_nil (hR _ (hS153.re ⟨rfl, rfl, rfl, rfl, rfl, rfl, rfl, rfl, rfl, rfl, trivial⟩))) ?_
                  clear hS
                  clear a
                  intro a hS
                  refine c_cond hS rfl (fun hb154 => ?_) (fun hb154 => ?_)
                  · replace H := ite_t hb154 H
                    refine c_pure [(1, .slice A1 p1.length cap1), (5, .slice A14 r12.length cap15), (6, .pointer (some ⟨b68, 0, none⟩)), (8, .slice A53 m0_1.length cap54), (9, .int .u64 r121.2), (10, .int .i64 m0_3), (11, .pointer (some ⟨b107, 0, none⟩)), (12, .int .i64 r121.1)] (fun R hR => st_val hS rfl rfl rfl (r_move hS rfl rfl) fun a155 hS155 => st_val hS155 rfl rfl rfl (r_assign hS155 rfl rfl) fun a156 hS156 => wpList_nil (hR _ (hS156.re ⟨rfl, rfl, rfl, rfl, rfl, rfl, rfl, rfl, trivial⟩))) ?_
                    clear hS
                    clear a
                    intro a hS
                    refine c_pure [(1, .slice A1 p1.length cap1), (5, .slice A14 r12.length cap15), (6, .pointer (some ⟨b68, 0, none⟩)), (8, .slice A53 m0_1.length cap54), (9, .int .u64 r121.2), (10, .int .i64 m0_3), (12, .int .i64 r121.1), (76, .bool x103.Release)] (fun R hR => st_val hS rfl rfl rfl (r_fieldB (off := 0) hS rfl rfl (by kernel_rfl)) fun a157 hS157 => st_val hS157 rfl rfl rfl (r_load1 (n := 1) hS157 rfl rfl (by kernel_rfl) (Bx.cell h108 rfl)) fun a158 hS158 => wpList_nil (hR _ (hS158.re ⟨rfl, rfl, rfl, rfl, rfl, rfl, rfl, rfl, trivial⟩))) ?_
                    clear hS
                    clear a
                    intro a hS
                    refine c_cond hS rfl (fun hb159 => ?_) (fun hb159 => ?_)
                    · replace H := ite_t hb159 H
                      obtain ⟨x162, hx163, H⟩ := bind_el H
                      refine c_region1 (fun K hK => ?_)
                      refine st_val hS rfl rfl rfl (r_move hS rfl rfl) fun a160 hS160 => st_val hS160 rfl rfl rfl (r_move hS160 rfl rfl) fun a161 hS161 => st_val hS161 rfl rfl rfl (r_index (e := 3) (sz := 1) (by_ := 8) hS161 rfl rfl rfl (by kernel_rfl) (RdS.some_ (OwS.rd h55) hx163) (idx_lo hx163) (idx_hi hx163)) fun a164 hS164 => st_val hS164 rfl rfl rfl (r_load1 (n := 1) hS164 rfl rfl (by kernel_rfl) (RdS.cell (i := r121.1) (sz := 1) (j := 0) (OwS.rd h55) hx163 rfl)) fun a165 hS165 => st_val hS165 rfl rfl rfl (r_bin hS165 rfl rfl rfl b_sub) fun a166 hS166 => st_val hS166 rfl rfl rfl (r_index (e := 3) (sz := 1) (by_ := 8) hS166 rfl rfl rfl (by kernel_rfl) (RdS.some_ (OwS.rd h55) hx163) (idx_lo hx163) (idx_hi hx163)) fun a167 hS167 => ?_
                      refine st_effS hS167 rfl rfl (e_storeE (n := 1) (bb := false) (kd := (kint .i64)) (j := 0) (x' := wi (x162 - 1)) (us := [.int .i64 (wi (x162 - 1))]) g142 hS167 rfl rfl rfl rfl (by kernel_rfl) rfl rfl (by intro v hv; simp only [List.mem_cons, List.not_mem_nil, or_false] at hv; rcases hv with rfl <;> rfl) h55 hx163 rfl (fun _ _ cs hR => by rw [show cs = _ from hR]; rfl)) ?_
                      rintro a168 w169 g169 ⟨h55, F169⟩ hS168
                      replace h16 := OwS.fr h16 F169 (fun c' hc (hm : c' = N + 5) => by omega)
                      replace h69 := h69.fr F169 (fun (hm : N + 2 = N + 5) => by omega)
                      replace h73 := OwS.fr h73 F169 (fun c' hc (hm : c' = N + 5) => by omega)
                      replace hp1 := RdS.fr hp1 F169 (by decide) (fun q (hq : C1 q) (hm : q = N + 5) => by have := hC1 q hq; omega)
                      replace hF := hF.trans F169 (fun c' (hm : c' = N + 5) => by show N ≤ c'; omega)
                      have hT : Sl 130 a168 [(1, .slice A1 p1.length cap1), (5, .slice A14 r12.length cap15), (6, .pointer (some ⟨b68, 0, none⟩)), (8, .slice A53 m0_1.length cap54), (9, .int .u64 r121.2), (10, .int .i64 m0_3)] := hS168.re ⟨rfl, rfl, rfl, rfl, rfl, rfl, trivial⟩
                      replace hS168 : Sl 130 a168 [(1, .slice A1 p1.length cap1), (5, .slice A14 r12.length cap15), (6, .pointer (some ⟨b68, 0, none⟩)), (8, .slice A53 (upd m0_1 r121.1 (wi (x162 - 1))).length cap54), (9, .int .u64 r121.2), (10, .int .i64 m0_3)] := by simpa only [upd_length] using hT
                      clear hT
                      refine wpList_nil (hK _ _ ?_)
                      replace hS : Sl 130 _ [(1, .slice A1 p1.length cap1), (5, .slice A14 r12.length cap15), (6, .pointer (some ⟨b68, 0, none⟩)), (8, .slice A53 (upd m0_1 r121.1 (wi (x162 - 1))).length cap54), (9, .int .u64 r121.2), (10, .int .i64 m0_3)] := hS168.re ⟨rfl, rfl, rfl, rfl, rfl, rfl, trivial⟩
                      clear hK K
                      try clear hS160 hS161 hS164 hS165 hS166 hS167 hS168
                      obtain ⟨a, ha⟩ : ∃ a', a' = a168 := ⟨_, rfl⟩
                      rw [← ha] at hS ⊢; clear ha
                      have e := Option.some.inj H
                      subst e
                      exact ⟨g169, hS.re ⟨rfl, rfl, rfl, rfl, rfl, rfl, trivial⟩, h16, h55, h69, h73, hp1, hF⟩
                    · replace H := ite_f hb159 H
                      obtain ⟨x172, hx173, H⟩ := bind_el H
                      refine c_region1 (fun K hK => ?_)
                      refine st_val hS rfl rfl rfl (r_move hS rfl rfl) fun a170 hS170 => st_val hS170 rfl rfl rfl (r_move hS170 rfl rfl) fun a171 hS171 => st_val hS171 rfl rfl rfl (r_index (e := 3) (sz := 1) (by_ := 8) hS171 rfl rfl rfl (by kernel_rfl) (RdS.some_ (OwS.rd h55) hx173) (idx_lo hx173) (idx_hi hx173)) fun a174 hS174 => st_val hS174 rfl rfl rfl (r_load1 (n := 1) hS174 rfl rfl (by kernel_rfl) (RdS.cell (i := r121.1) (sz := 1) (j := 0) (OwS.rd h55) hx173 rfl)) fun a175 hS175 => st_val hS175 rfl rfl rfl (r_bin hS175 rfl rfl rfl b_add) fun a176 hS176 => st_val hS176 rfl rfl rfl (r_index (e := 3) (sz := 1) (by_ := 8) hS176 rfl rfl rfl (by kernel_rfl) (RdS.some_ (OwS.rd h55) hx173) (idx_lo hx173) (idx_hi hx173)) fun a177 hS177 => ?_
                      refine st_effS hS177 rfl rfl (e_storeE (n := 1) (bb := false) (kd := (kint .i64)) (j := 0) (x' := wi (x172 + 1)) (us := [.int .i64 (wi (x172 + 1))]) g142 hS177 rfl rfl rfl rfl (by kernel_rfl) rfl rfl (by intro v hv; simp only [List.mem_cons, List.not_mem_nil, or_false] at hv; rcases hv with rfl <;> rfl) h55 hx173 rfl (fun _ _ cs hR => by rw [show cs = _ from hR]; rfl)) ?_
                      rintro a178 w179 g179 ⟨h55, F179⟩ hS178
                      replace h16 := OwS.fr h16 F179 (fun c' hc (hm : c' = N + 5) => by omega)
                      replace h69 := h69.fr F179 (fun (hm : N + 2 = N + 5) => by omega)
                      replace h73 := OwS.fr h73 F179 (fun c' hc (hm : c' = N + 5) => by omega)
                      replace hp1 := RdS.fr hp1 F179 (by decide) (fun q (hq : C1 q) (hm : q = N + 5) => by have := hC1 q hq; omega)
                      replace hF := hF.trans F179 (fun c' (hm : c' = N + 5) => by show N ≤ c'; omega)
                      have hT : Sl 130 a178 [(1, .slice A1 p1.length cap1), (5, .slice A14 r12.length cap15), (6, .pointer (some ⟨b68, 0, none⟩)), (8, .slice A53 m0_1.length cap54), (9, .int .u64 r121.2), (10, .int .i64 m0_3)] := hS178.re ⟨rfl, rfl, rfl, rfl, rfl, rfl, trivial⟩
                      replace hS178 : Sl 130 a178 [(1, .slice A1 p1.length cap1), (5, .slice A14 r12.length cap15), (6, .pointer (some ⟨b68, 0, none⟩)), (8, .slice A53 (upd m0_1 r121.1 (wi (x172 + 1))).length cap54), (9, .int .u64 r121.2), (10, .int .i64 m0_3)] := by simpa only [upd_length] using hT
                      clear hT
                      refine wpList_nil (hK _ _ ?_)
                      replace hS : Sl 130 _ [(1, .slice A1 p1.length cap1), (5, .slice A14 r12.length cap15), (6, .pointer (some ⟨b68, 0, none⟩)), (8, .slice A53 (upd m0_1 r121.1 (wi (x172 + 1))).length cap54), (9, .int .u64 r121.2), (10, .int .i64 m0_3)] := hS178.re ⟨rfl, rfl, rfl, rfl, rfl, rfl, trivial⟩
                      clear hK K
                      try clear hS170 hS171 hS174 hS175 hS176 hS177 hS178
                      obtain ⟨a, ha⟩ : ∃ a', a' = a178 := ⟨_, rfl⟩
                      rw [← ha] at hS ⊢; clear ha
                      have e := Option.some.inj H
                      subst e
                      exact ⟨g179, hS.re ⟨rfl, rfl, rfl, rfl, rfl, rfl, trivial⟩, h16, h55, h69, h73, hp1, hF⟩
                  · replace H := ite_f hb154 H
                    refine wp_skip ?_
                    have e := Option.some.inj H
                    subst e
                    exact ⟨g142, hS.re ⟨rfl, rfl, rfl, rfl, rfl, rfl, trivial⟩, h16, h55, h69, h73, hp1, hF⟩
                · clear H
                  clear hp1 h16 h55 h73 h69 h108 hF
                  clear hS
                  rintro a w148 ⟨g148, hS, h16, h55, h69, h73, hp1, hF⟩
                  have H := Hl151
                  clear Hl151
                  refine c_pure [(1, .slice A1 p1.length cap1), (5, .slice A14 r12.length cap15), (6, .pointer (some ⟨b68, 0, none⟩)), (8, .slice A53 v149.1.length cap54), (9, .int .u64 v149.2), (10, .int .i64 m0_3), (16, .int .i64 0)] (fun R hR => st_val hS rfl rfl rfl (r_assign hS rfl rfl) fun a180 hS180 => wpList_nil (hR _ (hS180.re ⟨rfl, rfl, rfl, rfl, rfl, rfl, rfl, trivial⟩))) ?_
                  clear hS
                  clear a
                  intro a hS
                  refine wp_block ?_
                  refine wp_loop_ghost (fun kq => fun a w181 => ∃ (m1_0 : Int), ∃ (g181 : Nat → Nat), law25_RailsCountUses.l1 r12 r135 v149 kq m1_0 = some o99 ∧ Sl 130 a [(1, .slice A1 p1.length cap1), (5, .slice A14 r12.length cap15), (6, .pointer (some ⟨b68, 0, none⟩)), (8, .slice A53 v149.1.length cap54), (9, .int .u64 v149.2), (10, .int .i64 m0_3), (16, .int .i64 m1_0)] ∧ OwS kd_api_Rail 35 w181 g181 (N + 0) A14 cap15 r12 ∧ OwS (kint .i64) 3 w181 g181 (N + 5) A53 cap54 v149.1 ∧ Bx w181 g181 (N + 2) b68 70 [.slice A71 r135.1.list.length cap72, .int .u64 r135.1.now] ∧ OwS kd_rails_rail 75 w181 g181 (N + 2 + 1) A71 cap72 r135.1.list ∧ RdS kd_law25_Call w181 g181 C1 A1 cap1 p1 ∧ Fr (fun q => N ≤ q) w g w181 g181) FUEL ?_ ?_
                  · exact ⟨0, g148, H, hS.re ⟨rfl, rfl, rfl, rfl, rfl, rfl, rfl, trivial⟩, h16, h55, h69, h73, hp1, hF⟩
                  · clear H
                    clear hp1 h16 h55 h73 h69 hF
                    clear hS
                    rintro k182 a w181 ⟨m1_0, g181, hpre0, hS, h16, h55, h69, h73, hp1, hF⟩
                    have H := hpre0
                    clear hpre0
                    cases k182 with
                    | zero => exact absurd H (by simp [law25_RailsCountUses.l1])
                    | succ k182 =>
                      rw [law25_RailsCountUses.l1] at H
                      refine wp_seq ?_
                      refine c_pure [(1, .slice A1 p1.length cap1), (5, .slice A14 r12.length cap15), (6, .pointer (some ⟨b68, 0, none⟩)), (8, .slice A53 v149.1.length cap54), (9, .int .u64 v149.2), (10, .int .i64 m0_3), (16, .int .i64 m1_0), (92, .bool (decide (m1_0 < (r12.length : Int))))] (fun R hR => st_val hS rfl rfl rfl (r_move hS rfl rfl) fun a183 hS183 => st_val hS183 rfl rfl rfl (r_move hS183 rfl rfl) fun a184 hS184 => st_val hS184 rfl rfl rfl (r_len (e := 35) (sz := 3) (by_ := 24) hS184 rfl rfl (by kernel_rfl)) fun a185 hS185 => st_val hS185 rfl rfl rfl (r_bin hS185 rfl rfl rfl b_lss) fun a186 hS186 => wpList_nil (hR _ (hS186.re ⟨rfl, rfl, rfl, rfl, rfl, rfl, rfl, rfl, trivial⟩))) ?_
                      clear hS
                      clear a
                      intro a hS
                      refine c_cond hS rfl (fun hb187 => ?_) (fun hb187 => ?_)
                      · replace H := ite_t hb187 H
                        refine wp_skip ?_
                        change Code.wp _ _ _ _ _
                        obtain ⟨o190, H, Hl191⟩ := bind_el H
                        refine c_cut (fun a w188 => ∃ (g188 : Nat → Nat), o190 = .nxt () ∧ Sl 130 a [(1, .slice A1 p1.length cap1), (5, .slice A14 r12.length cap15), (6, .pointer (some ⟨b68, 0, none⟩)), (8, .slice A53 v149.1.length cap54), (9, .int .u64 v149.2), (10, .int .i64 m0_3), (16, .int .i64 m1_0)] ∧ OwS kd_api_Rail 35 w188 g188 (N + 0) A14 cap15 r12 ∧ OwS (kint .i64) 3 w188 g188 (N + 5) A53 cap54 v149.1 ∧ Bx w188 g188 (N + 2) b68 70 [.slice A71 r135.1.list.length cap72, .int .u64 r135.1.now] ∧ OwS kd_rails_rail 75 w188 g188 (N + 2 + 1) A71 cap72 r135.1.list ∧ RdS kd_law25_Call w188 g188 C1 A1 cap1 p1 ∧ Fr (fun q => N ≤ q) w g w188 g188) ?_ ?_
                        · refine wp_block ?_
                          obtain ⟨x194, hx195, H⟩ := bind_el H
                          refine c_pure [(1, .slice A1 p1.length cap1), (5, .slice A14 r12.length cap15), (6, .pointer (some ⟨b68, 0, none⟩)), (8, .slice A53 v149.1.length cap54), (9, .int .u64 v149.2), (10, .int .i64 m0_3), (16, .int .i64 m1_0), (17, .int .i64 x194)] (fun R hR => st_val hS rfl rfl rfl (r_move hS rfl rfl) fun a192 hS192 => st_val hS192 rfl rfl rfl (r_move hS192 rfl rfl) fun a193 hS193 => st_val hS193 rfl rfl rfl (r_index (e := 3) (sz := 1) (by_ := 8) hS193 rfl rfl rfl (by kernel_rfl) (RdS.some_ (OwS.rd h55) hx195) (idx_lo hx195) (idx_hi hx195)) fun a196 hS196 => st_val hS196 rfl rfl rfl (r_load1 (n := 1) hS196 rfl rfl (by kernel_rfl) (RdS.cell (i := m1_0) (sz := 1) (j := 0) (OwS.rd h55) hx195 rfl)) fun a197 hS197 => st_val hS197 rfl rfl rfl (r_assign hS197 rfl rfl) fun a198 hS198 => wpList_nil (hR _ (hS198.re ⟨rfl, rfl, rfl, rfl, rfl, rfl, rfl, rfl, trivial⟩))) ?_
                          clear hS
                          clear a
                          intro a hS
                          obtain ⟨v200, H, Hl202⟩ := bind_el H
                          refine c_cut (fun a w199 => ∃ (g199 : Nat → Nat), Sl 130 a [(1, .slice A1 p1.length cap1), (5, .slice A14 r12.length cap15), (6, .pointer (some ⟨b68, 0, none⟩)), (8, .slice A53 v149.1.length cap54), (9, .int .u64 v149.2), (10, .int .i64 m0_3), (16, .int .i64 m1_0), (17, .int .i64 v200)] ∧ OwS kd_api_Rail 35 w199 g199 (N + 0) A14 cap15 r12 ∧ OwS (kint .i64) 3 w199 g199 (N + 5) A53 cap54 v149.1 ∧ Bx w199 g199 (N + 2) b68 70 [.slice A71 r135.1.list.length cap72, .int .u64 r135.1.now] ∧ OwS kd_rails_rail 75 w199 g199 (N + 2 + 1) A71 cap72 r135.1.list ∧ RdS kd_law25_Call w199 g199 C1 A1 cap1 p1 ∧ Fr (fun q => N ≤ q) w g w199 g199) ?_ ?_
                          · refine c_pure [(1, .slice A1 p1.length cap1), (5, .slice A14 r12.length cap15), (6, .pointer (some ⟨b68, 0, none⟩)), (8, .slice A53 v149.1.length cap54), (9, .int .u64 v149.2), (10, .int .i64 m0_3), (16, .int .i64 m1_0), (17, .int .i64 x194), (18, .int .i64 0)] (fun R hR => st_val hS rfl rfl rfl (r_assign hS rfl rfl) fun a203 hS203 => wpList_nil (hR _ (hS203.re ⟨rfl, rfl, rfl, rfl, rfl, rfl, rfl, rfl, rfl, trivial⟩))) ?_
                            clear hS
                            clear a
                            intro a hS
                            refine wp_block ?_
                            refine wp_loop_ghost (fun kq => fun a w204 => ∃ (m2_0 : Int), ∃ (m2_1 : Int), ∃ (g204 : Nat → Nat), law25_RailsCountUses.l2 r12 r135 m1_0 kq m2_0 m2_1 = some v200 ∧ Sl 130 a [(1, .slice A1 p1.length cap1), (5, .slice A14 r12.length cap15), (6, .pointer (some ⟨b68, 0, none⟩)), (8, .slice A53 v149.1.length cap54), (9, .int .u64 v149.2), (10, .int .i64 m0_3), (16, .int .i64 m1_0), (17, .int .i64 m2_0), (18, .int .i64 m2_1)] ∧ OwS kd_api_Rail 35 w204 g204 (N + 0) A14 cap15 r12 ∧ OwS (kint .i64) 3 w204 g204 (N + 5) A53 cap54 v149.1 ∧ Bx w204 g204 (N + 2) b68 70 [.slice A71 r135.1.list.length cap72, .int .u64 r135.1.now] ∧ OwS kd_rails_rail 75 w204 g204 (N + 2 + 1) A71 cap72 r135.1.list ∧ RdS kd_law25_Call w204 g204 C1 A1 cap1 p1 ∧ Fr (fun q => N ≤ q) w g w204 g204) FUEL ?_ ?_
                            · exact ⟨x194, 0, g181, H, hS.re ⟨rfl, rfl, rfl, rfl, rfl, rfl, rfl, rfl, rfl, trivial⟩, h16, h55, h69, h73, hp1, hF⟩
                            · clear H
                              clear hp1 h16 h55 h73 h69 hF
                              clear hS
                              rintro k205 a w204 ⟨m2_0, m2_1, g204, hpre0, hS, h16, h55, h69, h73, hp1, hF⟩
                              have H := hpre0
                              clear hpre0
                              cases k205 with
                              | zero => exact absurd H (by simp [law25_RailsCountUses.l2])
                              | succ k205 =>
                                rw [law25_RailsCountUses.l2] at H
                                refine wp_seq ?_
                                refine c_pure [(1, .slice A1 p1.length cap1), (5, .slice A14 r12.length cap15), (6, .pointer (some ⟨b68, 0, none⟩)), (8, .slice A53 v149.1.length cap54), (9, .int .u64 v149.2), (10, .int .i64 m0_3), (16, .int .i64 m1_0), (17, .int .i64 m2_0), (18, .int .i64 m2_1), (102, .bool (decide (m2_1 < (r12.length : Int))))] (fun R hR => st_val hS rfl rfl rfl (r_move hS rfl rfl) fun a206 hS206 => st_val hS206 rfl rfl rfl (r_move hS206 rfl rfl) fun a207 hS207 => st_val hS207 rfl rfl rfl (r_len (e := 35) (sz := 3) (by_ := 24) hS207 rfl rfl (by kernel_rfl)) fun a208 hS208 => st_val hS208 rfl rfl rfl (r_bin hS208 rfl rfl rfl b_lss) fun a209 hS209 => wpList_nil (hR _ (hS209.re ⟨rfl, rfl, rfl, rfl, rfl, rfl, rfl, rfl, rfl, rfl, trivial⟩))) ?_
                                clear hS
                                clear a
                                intro a hS
                                refine c_cond hS rfl (fun hb210 => ?_) (fun hb210 => ?_)
                                · replace H := ite_t hb210 H
                                  refine wp_skip ?_
                                  change Code.wp _ _ _ _ _
                                  obtain ⟨v212, H, Hl214⟩ := bind_el H
                                  refine c_cut (fun a w211 => ∃ (g211 : Nat → Nat), Sl 130 a [(1, .slice A1 p1.length cap1), (5, .slice A14 r12.length cap15), (6, .pointer (some ⟨b68, 0, none⟩)), (8, .slice A53 v149.1.length cap54), (9, .int .u64 v149.2), (10, .int .i64 m0_3), (16, .int .i64 m1_0), (17, .int .i64 v212), (18, .int .i64 m2_1)] ∧ OwS kd_api_Rail 35 w211 g211 (N + 0) A14 cap15 r12 ∧ OwS (kint .i64) 3 w211 g211 (N + 5) A53 cap54 v149.1 ∧ Bx w211 g211 (N + 2) b68 70 [.slice A71 r135.1.list.length cap72, .int .u64 r135.1.now] ∧ OwS kd_rails_rail 75 w211 g211 (N + 2 + 1) A71 cap72 r135.1.list ∧ RdS kd_law25_Call w211 g211 C1 A1 cap1 p1 ∧ Fr (fun q => N ≤ q) w g w211 g211) ?_ ?_
                                  · refine wp_block ?_
                                    obtain ⟨x217, hx218, H⟩ := bind_el H
                                    obtain ⟨t233, ht234, H⟩ := bind_el H
                                    refine c_region (fun K hK => ?_)
                                    refine st_val hS rfl rfl rfl (r_move hS rfl rfl) fun a215 hS215 => st_val hS215 rfl rfl rfl (r_move hS215 rfl rfl) fun a216 hS216 => st_val hS216 rfl rfl rfl (r_index (e := 35) (sz := 3) (by_ := 24) hS216 rfl rfl rfl (by kernel_rfl) (RdS.some_ (OwS.rd h16) hx218) (idx_lo hx218) (idx_hi hx218)) fun a219 hS219 => st_val hS219 rfl rfl rfl (r_fieldE (off := 0) hS219 rfl rfl (by kernel_rfl)) fun a220 hS220 => st_val hS220 rfl rfl rfl (r_load1 (n := 1) hS220 rfl rfl (by kernel_rfl) (RdS.cell (i := m2_1) (sz := 3) (j := 0) (OwS.rd h16) hx218 rfl)) fun a221 hS221 => st_val hS221 rfl rfl rfl (r_move hS221 rfl rfl) fun a222 hS222 => st_val hS222 rfl rfl rfl (r_bin hS222 rfl rfl rfl b_eql) fun a223 hS223 => st_val hS223 rfl rfl rfl (r_move hS223 rfl rfl) fun a224 hS224 => ?_
                                    refine g_joinR 5 (fun a w235 => ∃ (g235 : Nat → Nat), Sl 130 a [(1, .slice A1 p1.length cap1), (5, .slice A14 r12.length cap15), (6, .pointer (some ⟨b68, 0, none⟩)), (8, .slice A53 v149.1.length cap54), (9, .int .u64 v149.2), (10, .int .i64 m0_3), (16, .int .i64 m1_0), (17, .int .i64 m2_0), (18, .int .i64 m2_1), (117, .bool t233)] ∧ OwS kd_api_Rail 35 w235 g235 (N + 0) A14 cap15 r12 ∧ OwS (kint .i64) 3 w235 g235 (N + 5) A53 cap54 v149.1 ∧ Bx w235 g235 (N + 2) b68 70 [.slice A71 r135.1.list.length cap72, .int .u64 r135.1.now] ∧ OwS kd_rails_rail 75 w235 g235 (N + 2 + 1) A71 cap72 r135.1.list ∧ RdS kd_law25_Call w235 g235 C1 A1 cap1 p1 ∧ Fr (fun q => N ≤ q) w g w235 g235) ?_ (fun hk => ?_)
                                    rotate_left
                                    · rcases Bool.eq_false_or_eq_true ((x217.Supply == m1_0)) with hb225 | hb225
                                      · have H := ite_t hb225 ht234
                                        obtain ⟨r238, hr239, H⟩ := bind_el H
                                        have e243 := Option.some.inj H
                                        refine st_valW hS224 (want_on hS224 rfl rfl rfl hb225) rfl rfl (r_move hS224 rfl rfl) fun a236 hS236 => st_valW hS236 (want_on hS236 rfl rfl rfl hb225) rfl rfl (r_move hS236 rfl rfl) fun a237 hS237 => ?_
                                        refine st_enterW hS237 (want_on hS237 rfl rfl rfl hb225) rfl rfl (r_call hS237 rfl rfl (by kernel_rfl)) (rails_Rails_Count.calls (c0 := N + 2) (b_p0 := b68) (A_list_p0 := A71) (cap_list_p0 := cap72) (p0 := r135.1) (p1 := m2_1) (g := g204) (N + 11)  ⟨h69, h73⟩ (by omega) hr239) ?_
                                        rintro _ a240 w241 ⟨g241, rfl, F241⟩ hS240
                                        replace h16 := OwS.fr h16 F241 (fun c' hc (hm : N + 11 ≤ c') => by omega)
                                        replace h55 := OwS.fr h55 F241 (fun c' hc (hm : N + 11 ≤ c') => by omega)
                                        replace h69 := h69.fr F241 (fun (hm : N + 11 ≤ N + 2) => by omega)
                                        replace h73 := OwS.fr h73 F241 (fun c' hc (hm : N + 11 ≤ c') => by omega)
                                        replace hp1 := RdS.fr hp1 F241 (by decide) (fun q (hq : C1 q) (hm : N + 11 ≤ q) => by have := hC1 q hq; omega)
                                        replace hF := hF.trans F241 (fun c' (hm : N + 11 ≤ c') => by show N ≤ c'; omega)
                                        refine st_valW hS240 (want_on hS240 rfl rfl rfl hb225) rfl rfl (r_bin hS240 rfl rfl rfl b_gtr) fun a242 hS242 => ?_
                                        refine st_val hS242 rfl rfl rfl (r_pickT hS242 rfl rfl rfl hb225) fun a244 hS244 => hk _ _ ?_
                                        exact ⟨g241, hS244.re ⟨rfl, rfl, rfl, rfl, rfl, rfl, rfl, rfl, rfl, (by rw [← e243]; rfl), trivial⟩, h16, h55, h69, h73, hp1, hF⟩
                                      · have H := ite_f hb225 ht234
                                        have e245 := Option.some.inj H
                                        refine st_off hS224 (want_off hS224 rfl rfl rfl hb225) rfl rfl fun a246 hS246 => st_off hS246 (want_off hS246 rfl rfl rfl hb225) rfl rfl fun a247 hS247 => st_off hS247 (want_off hS247 rfl rfl rfl hb225) rfl rfl fun a248 hS248 => st_off hS248 (want_off hS248 rfl rfl rfl hb225) rfl rfl fun a249 hS249 => st_val hS249 rfl rfl rfl (r_pickF hS249 rfl rfl rfl hb225) fun a250 hS250 => hk _ _ ?_
                                        exact ⟨g204, hS250.re ⟨rfl, rfl, rfl, rfl, rfl, rfl, rfl, rfl, rfl, (by rw [← e245]; rfl), trivial⟩, h16, h55, h69, h73, hp1, hF⟩
                                    rintro a251 w235 ⟨g235, hS251, h16, h55, h69, h73, hp1, hF⟩
                                    refine wpList_nil (hK _ _ ?_)
                                    replace hS : Sl 130 _ [(1, .slice A1 p1.length cap1), (5, .slice A14 r12.length cap15), (6, .pointer (some ⟨b68, 0, none⟩)), (8, .slice A53 v149.1.length cap54), (9, .int .u64 v149.2), (10, .int .i64 m0_3), (16, .int .i64 m1_0), (17, .int .i64 m2_0), (18, .int .i64 m2_1), (117, .bool t233)] := hS251.re ⟨rfl, rfl, rfl, rfl, rfl, rfl, rfl, rfl, rfl, rfl, trivial⟩
                                    clear hK K
                                    try clear hS215 hS216 hS219 hS220 hS221 hS222 hS223 hS224 hS251
                                    obtain ⟨a, ha⟩ : ∃ a', a' = a251 := ⟨_, rfl⟩
                                    rw [← ha] at hS ⊢; clear ha
                                    refine c_cond hS rfl (fun hb252 => ?_) (fun hb252 => ?_)
                                    · replace H := ite_t hb252 H
                                      refine c_pure1 [(1, .slice A1 p1.length cap1), (5, .slice A14 r12.length cap15), (6, .pointer (some ⟨b68, 0, none⟩)), (8, .slice A53 v149.1.length cap54), (9, .int .u64 v149.2), (10, .int .i64 m0_3), (16, .int .i64 m1_0), (17, .int .i64 (wi (m2_0 + 1))), (18, .int .i64 m2_1)] (fun R hR => st_val hS rfl rfl rfl (r_move hS rfl rfl) fun a253 hS253 => st_val hS253 rfl rfl rfl (r_bin hS253 rfl rfl rfl b_add) fun a254 hS254 => st_val hS254 rfl rfl rfl (r_assign hS254 rfl rfl) fun a255 hS255 => wpList_nil (hR _ (hS255.re ⟨rfl, rfl, rfl, rfl, rfl, rfl, rfl, rfl, rfl, trivial⟩))) ?_
                                      clear hS
                                      clear a
                                      intro a hS
                                      have e := Option.some.inj H
                                      subst e
                                      exact ⟨g235, hS.re ⟨rfl, rfl, rfl, rfl, rfl, rfl, rfl, rfl, rfl, trivial⟩, h16, h55, h69, h73, hp1, hF⟩
                                    · replace H := ite_f hb252 H
                                      refine wp_skip ?_
                                      have e := Option.some.inj H
                                      subst e
                                      exact ⟨g235, hS.re ⟨rfl, rfl, rfl, rfl, rfl, rfl, rfl, rfl, rfl, trivial⟩, h16, h55, h69, h73, hp1, hF⟩
                                  · clear H
                                    clear hp1 h16 h55 h73 h69 hF
                                    clear hS
                                    rintro a w211 ⟨g211, hS, h16, h55, h69, h73, hp1, hF⟩
                                    have H := Hl214
                                    clear Hl214
                                    refine c_pure1 [(1, .slice A1 p1.length cap1), (5, .slice A14 r12.length cap15), (6, .pointer (some ⟨b68, 0, none⟩)), (8, .slice A53 v149.1.length cap54), (9, .int .u64 v149.2), (10, .int .i64 m0_3), (16, .int .i64 m1_0), (17, .int .i64 v212), (18, .int .i64 (wi (m2_1 + 1)))] (fun R hR => st_val hS rfl rfl rfl (r_move hS rfl rfl) fun a256 hS256 => st_val hS256 rfl rfl rfl (r_bin hS256 rfl rfl rfl b_add) fun a257 hS257 => st_val hS257 rfl rfl rfl (r_assign hS257 rfl rfl) fun a258 hS258 => wpList_nil (hR _ (hS258.re ⟨rfl, rfl, rfl, rfl, rfl, rfl, rfl, rfl, rfl, trivial⟩))) ?_
                                    clear hS
                                    clear a
                                    intro a hS
                                    refine ⟨k205, Nat.lt_succ_self _, ?_⟩
                                    exact ⟨v212, wi (m2_1 + 1), g211, H, hS.re ⟨rfl, rfl, rfl, rfl, rfl, rfl, rfl, rfl, rfl, trivial⟩, h16, h55, h69, h73, hp1, hF⟩
                                · replace H := ite_f hb210 H
                                  refine wp_exit ?_
                                  have e := Option.some.inj H
                                  subst e
                                  exact ⟨g204, hS.re ⟨rfl, rfl, rfl, rfl, rfl, rfl, rfl, rfl, trivial⟩, h16, h55, h69, h73, hp1, hF⟩
                          · clear H
                            clear hp1 h16 h55 h73 h69 hF
                            clear hS
                            rintro a w199 ⟨g199, hS, h16, h55, h69, h73, hp1, hF⟩
                            have H := Hl202
                            clear Hl202
                            obtain ⟨r261, hr262, H⟩ := bind_el H
                            refine c_region (fun K hK => ?_)
                            refine st_val hS rfl rfl rfl (r_move hS rfl rfl) fun a259 hS259 => st_val hS259 rfl rfl rfl (r_move hS259 rfl rfl) fun a260 hS260 => ?_
                            refine st_enter hS260 rfl rfl rfl (r_call hS260 rfl rfl (by kernel_rfl)) (rails_Rails_Count.calls (c0 := N + 2) (b_p0 := b68) (A_list_p0 := A71) (cap_list_p0 := cap72) (p0 := r135.1) (p1 := m1_0) (g := g199) (N + 11)  ⟨h69, h73⟩ (by omega) hr262) ?_
                            rintro _ a263 w264 ⟨g264, rfl, F264⟩ hS263
                            replace h16 := OwS.fr h16 F264 (fun c' hc (hm : N + 11 ≤ c') => by omega)
                            replace h55 := OwS.fr h55 F264 (fun c' hc (hm : N + 11 ≤ c') => by omega)
                            replace h69 := h69.fr F264 (fun (hm : N + 11 ≤ N + 2) => by omega)
                            replace h73 := OwS.fr h73 F264 (fun c' hc (hm : N + 11 ≤ c') => by omega)
                            replace hp1 := RdS.fr hp1 F264 (by decide) (fun q (hq : C1 q) (hm : N + 11 ≤ q) => by have := hC1 q hq; omega)
                            replace hF := hF.trans F264 (fun c' (hm : N + 11 ≤ c') => by show N ≤ c'; omega)
                            refine st_val hS263 rfl rfl rfl (r_move hS263 rfl rfl) fun a265 hS265 => st_val hS265 rfl rfl rfl (r_bin hS265 rfl rfl rfl b_neq) fun a266 hS266 => st_val hS266 rfl rfl rfl (r_move hS266 rfl rfl) fun a267 hS267 => ?_
                            refine g_join (N := 130) 3 [(1, .slice A1 p1.length cap1), (5, .slice A14 r12.length cap15), (6, .pointer (some ⟨b68, 0, none⟩)), (8, .slice A53 v149.1.length cap54), (9, .int .u64 v149.2), (10, .int .i64 m0_3), (16, .int .i64 m1_0), (128, .bool ((r261 != v200) || (decide (v200 < 0))))] ?_ (fun hk => ?_)
                            rotate_left
                            · rcases Bool.eq_false_or_eq_true ((r261 != v200)) with hb268 | hb268
                              · refine st_off hS267 (want_off hS267 rfl rfl rfl hb268) rfl rfl fun a271 hS271 => st_off hS271 (want_off hS271 rfl rfl rfl hb268) rfl rfl fun a272 hS272 => st_val hS272 rfl rfl rfl (r_pickT hS272 rfl rfl rfl hb268) fun a273 hS273 => hk _ (hS273.re ⟨rfl, rfl, rfl, rfl, rfl, rfl, rfl, (by rw [hb268]; rfl), trivial⟩)
                              · refine st_valW hS267 (want_on hS267 rfl rfl rfl hb268) rfl rfl (r_move hS267 rfl rfl) fun a274 hS274 => st_valW hS274 (want_on hS274 rfl rfl rfl hb268) rfl rfl (r_bin hS274 rfl rfl rfl b_lss) fun a275 hS275 => st_val hS275 rfl rfl rfl (r_pickF hS275 rfl rfl rfl hb268) fun a276 hS276 => hk _ (hS276.re ⟨rfl, rfl, rfl, rfl, rfl, rfl, rfl, (by rw [hb268]; rfl), trivial⟩)
                            intro a277 hS277
                            refine wpList_nil (hK _ _ ?_)
                            replace hS : Sl 130 _ [(1, .slice A1 p1.length cap1), (5, .slice A14 r12.length cap15), (6, .pointer (some ⟨b68, 0, none⟩)), (8, .slice A53 v149.1.length cap54), (9, .int .u64 v149.2), (10, .int .i64 m0_3), (16, .int .i64 m1_0), (128, .bool ((r261 != v200) || (decide (v200 < 0))))] := hS277.re ⟨rfl, rfl, rfl, rfl, rfl, rfl, rfl, rfl, trivial⟩
                            clear hK K
                            try clear hS259 hS260 hS263 hS265 hS266 hS267 hS277
                            obtain ⟨a, ha⟩ : ∃ a', a' = a277 := ⟨_, rfl⟩
                            rw [← ha] at hS ⊢; clear ha
                            refine c_cond hS rfl (fun hb278 => ?_) (fun hb278 => ?_)
                            · replace H := ite_t hb278 H
                              refine c_pure [(4, .bool false)] (fun R hR => st_val hS rfl rfl rfl (r_assign hS rfl rfl) fun a279 hS279 => wpList_nil (hR _ (hS279.re ⟨rfl, trivial⟩))) ?_
                              clear hS
                              clear a
                              intro a hS
                              refine wp_ret ?_
                              have e := Option.some.inj H
                              subst e
                              replace H := Fl.go_out Hl191
                              have e := Option.some.inj H
                              subst e
                              replace H := Fl.go_out Hl100
                              have e := Option.some.inj H
                              subst e
                              replace H := Fl.go_out Hl64
                              have e := Option.some.inj H
                              subst e
                              repeat (with_reducible first | refine then_ret ?_ | refine inBlock_ret ?_)
                              exact c_ret1 hS Try.results7 rfl ⟨_, rfl, g264, rfl, hF⟩
                            · replace H := ite_f hb278 H
                              refine wp_skip ?_
                              have e := Option.some.inj H
                              exact ⟨g264, e.symm, hS.re ⟨rfl, rfl, rfl, rfl, rfl, rfl, rfl, trivial⟩, h16, h55, h69, h73, hp1, hF⟩
                        · clear H
                          clear hp1 h16 h55 h73 h69 hF
                          clear hS
                          rintro a w188 ⟨g188, hpre0, hS, h16, h55, h69, h73, hp1, hF⟩
                          subst hpre0
                          have H := Fl.go_nxt Hl191
                          clear Hl191
                          refine c_pure1 [(1, .slice A1 p1.length cap1), (5, .slice A14 r12.length cap15), (6, .pointer (some ⟨b68, 0, none⟩)), (8, .slice A53 v149.1.length cap54), (9, .int .u64 v149.2), (10, .int .i64 m0_3), (16, .int .i64 (wi (m1_0 + 1)))] (fun R hR => st_val hS rfl rfl rfl (r_move hS rfl rfl) fun a280 hS280 => st_val hS280 rfl rfl rfl (r_bin hS280 rfl rfl rfl b_add) fun a281 hS281 => st_val hS281 rfl rfl rfl (r_assign hS281 rfl rfl) fun a282 hS282 => wpList_nil (hR _ (hS282.re ⟨rfl, rfl, rfl, rfl, rfl, rfl, rfl, trivial⟩))) ?_
                          clear hS
                          clear a
                          intro a hS
                          refine ⟨k182, Nat.lt_succ_self _, ?_⟩
                          exact ⟨wi (m1_0 + 1), g188, H, hS.re ⟨rfl, rfl, rfl, rfl, rfl, rfl, rfl, trivial⟩, h16, h55, h69, h73, hp1, hF⟩
                      · replace H := ite_f hb187 H
                        refine wp_exit ?_
                        have e := Option.some.inj H
                        exact ⟨(r135.1, v149.1, v149.2), g181, e.symm, hS.re ⟨rfl, rfl, rfl, rfl, rfl, rfl, trivial⟩, h16, h55, h69, h73, hp1, hF⟩
              · clear H
                clear hp1 h16 h55 h73 h69 hF
                clear hS
                rintro a w97 ⟨v98, g97, hpre0, hS, h16, h55, h69, h73, hp1, hF⟩
                subst hpre0
                have H := Fl.go_nxt Hl100
                clear Hl100
                refine c_pure1 [(1, .slice A1 p1.length cap1), (5, .slice A14 r12.length cap15), (6, .pointer (some ⟨b68, 0, none⟩)), (8, .slice A53 v98.2.1.length cap54), (9, .int .u64 v98.2.2), (10, .int .i64 (wi (m0_3 + 1)))] (fun R hR => st_val hS rfl rfl rfl (r_move hS rfl rfl) fun a283 hS283 => st_val hS283 rfl rfl rfl (r_bin hS283 rfl rfl rfl b_add) fun a284 hS284 => st_val hS284 rfl rfl rfl (r_assign hS284 rfl rfl) fun a285 hS285 => wpList_nil (hR _ (hS285.re ⟨rfl, rfl, rfl, rfl, rfl, rfl, trivial⟩))) ?_
                clear hS
                clear a
                intro a hS
                refine ⟨k77, Nat.lt_succ_self _, ?_⟩
                exact ⟨v98.1, v98.2.1, v98.2.2, wi (m0_3 + 1), g97, H, hS.re ⟨rfl, rfl, rfl, rfl, rfl, rfl, trivial⟩, h16, h55, h69, h73, hp1, hF⟩
            · replace H := ite_f hb96 H
              refine wp_exit ?_
              have e := Option.some.inj H
              exact ⟨g76, e.symm, hS.re trivial, hF⟩
      · clear H
        clear hp1 h16 h25 h55 hF
        clear hS
        rintro a w61 ⟨g61, hpre0, hS, hF⟩
        subst hpre0
        have H := Fl.go_nxt Hl64
        clear Hl64
        obtain ⟨r286, hr287, H⟩ := bind_el H
        refine c_region (fun K hK => ?_)
        refine st_enter hS rfl rfl rfl (r_call hS rfl rfl (by kernel_rfl)) (law25_awake.calls (g := g61) (N + 11)   hr287) ?_
        rintro _ a288 w289 ⟨g289, rfl, F289⟩ hS288
        replace hF := hF.trans F289 (fun c' (hm : N + 11 ≤ c') => by show N ≤ c'; omega)
        refine st_val hS288 rfl rfl rfl (r_assign hS288 rfl rfl) fun a290 hS290 => wpList_nil (hK _ _ ?_)
        replace hS : Sl 130 _ [(4, .bool r286)] := hS290.re ⟨rfl, trivial⟩
        clear hK K
        try clear hS288 hS290
        obtain ⟨a, ha⟩ : ∃ a', a' = a290 := ⟨_, rfl⟩
        rw [← ha] at hS ⊢; clear ha
        refine wp_ret ?_
        have e := Option.some.inj H
        subst e
        repeat (with_reducible first | refine then_ret ?_ | refine inBlock_ret ?_)
        exact c_ret1 hS Try.results7 rfl ⟨_, rfl, g289, rfl, hF⟩

/-- What is left of law25_RailsCountUses: about plain values alone. -/
def law25_RailsCountUses.Pure : Prop := ∀ (p0 : List api_Rail) (p1 : List law25_Call), (p0.length ≤ maxLen ∧ ∀ p0' ∈ p0, Wf_api_Rail p0') → (p1.length ≤ maxLen ∧ ∀ p1' ∈ p1, Wf_law25_Call p1') → law25_RailsCountUses.f p0 p1 = some true

end Go.Proofs.Ytfiodhdldleocaa.Sim
