/-
  Printed by a program of this session (wip/tools): plain functions with the same answers as the Go functions, and the proofs of it.
-/
import Derived.Test.YtfiodhdldleocaaFn
import Derived.Test.YtfiodhdldleocaaOp
namespace Go.Proofs.Ytfiodhdldleocaa.Sim
open Go
set_option linter.unusedVariables false
set_option linter.unusedSimpArgs false

/-! ### law25_RailsReleaseUndoesAcquire: function 11 -/
def law25_RailsReleaseUndoesAcquire.l0 (p1 : List law25_Call) (r12 : (List api_Rail)) : Nat → rails_Rails → Int → Int → Option ((List rails_rail) × Int × Int)
  | 0, _, _, _ => none
  | k71 + 1, m0_0, m0_1, m0_2 => if decide (m0_2 < (p1.length : Int)) = true then (((idx p1 m0_2).bind fun x83 => (law25_Call_at.f (law25_Call.mk x83.Release x83.Rail x83.Wait false) (r12.length : Int) m0_1).bind fun r101 => (law25_do.f m0_0 (law25_Call.mk x83.Release x83.Rail x83.Wait false) (r12.length : Int) m0_1).bind fun r115 => if (r115.2.2 == 0) = true then (some (r115.1, r101.2)) else (some (r115.1, m0_1)) : Option (rails_Rails × Int)).bind fun v78 => law25_RailsReleaseUndoesAcquire.l0 p1 r12 k71 v78.1 v78.2 (wi (m0_2 + 1))) else (some (m0_0.list, m0_0.now, m0_1))
def law25_RailsReleaseUndoesAcquire.l1 (r169 : rails_Rails × (List api_RailOp) × Int) (r185 : rails_Rails × (List api_RailOp) × Int) (st243 : rails_Rails) : Nat → Int → Option (Fl (Bool) ((List rails_rail) × Int))
  | 0, _ => none
  | k254 + 1, m1_0 => if decide (m1_0 < (r169.2.1.length : Int)) = true then ((idx r169.2.1 m1_0).bind fun x263 => (idx r185.2.1 (wi ((wi ((r185.2.1.length : Int) - 1)) - m1_0))).bind fun x274 => (if ((x263.Rail != x274.Rail) || (!x263.On)) = true then some true else (idx r185.2.1 m1_0).bind fun x307 => some x307.On).bind fun t312 => if t312 = true then (some (.out false)) else (law25_RailsReleaseUndoesAcquire.l1 r169 r185 st243 k254 (wi (m1_0 + 1)))) else (some (.nxt (st243.list, st243.now)))
def law25_RailsReleaseUndoesAcquire.l2 (r12 : (List api_Rail)) (r185 : rails_Rails × (List api_RailOp) × Int) (v239 : (List rails_rail) × Int) : Nat → Int → Option (Fl (Bool) (Unit))
  | 0, _ => none
  | k342 + 1, m2_0 => if decide (m2_0 < (r12.length : Int)) = true then ((rails_Rails_Count.f r185.1 m2_0).bind fun r350 => (rails_Rails_Count.f (rails_Rails.mk v239.1 v239.2) m2_0).bind fun r356 => if (r350 != r356) = true then (some (.out false)) else (law25_RailsReleaseUndoesAcquire.l2 r12 r185 v239 k342 (wi (m2_0 + 1)))) else (some (.nxt ()))
def law25_RailsReleaseUndoesAcquire.f (p0 : List api_Rail) (p1 : List law25_Call) (p2 : Int) : Option (Bool) := if decide (20 < (p1.length : Int)) = true then ((law25_awake.f ).bind fun r6 => some r6) else ((law25_Some.f p0).bind fun r12 => (rails_New.f r12).bind fun r22 => if ((r22.2 != 0) || r22.1.isNone) = true then (some false) else (((r22.1).bind fun st60 => law25_RailsReleaseUndoesAcquire.l0 p1 r12 FUEL st60 0 0 : Option ((List rails_rail) × Int × Int)).bind fun v56 => if ((r12.length : Int) == 0) = true then ((law25_awake.f ).bind fun r140 => some r140) else ((help_Mod.f p2 (r12.length : Int)).bind fun r148 => (rails_Rails_Copy.f (rails_Rails.mk v56.1 v56.2.1)).bind fun r154 => if r154.isNone = true then (some false) else ((rails_Rails_Acquire.f (rails_Rails.mk v56.1 v56.2.1) r148 v56.2.2).bind fun r169 => (rails_Rails_Release.f r169.1 r148 v56.2.2).bind fun r185 => if (((r169.2.2 != 0) || (r185.2.2 != 0)) || ((r169.2.1.length : Int) != (r185.2.1.length : Int))) = true then (some false) else (((r154).bind fun st243 => law25_RailsReleaseUndoesAcquire.l1 r169 r185 st243 FUEL 0 : Option (Fl (Bool) ((List rails_rail) × Int))).bind fun o240 => o240.go fun v239 => (law25_RailsReleaseUndoesAcquire.l2 r12 r185 v239 FUEL 0 : Option (Fl (Bool) (Unit))).bind fun o338 => o338.go fun _ => (law25_awake.f ).bind fun r366 => some r366)))))
set_option maxRecDepth 100000 in
set_option maxHeartbeats 4000000 in
theorem law25_RailsReleaseUndoesAcquire.calls {p0 : List api_Rail} {A0 : Option Addr} {cap0 : Nat} {C0 : Nat → Prop} {p1 : List law25_Call} {A1 : Option Addr} {cap1 : Nat} {C1 : Nat → Prop} {p2 : Int} {w : World} {g : Nat → Nat} {out : Bool} (N : Nat) (hp0 : RdS kd_api_Rail w g C0 A0 cap0 p0) (hC0 : ∀ c, C0 c → c < N) (hp1 : RdS kd_law25_Call w g C1 A1 cap1 p1) (hC1 : ∀ c, C1 c → c < N) (H : law25_RailsReleaseUndoesAcquire.f p0 p1 p2 = some out) :
    Calls Try.prog 11 #[.slice A0 p0.length cap0, .slice A1 p1.length cap1, .int .i64 p2] w (fun e w' => ∃ v, e = .returned v ∧ ∃ (g' : Nat → Nat), v = .bool out ∧ Fr (fun q => N ≤ q) w g w' g') := by
  unfold law25_RailsReleaseUndoesAcquire.f at H
  refine calls_enter Try.func11 rfl Try.ntmps11 rfl (fun a hS => ?_)
  replace hS : Sl 162 a [(0, .slice A0 p0.length cap0), (1, .slice A1 p1.length cap1), (2, .int .i64 p2)] := hS
  have hF : Fr (fun q => N ≤ q) w g w g := Fr.refl _ _ _
  refine c_pure [(0, .slice A0 p0.length cap0), (1, .slice A1 p1.length cap1), (2, .int .i64 p2)] (fun R hR => st_val hS rfl rfl rfl (r_assign hS rfl rfl) fun a1 hS1 => wpList_nil (hR _ (hS1.re ⟨rfl, rfl, rfl, trivial⟩))) ?_
  clear hS
  clear a
  intro a hS
  refine wp_seq ?_
  refine c_pure [(0, .slice A0 p0.length cap0), (1, .slice A1 p1.length cap1), (2, .int .i64 p2), (27, .bool (decide (20 < (p1.length : Int))))] (fun R hR => st_val hS rfl rfl rfl (r_move hS rfl rfl) fun a2 hS2 => st_val hS2 rfl rfl rfl (r_len (e := 46) (sz := 4) (by_ := 32) hS2 rfl rfl (by kernel_rfl)) fun a3 hS3 => st_val hS3 rfl rfl rfl (r_bin hS3 rfl rfl rfl b_gtr) fun a4 hS4 => wpList_nil (hR _ (hS4.re ⟨rfl, rfl, rfl, rfl, trivial⟩))) ?_
  clear hS
  clear a
  intro a hS
  refine c_cond hS rfl (fun hb5 => ?_) (fun hb5 => ?_)
  · replace H := ite_t hb5 H
    obtain ⟨r6, hr7, H⟩ := bind_el H
    refine c_region (fun K hK => ?_)
    refine st_enter hS rfl rfl rfl (r_call hS rfl rfl (by kernel_rfl)) (law25_awake.calls (g := g) (N + 16)   hr7) ?_
    rintro _ a8 w9 ⟨g9, rfl, F9⟩ hS8
    replace hp0 := RdS.fr hp0 F9 (by decide) (fun q (hq : C0 q) (hm : N + 16 ≤ q) => by have := hC0 q hq; omega)
    replace hp1 := RdS.fr hp1 F9 (by decide) (fun q (hq : C1 q) (hm : N + 16 ≤ q) => by have := hC1 q hq; omega)
    replace hF := hF.trans F9 (fun c' (hm : N + 16 ≤ c') => by show N ≤ c'; omega)
    refine st_val hS8 rfl rfl rfl (r_assign hS8 rfl rfl) fun a10 hS10 => wpList_nil (hK _ _ ?_)
    replace hS : Sl 162 _ [(6, .bool r6)] := hS10.re ⟨rfl, trivial⟩
    clear hK K
    try clear hS8 hS10
    obtain ⟨a, ha⟩ : ∃ a', a' = a10 := ⟨_, rfl⟩
    rw [← ha] at hS ⊢; clear ha
    refine wp_ret ?_
    have e := Option.some.inj H
    subst e
    repeat (with_reducible first | refine then_ret ?_ | refine inBlock_ret ?_)
    exact c_ret1 hS Try.results11 rfl ⟨_, rfl, g9, rfl, hF⟩
  · replace H := ite_f hb5 H
    refine wp_skip ?_
    change Code.wp _ _ _ _ _
    obtain ⟨r12, hr13, H⟩ := bind_el H
    refine c_region (fun K hK => ?_)
    refine st_val hS rfl rfl rfl (r_move hS rfl rfl) fun a11 hS11 => ?_
    refine st_enter hS11 rfl rfl rfl (r_call hS11 rfl rfl (by kernel_rfl)) (law25_Some.calls (C0 := C0) (p0 := p0) (g := g) (N + 16) (N + 0) hp0 (fun q (hq : C0 q) => by have := hC0 q hq; omega) (by omega) hr13) ?_
    rintro _ a18 w19 ⟨g19, A14, cap15, rfl, h16, F19⟩ hS18
    replace hp0 := RdS.fr hp0 F19 (by decide) (fun q (hq : C0 q) (hm : (N + 0 ≤ q ∧ q < N + 0 + 2) ∨ N + 16 ≤ q) => by have := hC0 q hq; omega)
    replace hp1 := RdS.fr hp1 F19 (by decide) (fun q (hq : C1 q) (hm : (N + 0 ≤ q ∧ q < N + 0 + 2) ∨ N + 16 ≤ q) => by have := hC1 q hq; omega)
    replace hF := hF.trans F19 (fun c' (hm : (N + 0 ≤ c' ∧ c' < N + 0 + 2) ∨ N + 16 ≤ c') => by show N ≤ c'; omega)
    refine st_val hS18 rfl rfl rfl (r_assign hS18 rfl rfl) fun a20 hS20 => wpList_nil (hK _ _ ?_)
    replace hS : Sl 162 _ [(1, .slice A1 p1.length cap1), (2, .int .i64 p2), (7, .slice A14 r12.length cap15)] := hS20.re ⟨rfl, rfl, rfl, trivial⟩
    clear hK K
    try clear hS11 hS18 hS20
    obtain ⟨a, ha⟩ : ∃ a', a' = a20 := ⟨_, rfl⟩
    rw [← ha] at hS ⊢; clear ha
    obtain ⟨r22, hr23, H⟩ := bind_el H
    refine c_region (fun K hK => ?_)
    refine st_val hS rfl rfl rfl (r_move hS rfl rfl) fun a21 hS21 => ?_
    refine st_enter hS21 rfl rfl rfl (r_call hS21 rfl rfl (by kernel_rfl)) (rails_New.calls (C0 := (fun q => q = N + 0)) (p0 := r12) (g := g19) (N + 16) (N + 2) (OwD.rdf (fun _ _ _ _ _ _ h => h) h16) (fun q (hq : q = N + 0) => by omega) (by omega) hr23) ?_
    rintro _ a27 w28 ⟨g28, p24, rfl, h25, F28⟩ hS27
    replace h16 := OwS.fr h16 F28 (fun c' hc (hm : (N + 2 ≤ c' ∧ c' < N + 2 + 3) ∨ N + 16 ≤ c') => by omega)
    replace hp1 := RdS.fr hp1 F28 (by decide) (fun q (hq : C1 q) (hm : (N + 2 ≤ q ∧ q < N + 2 + 3) ∨ N + 16 ≤ q) => by have := hC1 q hq; omega)
    replace hF := hF.trans F28 (fun c' (hm : (N + 2 ≤ c' ∧ c' < N + 2 + 3) ∨ N + 16 ≤ c') => by show N ≤ c'; omega)
    refine st_val hS27 rfl rfl rfl (r_move hS27 rfl rfl) fun a29 hS29 => st_val hS29 rfl rfl rfl (r_extract hS29 rfl rfl rfl) fun a30 hS30 => st_val hS30 rfl rfl rfl (r_extract hS30 rfl rfl rfl) fun a31 hS31 => st_val hS31 rfl rfl rfl (r_assign hS31 rfl rfl) fun a32 hS32 => st_val hS32 rfl rfl rfl (r_assign hS32 rfl rfl) fun a33 hS33 => wpList_nil (hK _ _ ?_)
    replace hS : Sl 162 _ [(1, .slice A1 p1.length cap1), (2, .int .i64 p2), (7, .slice A14 r12.length cap15), (8, .pointer p24), (9, .int .i64 r22.2)] := hS33.re ⟨rfl, rfl, rfl, rfl, rfl, trivial⟩
    clear hK K
    try clear hS21 hS27 hS29 hS30 hS31 hS32 hS33
    obtain ⟨a, ha⟩ : ∃ a', a' = a33 := ⟨_, rfl⟩
    rw [← ha] at hS ⊢; clear ha
    refine wp_seq ?_
    refine c_region (fun K hK => ?_)
    refine st_val hS rfl rfl rfl (r_move hS rfl rfl) fun a34 hS34 => st_val hS34 rfl rfl rfl (r_bin hS34 rfl rfl rfl b_neq) fun a35 hS35 => st_val hS35 rfl rfl rfl (r_move hS35 rfl rfl) fun a36 hS36 => ?_
    refine g_join (N := 162) 3 [(1, .slice A1 p1.length cap1), (2, .int .i64 p2), (7, .slice A14 r12.length cap15), (8, .pointer p24), (41, .bool ((r22.2 != 0) || r22.1.isNone))] ?_ (fun hk => ?_)
    rotate_left
    · rcases Bool.eq_false_or_eq_true ((r22.2 != 0)) with hb37 | hb37
      · refine st_off hS36 (want_off hS36 rfl rfl rfl hb37) rfl rfl fun a40 hS40 => st_off hS40 (want_off hS40 rfl rfl rfl hb37) rfl rfl fun a41 hS41 => st_val hS41 rfl rfl rfl (r_pickT hS41 rfl rfl rfl hb37) fun a42 hS42 => hk _ (hS42.re ⟨rfl, rfl, rfl, rfl, (by rw [hb37]; rfl), trivial⟩)
      · refine st_valW hS36 (want_on hS36 rfl rfl rfl hb37) rfl rfl (r_move hS36 rfl rfl) fun a43 hS43 => st_valW hS43 (want_on hS43 rfl rfl rfl hb37) rfl rfl (r_optEq hS43 rfl rfl (by kernel_rfl) (rails_Rails_Opt.isNone h25)) fun a44 hS44 => st_val hS44 rfl rfl rfl (r_pickF hS44 rfl rfl rfl hb37) fun a45 hS45 => hk _ (hS45.re ⟨rfl, rfl, rfl, rfl, (by rw [hb37]; rfl), trivial⟩)
    intro a46 hS46
    refine wpList_nil (hK _ _ ?_)
    replace hS : Sl 162 _ [(1, .slice A1 p1.length cap1), (2, .int .i64 p2), (7, .slice A14 r12.length cap15), (8, .pointer p24), (41, .bool ((r22.2 != 0) || r22.1.isNone))] := hS46.re ⟨rfl, rfl, rfl, rfl, rfl, trivial⟩
    clear hK K
    try clear hS34 hS35 hS36 hS46
    obtain ⟨a, ha⟩ : ∃ a', a' = a46 := ⟨_, rfl⟩
    rw [← ha] at hS ⊢; clear ha
    refine c_cond hS rfl (fun hb47 => ?_) (fun hb47 => ?_)
    · replace H := ite_t hb47 H
      refine c_pure [(6, .bool false)] (fun R hR => st_val hS rfl rfl rfl (r_assign hS rfl rfl) fun a48 hS48 => wpList_nil (hR _ (hS48.re ⟨rfl, trivial⟩))) ?_
      clear hS
      clear a
      intro a hS
      refine wp_ret ?_
      have e := Option.some.inj H
      subst e
      repeat (with_reducible first | refine then_ret ?_ | refine inBlock_ret ?_)
      exact c_ret1 hS Try.results11 rfl ⟨_, rfl, g28, rfl, hF⟩
    · replace H := ite_f hb47 H
      refine wp_skip ?_
      change Code.wp _ _ _ _ _
      refine c_pure [(1, .slice A1 p1.length cap1), (2, .int .i64 p2), (7, .slice A14 r12.length cap15), (8, .pointer p24), (10, .int .u64 0)] (fun R hR => st_val hS rfl rfl rfl (r_assign hS rfl rfl) fun a49 hS49 => wpList_nil (hR _ (hS49.re ⟨rfl, rfl, rfl, rfl, rfl, trivial⟩))) ?_
      clear hS
      clear a
      intro a hS
      obtain ⟨v56, H, Hl58⟩ := bind_el H
      refine c_cut (fun a w50 => ∃ (g50 : Nat → Nat), ∃ (b51 : Nat), ∃ (A53 : Option Addr), ∃ (cap54 : Nat), Sl 162 a [(2, .int .i64 p2), (7, .slice A14 r12.length cap15), (8, .pointer (some ⟨b51, 0, none⟩)), (10, .int .u64 v56.2.2)] ∧ OwS kd_api_Rail 35 w50 g50 (N + 0) A14 cap15 r12 ∧ OwS kd_rails_rail 75 w50 g50 (N + 2 + 1) A53 cap54 v56.1 ∧ Bx w50 g50 (N + 2) b51 70 [.slice A53 v56.1.length cap54, .int .u64 v56.2.1] ∧ Fr (fun q => N ≤ q) w g w50 g50) ?_ ?_
      · refine c_pure [(1, .slice A1 p1.length cap1), (2, .int .i64 p2), (7, .slice A14 r12.length cap15), (8, .pointer p24), (10, .int .u64 0), (11, .int .i64 0)] (fun R hR => st_val hS rfl rfl rfl (r_assign hS rfl rfl) fun a59 hS59 => wpList_nil (hR _ (hS59.re ⟨rfl, rfl, rfl, rfl, rfl, rfl, trivial⟩))) ?_
        clear hS
        clear a
        intro a hS
        refine wp_block ?_
        obtain ⟨st60, hst61, H⟩ := bind_el H
        rw [hst61] at h25
        obtain ⟨b62, A65, cap66, hp69, h63, h67⟩ := h25
        subst hp69
        refine wp_loop_ghost (fun kq => fun a w70 => ∃ (m0_0 : rails_Rails), ∃ (m0_1 : Int), ∃ (m0_2 : Int), ∃ (g70 : Nat → Nat), law25_RailsReleaseUndoesAcquire.l0 p1 r12 kq m0_0 m0_1 m0_2 = some v56 ∧ Sl 162 a [(1, .slice A1 p1.length cap1), (2, .int .i64 p2), (7, .slice A14 r12.length cap15), (8, .pointer (some ⟨b62, 0, none⟩)), (10, .int .u64 m0_1), (11, .int .i64 m0_2)] ∧ OwS kd_api_Rail 35 w70 g70 (N + 0) A14 cap15 r12 ∧ Bx w70 g70 (N + 2) b62 70 [.slice A65 m0_0.list.length cap66, .int .u64 m0_0.now] ∧ OwS kd_rails_rail 75 w70 g70 (N + 2 + 1) A65 cap66 m0_0.list ∧ RdS kd_law25_Call w70 g70 C1 A1 cap1 p1 ∧ Fr (fun q => N ≤ q) w g w70 g70) FUEL ?_ ?_
        · exact ⟨st60, 0, 0, g28, H, hS.re ⟨rfl, rfl, rfl, rfl, rfl, rfl, trivial⟩, h16, h63, h67, hp1, hF⟩
        · clear H
          clear hp1 h16 h67 h63 hF
          clear hS
          rintro k71 a w70 ⟨m0_0, m0_1, m0_2, g70, hpre0, hS, h16, h63, h67, hp1, hF⟩
          have H := hpre0
          clear hpre0
          cases k71 with
          | zero => exact absurd H (by simp [law25_RailsReleaseUndoesAcquire.l0])
          | succ k71 =>
            rw [law25_RailsReleaseUndoesAcquire.l0] at H
            refine wp_seq ?_
            refine c_pure [(1, .slice A1 p1.length cap1), (2, .int .i64 p2), (7, .slice A14 r12.length cap15), (8, .pointer (some ⟨b62, 0, none⟩)), (10, .int .u64 m0_1), (11, .int .i64 m0_2), (45, .bool (decide (m0_2 < (p1.length : Int))))] (fun R hR => st_val hS rfl rfl rfl (r_move hS rfl rfl) fun a72 hS72 => st_val hS72 rfl rfl rfl (r_move hS72 rfl rfl) fun a73 hS73 => st_val hS73 rfl rfl rfl (r_len (e := 46) (sz := 4) (by_ := 32) hS73 rfl rfl (by kernel_rfl)) fun a74 hS74 => st_val hS74 rfl rfl rfl (r_bin hS74 rfl rfl rfl b_lss) fun a75 hS75 => wpList_nil (hR _ (hS75.re ⟨rfl, rfl, rfl, rfl, rfl, rfl, rfl, trivial⟩))) ?_
            clear hS
            clear a
            intro a hS
            refine c_cond hS rfl (fun hb76 => ?_) (fun hb76 => ?_)
            · replace H := ite_t hb76 H
              refine wp_skip ?_
              change Code.wp _ _ _ _ _
              obtain ⟨v78, H, Hl80⟩ := bind_el H
              refine c_cut (fun a w77 => ∃ (g77 : Nat → Nat), Sl 162 a [(1, .slice A1 p1.length cap1), (2, .int .i64 p2), (7, .slice A14 r12.length cap15), (8, .pointer (some ⟨b62, 0, none⟩)), (10, .int .u64 v78.2), (11, .int .i64 m0_2)] ∧ OwS kd_api_Rail 35 w77 g77 (N + 0) A14 cap15 r12 ∧ Bx w77 g77 (N + 2) b62 70 [.slice A65 v78.1.list.length cap66, .int .u64 v78.1.now] ∧ OwS kd_rails_rail 75 w77 g77 (N + 2 + 1) A65 cap66 v78.1.list ∧ RdS kd_law25_Call w77 g77 C1 A1 cap1 p1 ∧ Fr (fun q => N ≤ q) w g w77 g77) ?_ ?_
              · refine wp_block ?_
                obtain ⟨x83, hx84, H⟩ := bind_el H
                refine c_region (fun K hK => ?_)
                refine st_val hS rfl rfl rfl (r_move hS rfl rfl) fun a81 hS81 => st_val hS81 rfl rfl rfl (r_move hS81 rfl rfl) fun a82 hS82 => st_val hS82 rfl rfl rfl (r_index (e := 46) (sz := 4) (by_ := 32) hS82 rfl rfl rfl (by kernel_rfl) (RdS.some_ hp1 hx84) (idx_lo hx84) (idx_hi hx84)) fun a85 hS85 => st_val hS85 rfl rfl rfl (r_loadN (n := 4) (cs := [.bool x83.Release, .int .i64 x83.Rail, .int .u64 x83.Wait, .bool x83.Raw]) hS85 rfl rfl (by kernel_rfl) rfl (RdS.cells_off hp1 hx84 0 4)) fun a86 hS86 => ?_
                refine st_eff hS86 rfl rfl rfl (e_alloc (cs := [.bool false, .int .i64 0, .int .u64 0, .bool false]) (N + 5) g70 hS86 rfl (by kernel_rfl)) ?_
                rintro _ a90 w91 g91 ⟨⟨b87, rfl, h88⟩, F91⟩ hS90
                replace h16 := OwS.fr h16 F91 (fun _ _ h => h)
                replace h63 := h63.fr F91 (fun h => h)
                replace h67 := OwS.fr h67 F91 (fun _ _ h => h)
                replace hp1 := RdS.fr hp1 F91 (by decide) (fun _ _ h => h)
                replace hF := hF.trans F91 (fun _ h => h.elim)
                refine st_effS hS90 rfl rfl (e_storeB (n := 4) (bb := true) (cs' := [.bool x83.Release, .int .i64 x83.Rail, .int .u64 x83.Wait, .bool x83.Raw]) g91 hS90 rfl rfl rfl (by kernel_rfl) rfl rfl rfl h88 rfl rfl) ?_
                rintro a92 w93 g93 ⟨h88, F93⟩ hS92
                replace h16 := OwS.fr h16 F93 (fun c' hc (hm : c' = N + 5) => by omega)
                replace h63 := h63.fr F93 (fun (hm : N + 2 = N + 5) => by omega)
                replace h67 := OwS.fr h67 F93 (fun c' hc (hm : c' = N + 5) => by omega)
                replace hp1 := RdS.fr hp1 F93 (by decide) (fun q (hq : C1 q) (hm : q = N + 5) => by have := hC1 q hq; omega)
                replace hF := hF.trans F93 (fun c' (hm : c' = N + 5) => by show N ≤ c'; omega)
                refine wpList_nil (hK _ _ ?_)
                replace hS : Sl 162 _ [(1, .slice A1 p1.length cap1), (2, .int .i64 p2), (7, .slice A14 r12.length cap15), (8, .pointer (some ⟨b62, 0, none⟩)), (10, .int .u64 m0_1), (11, .int .i64 m0_2), (12, .pointer (some ⟨b87, 0, none⟩))] := hS92.re ⟨rfl, rfl, rfl, rfl, rfl, rfl, rfl, trivial⟩
                clear hK K
                try clear hS81 hS82 hS85 hS86 hS90 hS92
                obtain ⟨a, ha⟩ : ∃ a', a' = a92 := ⟨_, rfl⟩
                rw [← ha] at hS ⊢; clear ha
                refine c_region (fun K hK => ?_)
                refine st_val hS rfl rfl rfl (r_fieldB (off := 3) hS rfl rfl (by kernel_rfl)) fun a94 hS94 => ?_
                refine st_effS hS94 rfl rfl (e_storeB (n := 1) (bb := false) (cs' := [.bool x83.Release, .int .i64 x83.Rail, .int .u64 x83.Wait, .bool false]) g93 hS94 rfl rfl rfl (by kernel_rfl) rfl rfl rfl h88 rfl rfl) ?_
                rintro a95 w96 g96 ⟨h88, F96⟩ hS95
                replace h16 := OwS.fr h16 F96 (fun c' hc (hm : c' = N + 5) => by omega)
                replace h63 := h63.fr F96 (fun (hm : N + 2 = N + 5) => by omega)
                replace h67 := OwS.fr h67 F96 (fun c' hc (hm : c' = N + 5) => by omega)
                replace hp1 := RdS.fr hp1 F96 (by decide) (fun q (hq : C1 q) (hm : q = N + 5) => by have := hC1 q hq; omega)
                replace hF := hF.trans F96 (fun c' (hm : c' = N + 5) => by show N ≤ c'; omega)
                refine wpList_nil (hK _ _ ?_)
                replace hS : Sl 162 _ [(1, .slice A1 p1.length cap1), (2, .int .i64 p2), (7, .slice A14 r12.length cap15), (8, .pointer (some ⟨b62, 0, none⟩)), (10, .int .u64 m0_1), (11, .int .i64 m0_2), (12, .pointer (some ⟨b87, 0, none⟩))] := hS95.re ⟨rfl, rfl, rfl, rfl, rfl, rfl, rfl, trivial⟩
                clear hK K
                try clear hS94 hS95
                obtain ⟨a, ha⟩ : ∃ a', a' = a95 := ⟨_, rfl⟩
                rw [← ha] at hS ⊢; clear ha
                obtain ⟨r101, hr102, H⟩ := bind_el H
                refine c_region (fun K hK => ?_)
                refine st_val hS rfl rfl rfl (r_loadN (n := 4) (cs := [.bool x83.Release, .int .i64 x83.Rail, .int .u64 x83.Wait, .bool false]) hS rfl rfl (by kernel_rfl) rfl (Bx.cells_off h88 0 4)) fun a97 hS97 => st_val hS97 rfl rfl rfl (r_move hS97 rfl rfl) fun a98 hS98 => st_val hS98 rfl rfl rfl (r_len (e := 35) (sz := 3) (by_ := 24) hS98 rfl rfl (by kernel_rfl)) fun a99 hS99 => st_val hS99 rfl rfl rfl (r_move hS99 rfl rfl) fun a100 hS100 => ?_
                refine st_enter hS100 rfl rfl rfl (r_call hS100 rfl rfl (by kernel_rfl)) (law25_Call_at.calls (p0 := (law25_Call.mk x83.Release x83.Rail x83.Wait false)) (p1 := (r12.length : Int)) (p2 := m0_1) (g := g96) (N + 16)   hr102) ?_
                rintro _ a103 w104 ⟨g104, rfl, F104⟩ hS103
                replace h16 := OwS.fr h16 F104 (fun c' hc (hm : N + 16 ≤ c') => by omega)
                replace h63 := h63.fr F104 (fun (hm : N + 16 ≤ N + 2) => by omega)
                replace h67 := OwS.fr h67 F104 (fun c' hc (hm : N + 16 ≤ c') => by omega)
                replace h88 := h88.fr F104 (fun (hm : N + 16 ≤ N + 5) => by omega)
                replace hp1 := RdS.fr hp1 F104 (by decide) (fun q (hq : C1 q) (hm : N + 16 ≤ q) => by have := hC1 q hq; omega)
                replace hF := hF.trans F104 (fun c' (hm : N + 16 ≤ c') => by show N ≤ c'; omega)
                refine st_val hS103 rfl rfl rfl (r_move hS103 rfl rfl) fun a105 hS105 => st_val hS105 rfl rfl rfl (r_extract hS105 rfl rfl rfl) fun a106 hS106 => st_val hS106 rfl rfl rfl (r_extract hS106 rfl rfl rfl) fun a107 hS107 => st_val hS107 rfl rfl rfl (r_assign hS107 rfl rfl) fun a108 hS108 => st_val hS108 rfl rfl rfl (r_assign hS108 rfl rfl) fun a109 hS109 => wpList_nil (hK _ _ ?_)
                replace hS : Sl 162 _ [(1, .slice A1 p1.length cap1), (2, .int .i64 p2), (7, .slice A14 r12.length cap15), (8, .pointer (some ⟨b62, 0, none⟩)), (10, .int .u64 m0_1), (11, .int .i64 m0_2), (12, .pointer (some ⟨b87, 0, none⟩)), (14, .int .u64 r101.2)] := hS109.re ⟨rfl, rfl, rfl, rfl, rfl, rfl, rfl, rfl, trivial⟩
                clear hK K
                try clear hS97 hS98 hS99 hS100 hS103 hS105 hS106 hS107 hS108 hS109
                obtain ⟨a, ha⟩ : ∃ a', a' = a109 := ⟨_, rfl⟩
                rw [← ha] at hS ⊢; clear ha
                obtain ⟨r115, hr116, H⟩ := bind_el H
                refine c_region (fun K hK => ?_)
                refine st_val hS rfl rfl rfl (r_move hS rfl rfl) fun a110 hS110 => st_val hS110 rfl rfl rfl (r_loadN (n := 4) (cs := [.bool x83.Release, .int .i64 x83.Rail, .int .u64 x83.Wait, .bool false]) hS110 rfl rfl (by kernel_rfl) rfl (Bx.cells_off h88 0 4)) fun a111 hS111 => st_val hS111 rfl rfl rfl (r_move hS111 rfl rfl) fun a112 hS112 => st_val hS112 rfl rfl rfl (r_len (e := 35) (sz := 3) (by_ := 24) hS112 rfl rfl (by kernel_rfl)) fun a113 hS113 => st_val hS113 rfl rfl rfl (r_move hS113 rfl rfl) fun a114 hS114 => ?_
                refine st_enter hS114 rfl rfl rfl (r_call hS114 rfl rfl (by kernel_rfl)) (law25_do.calls (c0 := N + 2) (b_p0 := b62) (A_list_p0 := A65) (cap_list_p0 := cap66) (p0 := m0_0) (p1 := (law25_Call.mk x83.Release x83.Rail x83.Wait false)) (p2 := (r12.length : Int)) (p3 := m0_1) (g := g104) (N + 16) (N + 7) ⟨h63, h67⟩ (by omega) (by omega) (by omega) hr116) ?_
                rintro _ a121 w122 ⟨g122, A117, cap118, rfl, ⟨h63, h67⟩, h119, F122⟩ hS121
                replace h16 := OwS.fr h16 F122 (fun c' hc (hm : (N + 2 ≤ c' ∧ c' < N + 2 + 3) ∨ (N + 7 ≤ c' ∧ c' < N + 7 + 2) ∨ N + 16 ≤ c') => by omega)
                replace h88 := h88.fr F122 (fun (hm : (N + 2 ≤ N + 5 ∧ N + 5 < N + 2 + 3) ∨ (N + 7 ≤ N + 5 ∧ N + 5 < N + 7 + 2) ∨ N + 16 ≤ N + 5) => by omega)
                replace hp1 := RdS.fr hp1 F122 (by decide) (fun q (hq : C1 q) (hm : (N + 2 ≤ q ∧ q < N + 2 + 3) ∨ (N + 7 ≤ q ∧ q < N + 7 + 2) ∨ N + 16 ≤ q) => by have := hC1 q hq; omega)
                replace hF := hF.trans F122 (fun c' (hm : (N + 2 ≤ c' ∧ c' < N + 2 + 3) ∨ (N + 7 ≤ c' ∧ c' < N + 7 + 2) ∨ N + 16 ≤ c') => by show N ≤ c'; omega)
                refine st_val hS121 rfl rfl rfl (r_move hS121 rfl rfl) fun a123 hS123 => st_val hS123 rfl rfl rfl (r_extract hS123 rfl rfl rfl) fun a124 hS124 => st_val hS124 rfl rfl rfl (r_extract hS124 rfl rfl rfl) fun a125 hS125 => st_val hS125 rfl rfl rfl (r_assign hS125 rfl rfl) fun a126 hS126 => st_val hS126 rfl rfl rfl (r_assign hS126 rfl rfl) fun a127 hS127 => wpList_nil (hK _ _ ?_)
                replace hS : Sl 162 _ [(1, .slice A1 p1.length cap1), (2, .int .i64 p2), (7, .slice A14 r12.length cap15), (8, .pointer (some ⟨b62, 0, none⟩)), (10, .int .u64 m0_1), (11, .int .i64 m0_2), (14, .int .u64 r101.2), (16, .int .i64 r115.2.2)] := hS127.re ⟨rfl, rfl, rfl, rfl, rfl, rfl, rfl, rfl, trivial⟩
                clear hK K
                try clear hS110 hS111 hS112 hS113 hS114 hS121 hS123 hS124 hS125 hS126 hS127
                obtain ⟨a, ha⟩ : ∃ a', a' = a127 := ⟨_, rfl⟩
                rw [← ha] at hS ⊢; clear ha
                refine c_pure [(1, .slice A1 p1.length cap1), (2, .int .i64 p2), (7, .slice A14 r12.length cap15), (8, .pointer (some ⟨b62, 0, none⟩)), (10, .int .u64 m0_1), (11, .int .i64 m0_2), (14, .int .u64 r101.2), (71, .bool (r115.2.2 == 0))] (fun R hR => st_val hS rfl rfl rfl (r_move hS rfl rfl) fun a128 hS128 => st_val hS128 rfl rfl rfl (r_bin hS128 rfl rfl rfl b_eql) fun a129 hS129 => wpList_nil (hR _ (hS129.re ⟨rfl, rfl, rfl, rfl, rfl, rfl, rfl, rfl, trivial⟩))) ?_
                clear hS
                clear a
                intro a hS
                refine c_cond hS rfl (fun hb130 => ?_) (fun hb130 => ?_)
                · replace H := ite_t hb130 H
                  refine c_pure1 [(1, .slice A1 p1.length cap1), (2, .int .i64 p2), (7, .slice A14 r12.length cap15), (8, .pointer (some ⟨b62, 0, none⟩)), (10, .int .u64 r101.2), (11, .int .i64 m0_2)] (fun R hR => st_val hS rfl rfl rfl (r_move hS rfl rfl) fun a131 hS131 => st_val hS131 rfl rfl rfl (r_assign hS131 rfl rfl) fun a132 hS132 => wpList_nil (hR _ (hS132.re ⟨rfl, rfl, rfl, rfl, rfl, rfl, trivial⟩))) ?_
                  clear hS
                  clear a
                  intro a hS
                  have e := Option.some.inj H
                  subst e
                  exact ⟨g122, hS.re ⟨rfl, rfl, rfl, rfl, rfl, rfl, trivial⟩, h16, h63, h67, hp1, hF⟩
                · replace H := ite_f hb130 H
                  refine wp_skip ?_
                  have e := Option.some.inj H
                  subst e
                  exact ⟨g122, hS.re ⟨rfl, rfl, rfl, rfl, rfl, rfl, trivial⟩, h16, h63, h67, hp1, hF⟩
              · clear H
                clear hp1 h16 h67 h63 hF
                clear hS
                rintro a w77 ⟨g77, hS, h16, h63, h67, hp1, hF⟩
                have H := Hl80
                clear Hl80
                refine c_pure1 [(1, .slice A1 p1.length cap1), (2, .int .i64 p2), (7, .slice A14 r12.length cap15), (8, .pointer (some ⟨b62, 0, none⟩)), (10, .int .u64 v78.2), (11, .int .i64 (wi (m0_2 + 1)))] (fun R hR => st_val hS rfl rfl rfl (r_move hS rfl rfl) fun a133 hS133 => st_val hS133 rfl rfl rfl (r_bin hS133 rfl rfl rfl b_add) fun a134 hS134 => st_val hS134 rfl rfl rfl (r_assign hS134 rfl rfl) fun a135 hS135 => wpList_nil (hR _ (hS135.re ⟨rfl, rfl, rfl, rfl, rfl, rfl, trivial⟩))) ?_
                clear hS
                clear a
                intro a hS
                refine ⟨k71, Nat.lt_succ_self _, ?_⟩
                exact ⟨v78.1, v78.2, wi (m0_2 + 1), g77, H, hS.re ⟨rfl, rfl, rfl, rfl, rfl, rfl, trivial⟩, h16, h63, h67, hp1, hF⟩
            · replace H := ite_f hb76 H
              refine wp_exit ?_
              have e := Option.some.inj H
              subst e
              exact ⟨g70, b62, A65, cap66, hS.re ⟨rfl, rfl, rfl, rfl, trivial⟩, h16, h67, h63, hF⟩
      · clear H
        clear hp1 h16 h25 hF
        clear hS
        rintro a w50 ⟨g50, b51, A53, cap54, hS, h16, h55, h52, hF⟩
        have H := Hl58
        clear Hl58
        refine wp_seq ?_
        refine c_pure [(2, .int .i64 p2), (7, .slice A14 r12.length cap15), (8, .pointer (some ⟨b51, 0, none⟩)), (10, .int .u64 v56.2.2), (75, .bool ((r12.length : Int) == 0))] (fun R hR => st_val hS rfl rfl rfl (r_move hS rfl rfl) fun a136 hS136 => st_val hS136 rfl rfl rfl (r_len (e := 35) (sz := 3) (by_ := 24) hS136 rfl rfl (by kernel_rfl)) fun a137 hS137 => st_val hS137 rfl rfl rfl (r_bin hS137 rfl rfl rfl b_eql) fun a138 hS138 => wpList_nil (hR _ (hS138.re ⟨rfl, rfl, rfl, rfl, rfl, trivial⟩))) ?_
        clear hS
        clear a
        intro a hS
        refine c_cond hS rfl (fun hb139 => ?_) (fun hb139 => ?_)
        · replace H := ite_t hb139 H
          obtain ⟨r140, hr141, H⟩ := bind_el H
          refine c_region (fun K hK => ?_)
          refine st_enter hS rfl rfl rfl (r_call hS rfl rfl (by kernel_rfl)) (law25_awake.calls (g := g50) (N + 16)   hr141) ?_
          rintro _ a142 w143 ⟨g143, rfl, F143⟩ hS142
          replace h16 := OwS.fr h16 F143 (fun c' hc (hm : N + 16 ≤ c') => by omega)
          replace h55 := OwS.fr h55 F143 (fun c' hc (hm : N + 16 ≤ c') => by omega)
          replace h52 := h52.fr F143 (fun (hm : N + 16 ≤ N + 2) => by omega)
          replace hF := hF.trans F143 (fun c' (hm : N + 16 ≤ c') => by show N ≤ c'; omega)
          refine st_val hS142 rfl rfl rfl (r_assign hS142 rfl rfl) fun a144 hS144 => wpList_nil (hK _ _ ?_)
          replace hS : Sl 162 _ [(6, .bool r140)] := hS144.re ⟨rfl, trivial⟩
          clear hK K
          try clear hS142 hS144
          obtain ⟨a, ha⟩ : ∃ a', a' = a144 := ⟨_, rfl⟩
          rw [← ha] at hS ⊢; clear ha
          refine wp_ret ?_
          have e := Option.some.inj H
          subst e
          repeat (with_reducible first | refine then_ret ?_ | refine inBlock_ret ?_)
          exact c_ret1 hS Try.results11 rfl ⟨_, rfl, g143, rfl, hF⟩
        · replace H := ite_f hb139 H
          refine wp_skip ?_
          change Code.wp _ _ _ _ _
          obtain ⟨r148, hr149, H⟩ := bind_el H
          refine c_region (fun K hK => ?_)
          refine st_val hS rfl rfl rfl (r_move hS rfl rfl) fun a145 hS145 => st_val hS145 rfl rfl rfl (r_move hS145 rfl rfl) fun a146 hS146 => st_val hS146 rfl rfl rfl (r_len (e := 35) (sz := 3) (by_ := 24) hS146 rfl rfl (by kernel_rfl)) fun a147 hS147 => ?_
          refine st_enter hS147 rfl rfl rfl (r_call hS147 rfl rfl (by kernel_rfl)) (help_Mod.calls (p0 := p2) (p1 := (r12.length : Int)) (g := g50) (N + 16)   hr149) ?_
          rintro _ a150 w151 ⟨g151, rfl, F151⟩ hS150
          replace h16 := OwS.fr h16 F151 (fun c' hc (hm : N + 16 ≤ c') => by omega)
          replace h55 := OwS.fr h55 F151 (fun c' hc (hm : N + 16 ≤ c') => by omega)
          replace h52 := h52.fr F151 (fun (hm : N + 16 ≤ N + 2) => by omega)
          replace hF := hF.trans F151 (fun c' (hm : N + 16 ≤ c') => by show N ≤ c'; omega)
          refine st_val hS150 rfl rfl rfl (r_assign hS150 rfl rfl) fun a152 hS152 => wpList_nil (hK _ _ ?_)
          replace hS : Sl 162 _ [(7, .slice A14 r12.length cap15), (8, .pointer (some ⟨b51, 0, none⟩)), (10, .int .u64 v56.2.2), (17, .int .i64 r148)] := hS152.re ⟨rfl, rfl, rfl, rfl, trivial⟩
          clear hK K
          try clear hS145 hS146 hS147 hS150 hS152
          obtain ⟨a, ha⟩ : ∃ a', a' = a152 := ⟨_, rfl⟩
          rw [← ha] at hS ⊢; clear ha
          obtain ⟨r154, hr155, H⟩ := bind_el H
          refine c_region (fun K hK => ?_)
          refine st_val hS rfl rfl rfl (r_move hS rfl rfl) fun a153 hS153 => ?_
          refine st_enter hS153 rfl rfl rfl (r_call hS153 rfl rfl (by kernel_rfl)) (rails_Rails_Copy.calls (c0 := N + 2) (b_p0 := b51) (A_list_p0 := A53) (cap_list_p0 := cap54) (p0 := (rails_Rails.mk v56.1 v56.2.1)) (g := g151) (N + 16) (N + 9) ⟨h52, h55⟩ (by omega) (by omega) hr155) ?_
          rintro _ a159 w160 ⟨g160, p156, rfl, h157, F160⟩ hS159
          replace h16 := OwS.fr h16 F160 (fun c' hc (hm : (N + 9 ≤ c' ∧ c' < N + 9 + 3) ∨ N + 16 ≤ c') => by omega)
          replace h55 := OwS.fr h55 F160 (fun c' hc (hm : (N + 9 ≤ c' ∧ c' < N + 9 + 3) ∨ N + 16 ≤ c') => by omega)
          replace h52 := h52.fr F160 (fun (hm : (N + 9 ≤ N + 2 ∧ N + 2 < N + 9 + 3) ∨ N + 16 ≤ N + 2) => by omega)
          replace hF := hF.trans F160 (fun c' (hm : (N + 9 ≤ c' ∧ c' < N + 9 + 3) ∨ N + 16 ≤ c') => by show N ≤ c'; omega)
          refine st_val hS159 rfl rfl rfl (r_assign hS159 rfl rfl) fun a161 hS161 => wpList_nil (hK _ _ ?_)
          replace hS : Sl 162 _ [(7, .slice A14 r12.length cap15), (8, .pointer (some ⟨b51, 0, none⟩)), (10, .int .u64 v56.2.2), (17, .int .i64 r148), (18, .pointer p156)] := hS161.re ⟨rfl, rfl, rfl, rfl, rfl, trivial⟩
          clear hK K
          try clear hS153 hS159 hS161
          obtain ⟨a, ha⟩ : ∃ a', a' = a161 := ⟨_, rfl⟩
          rw [← ha] at hS ⊢; clear ha
          refine wp_seq ?_
          refine c_pure [(7, .slice A14 r12.length cap15), (8, .pointer (some ⟨b51, 0, none⟩)), (10, .int .u64 v56.2.2), (17, .int .i64 r148), (18, .pointer p156), (84, .bool r154.isNone)] (fun R hR => st_val hS rfl rfl rfl (r_move hS rfl rfl) fun a162 hS162 => st_val hS162 rfl rfl rfl (r_optEq hS162 rfl rfl (by kernel_rfl) (rails_Rails_Opt.isNone h157)) fun a163 hS163 => wpList_nil (hR _ (hS163.re ⟨rfl, rfl, rfl, rfl, rfl, rfl, trivial⟩))) ?_
          clear hS
          clear a
          intro a hS
          refine c_cond hS rfl (fun hb164 => ?_) (fun hb164 => ?_)
          · replace H := ite_t hb164 H
            refine c_pure [(6, .bool false)] (fun R hR => st_val hS rfl rfl rfl (r_assign hS rfl rfl) fun a165 hS165 => wpList_nil (hR _ (hS165.re ⟨rfl, trivial⟩))) ?_
            clear hS
            clear a
            intro a hS
            refine wp_ret ?_
            have e := Option.some.inj H
            subst e
            repeat (with_reducible first | refine then_ret ?_ | refine inBlock_ret ?_)
            exact c_ret1 hS Try.results11 rfl ⟨_, rfl, g160, rfl, hF⟩
          · replace H := ite_f hb164 H
            refine wp_skip ?_
            change Code.wp _ _ _ _ _
            obtain ⟨r169, hr170, H⟩ := bind_el H
            refine c_region (fun K hK => ?_)
            refine st_val hS rfl rfl rfl (r_move hS rfl rfl) fun a166 hS166 => st_val hS166 rfl rfl rfl (r_move hS166 rfl rfl) fun a167 hS167 => st_val hS167 rfl rfl rfl (r_move hS167 rfl rfl) fun a168 hS168 => ?_
            refine st_enter hS168 rfl rfl rfl (r_call hS168 rfl rfl (by kernel_rfl)) (rails_Rails_Acquire.calls (c0 := N + 2) (b_p0 := b51) (A_list_p0 := A53) (cap_list_p0 := cap54) (p0 := (rails_Rails.mk v56.1 v56.2.1)) (p1 := r148) (p2 := v56.2.2) (g := g160) (N + 16) (N + 12) ⟨h52, h55⟩ (by omega) (by omega) (by omega) hr170) ?_
            rintro _ a175 w176 ⟨g176, A171, cap172, rfl, ⟨h52, h55⟩, h173, F176⟩ hS175
            replace h157 := rails_Rails_Opt.fr h157 F176 (fun q hq1 hq2 (hm : (N + 2 ≤ q ∧ q < N + 2 + 3) ∨ (N + 12 ≤ q ∧ q < N + 12 + 2) ∨ N + 16 ≤ q) => by omega)
            replace h16 := OwS.fr h16 F176 (fun c' hc (hm : (N + 2 ≤ c' ∧ c' < N + 2 + 3) ∨ (N + 12 ≤ c' ∧ c' < N + 12 + 2) ∨ N + 16 ≤ c') => by omega)
            replace hF := hF.trans F176 (fun c' (hm : (N + 2 ≤ c' ∧ c' < N + 2 + 3) ∨ (N + 12 ≤ c' ∧ c' < N + 12 + 2) ∨ N + 16 ≤ c') => by show N ≤ c'; omega)
            refine st_val hS175 rfl rfl rfl (r_move hS175 rfl rfl) fun a177 hS177 => st_val hS177 rfl rfl rfl (r_extract hS177 rfl rfl rfl) fun a178 hS178 => st_val hS178 rfl rfl rfl (r_extract hS178 rfl rfl rfl) fun a179 hS179 => st_val hS179 rfl rfl rfl (r_assign hS179 rfl rfl) fun a180 hS180 => st_val hS180 rfl rfl rfl (r_assign hS180 rfl rfl) fun a181 hS181 => wpList_nil (hK _ _ ?_)
            replace hS : Sl 162 _ [(7, .slice A14 r12.length cap15), (8, .pointer (some ⟨b51, 0, none⟩)), (10, .int .u64 v56.2.2), (17, .int .i64 r148), (18, .pointer p156), (19, .slice A171 r169.2.1.length cap172), (20, .int .i64 r169.2.2)] := hS181.re ⟨rfl, rfl, rfl, rfl, rfl, rfl, rfl, trivial⟩
            clear hK K
            try clear hS166 hS167 hS168 hS175 hS177 hS178 hS179 hS180 hS181
            obtain ⟨a, ha⟩ : ∃ a', a' = a181 := ⟨_, rfl⟩
            rw [← ha] at hS ⊢; clear ha
            obtain ⟨r185, hr186, H⟩ := bind_el H
            refine c_region (fun K hK => ?_)
            refine st_val hS rfl rfl rfl (r_move hS rfl rfl) fun a182 hS182 => st_val hS182 rfl rfl rfl (r_move hS182 rfl rfl) fun a183 hS183 => st_val hS183 rfl rfl rfl (r_move hS183 rfl rfl) fun a184 hS184 => ?_
            refine st_enter hS184 rfl rfl rfl (r_call hS184 rfl rfl (by kernel_rfl)) (rails_Rails_Release.calls (c0 := N + 2) (b_p0 := b51) (A_list_p0 := A53) (cap_list_p0 := cap54) (p0 := r169.1) (p1 := r148) (p2 := v56.2.2) (g := g176) (N + 16) (N + 14) ⟨h52, h55⟩ (by omega) (by omega) (by omega) hr186) ?_
            rintro _ a191 w192 ⟨g192, A187, cap188, rfl, ⟨h52, h55⟩, h189, F192⟩ hS191
            replace h157 := rails_Rails_Opt.fr h157 F192 (fun q hq1 hq2 (hm : (N + 2 ≤ q ∧ q < N + 2 + 3) ∨ (N + 14 ≤ q ∧ q < N + 14 + 2) ∨ N + 16 ≤ q) => by omega)
            replace h16 := OwS.fr h16 F192 (fun c' hc (hm : (N + 2 ≤ c' ∧ c' < N + 2 + 3) ∨ (N + 14 ≤ c' ∧ c' < N + 14 + 2) ∨ N + 16 ≤ c') => by omega)
            replace h173 := OwS.fr h173 F192 (fun c' hc (hm : (N + 2 ≤ c' ∧ c' < N + 2 + 3) ∨ (N + 14 ≤ c' ∧ c' < N + 14 + 2) ∨ N + 16 ≤ c') => by omega)
            replace hF := hF.trans F192 (fun c' (hm : (N + 2 ≤ c' ∧ c' < N + 2 + 3) ∨ (N + 14 ≤ c' ∧ c' < N + 14 + 2) ∨ N + 16 ≤ c') => by show N ≤ c'; omega)
            refine st_val hS191 rfl rfl rfl (r_move hS191 rfl rfl) fun a193 hS193 => st_val hS193 rfl rfl rfl (r_extract hS193 rfl rfl rfl) fun a194 hS194 => st_val hS194 rfl rfl rfl (r_extract hS194 rfl rfl rfl) fun a195 hS195 => st_val hS195 rfl rfl rfl (r_assign hS195 rfl rfl) fun a196 hS196 => st_val hS196 rfl rfl rfl (r_assign hS196 rfl rfl) fun a197 hS197 => wpList_nil (hK _ _ ?_)
            replace hS : Sl 162 _ [(7, .slice A14 r12.length cap15), (8, .pointer (some ⟨b51, 0, none⟩)), (18, .pointer p156), (19, .slice A171 r169.2.1.length cap172), (20, .int .i64 r169.2.2), (21, .slice A187 r185.2.1.length cap188), (22, .int .i64 r185.2.2)] := hS197.re ⟨rfl, rfl, rfl, rfl, rfl, rfl, rfl, trivial⟩
            clear hK K
            try clear hS182 hS183 hS184 hS191 hS193 hS194 hS195 hS196 hS197
            obtain ⟨a, ha⟩ : ∃ a', a' = a197 := ⟨_, rfl⟩
            rw [← ha] at hS ⊢; clear ha
            refine wp_seq ?_
            refine c_region (fun K hK => ?_)
            refine st_val hS rfl rfl rfl (r_move hS rfl rfl) fun a198 hS198 => st_val hS198 rfl rfl rfl (r_bin hS198 rfl rfl rfl b_neq) fun a199 hS199 => st_val hS199 rfl rfl rfl (r_move hS199 rfl rfl) fun a200 hS200 => ?_
            refine g_join (N := 162) 3 [(7, .slice A14 r12.length cap15), (8, .pointer (some ⟨b51, 0, none⟩)), (18, .pointer p156), (19, .slice A171 r169.2.1.length cap172), (21, .slice A187 r185.2.1.length cap188), (104, .bool ((r169.2.2 != 0) || (r185.2.2 != 0)))] ?_ (fun hk => ?_)
            rotate_left
            · rcases Bool.eq_false_or_eq_true ((r169.2.2 != 0)) with hb201 | hb201
              · refine st_off hS200 (want_off hS200 rfl rfl rfl hb201) rfl rfl fun a204 hS204 => st_off hS204 (want_off hS204 rfl rfl rfl hb201) rfl rfl fun a205 hS205 => st_val hS205 rfl rfl rfl (r_pickT hS205 rfl rfl rfl hb201) fun a206 hS206 => hk _ (hS206.re ⟨rfl, rfl, rfl, rfl, rfl, (by rw [hb201]; rfl), trivial⟩)
              · refine st_valW hS200 (want_on hS200 rfl rfl rfl hb201) rfl rfl (r_move hS200 rfl rfl) fun a207 hS207 => st_valW hS207 (want_on hS207 rfl rfl rfl hb201) rfl rfl (r_bin hS207 rfl rfl rfl b_neq) fun a208 hS208 => st_val hS208 rfl rfl rfl (r_pickF hS208 rfl rfl rfl hb201) fun a209 hS209 => hk _ (hS209.re ⟨rfl, rfl, rfl, rfl, rfl, (by rw [hb201]; rfl), trivial⟩)
            intro a210 hS210
            refine st_val hS210 rfl rfl rfl (r_move hS210 rfl rfl) fun a211 hS211 => ?_
            refine g_join (N := 162) 6 [(7, .slice A14 r12.length cap15), (8, .pointer (some ⟨b51, 0, none⟩)), (18, .pointer p156), (19, .slice A171 r169.2.1.length cap172), (21, .slice A187 r185.2.1.length cap188), (111, .bool (((r169.2.2 != 0) || (r185.2.2 != 0)) || ((r169.2.1.length : Int) != (r185.2.1.length : Int))))] ?_ (fun hk => ?_)
            rotate_left
            · rcases Bool.eq_false_or_eq_true (((r169.2.2 != 0) || (r185.2.2 != 0))) with hb212 | hb212
              · refine st_off hS211 (want_off hS211 rfl rfl rfl hb212) rfl rfl fun a218 hS218 => st_off hS218 (want_off hS218 rfl rfl rfl hb212) rfl rfl fun a219 hS219 => st_off hS219 (want_off hS219 rfl rfl rfl hb212) rfl rfl fun a220 hS220 => st_off hS220 (want_off hS220 rfl rfl rfl hb212) rfl rfl fun a221 hS221 => st_off hS221 (want_off hS221 rfl rfl rfl hb212) rfl rfl fun a222 hS222 => st_val hS222 rfl rfl rfl (r_pickT hS222 rfl rfl rfl hb212) fun a223 hS223 => hk _ (hS223.re ⟨rfl, rfl, rfl, rfl, rfl, (by rw [hb212]; rfl), trivial⟩)
              · refine st_valW hS211 (want_on hS211 rfl rfl rfl hb212) rfl rfl (r_move hS211 rfl rfl) fun a224 hS224 => st_valW hS224 (want_on hS224 rfl rfl rfl hb212) rfl rfl (r_len (e := 50) (sz := 4) (by_ := 32) hS224 rfl rfl (by kernel_rfl)) fun a225 hS225 => st_valW hS225 (want_on hS225 rfl rfl rfl hb212) rfl rfl (r_move hS225 rfl rfl) fun a226 hS226 => st_valW hS226 (want_on hS226 rfl rfl rfl hb212) rfl rfl (r_len (e := 50) (sz := 4) (by_ := 32) hS226 rfl rfl (by kernel_rfl)) fun a227 hS227 => st_valW hS227 (want_on hS227 rfl rfl rfl hb212) rfl rfl (r_bin hS227 rfl rfl rfl b_neq) fun a228 hS228 => st_val hS228 rfl rfl rfl (r_pickF hS228 rfl rfl rfl hb212) fun a229 hS229 => hk _ (hS229.re ⟨rfl, rfl, rfl, rfl, rfl, (by rw [hb212]; rfl), trivial⟩)
            intro a230 hS230
            refine wpList_nil (hK _ _ ?_)
            replace hS : Sl 162 _ [(7, .slice A14 r12.length cap15), (8, .pointer (some ⟨b51, 0, none⟩)), (18, .pointer p156), (19, .slice A171 r169.2.1.length cap172), (21, .slice A187 r185.2.1.length cap188), (111, .bool (((r169.2.2 != 0) || (r185.2.2 != 0)) || ((r169.2.1.length : Int) != (r185.2.1.length : Int))))] := hS230.re ⟨rfl, rfl, rfl, rfl, rfl, rfl, trivial⟩
            clear hK K
            try clear hS198 hS199 hS200 hS210 hS211 hS230
            obtain ⟨a, ha⟩ : ∃ a', a' = a230 := ⟨_, rfl⟩
            rw [← ha] at hS ⊢; clear ha
            refine c_cond hS rfl (fun hb231 => ?_) (fun hb231 => ?_)
            · replace H := ite_t hb231 H
              refine c_pure [(6, .bool false)] (fun R hR => st_val hS rfl rfl rfl (r_assign hS rfl rfl) fun a232 hS232 => wpList_nil (hR _ (hS232.re ⟨rfl, trivial⟩))) ?_
              clear hS
              clear a
              intro a hS
              refine wp_ret ?_
              have e := Option.some.inj H
              subst e
              repeat (with_reducible first | refine then_ret ?_ | refine inBlock_ret ?_)
              exact c_ret1 hS Try.results11 rfl ⟨_, rfl, g192, rfl, hF⟩
            · replace H := ite_f hb231 H
              refine wp_skip ?_
              change Code.wp _ _ _ _ _
              obtain ⟨o240, H, Hl241⟩ := bind_el H
              refine c_cut (fun a w233 => ∃ (v239 : (List rails_rail) × Int), ∃ (g233 : Nat → Nat), ∃ (b234 : Nat), ∃ (A236 : Option Addr), ∃ (cap237 : Nat), o240 = .nxt v239 ∧ Sl 162 a [(7, .slice A14 r12.length cap15), (8, .pointer (some ⟨b51, 0, none⟩)), (18, .pointer (some ⟨b234, 0, none⟩))] ∧ OwS kd_api_Rail 35 w233 g233 (N + 0) A14 cap15 r12 ∧ OwS kd_rails_rail 75 w233 g233 (N + 2 + 1) A53 cap54 r185.1.list ∧ Bx w233 g233 (N + 2) b51 70 [.slice A53 r185.1.list.length cap54, .int .u64 r185.1.now] ∧ OwS kd_rails_rail 75 w233 g233 (N + 9 + 1) A236 cap237 v239.1 ∧ Bx w233 g233 (N + 9) b234 70 [.slice A236 v239.1.length cap237, .int .u64 v239.2] ∧ Fr (fun q => N ≤ q) w g w233 g233) ?_ ?_
              · refine c_pure [(7, .slice A14 r12.length cap15), (8, .pointer (some ⟨b51, 0, none⟩)), (18, .pointer p156), (19, .slice A171 r169.2.1.length cap172), (21, .slice A187 r185.2.1.length cap188), (23, .int .i64 0)] (fun R hR => st_val hS rfl rfl rfl (r_assign hS rfl rfl) fun a242 hS242 => wpList_nil (hR _ (hS242.re ⟨rfl, rfl, rfl, rfl, rfl, rfl, trivial⟩))) ?_
                clear hS
                clear a
                intro a hS
                refine wp_block ?_
                obtain ⟨st243, hst244, H⟩ := bind_el H
                rw [hst244] at h157
                obtain ⟨b245, A248, cap249, hp252, h246, h250⟩ := h157
                subst hp252
                refine wp_loop_ghost (fun kq => fun a w253 => ∃ (m1_0 : Int), ∃ (g253 : Nat → Nat), law25_RailsReleaseUndoesAcquire.l1 r169 r185 st243 kq m1_0 = some o240 ∧ Sl 162 a [(7, .slice A14 r12.length cap15), (8, .pointer (some ⟨b51, 0, none⟩)), (18, .pointer (some ⟨b245, 0, none⟩)), (19, .slice A171 r169.2.1.length cap172), (21, .slice A187 r185.2.1.length cap188), (23, .int .i64 m1_0)] ∧ OwS kd_api_Rail 35 w253 g253 (N + 0) A14 cap15 r12 ∧ OwS kd_api_RailOp 50 w253 g253 (N + 12) A171 cap172 r169.2.1 ∧ OwS kd_api_RailOp 50 w253 g253 (N + 14) A187 cap188 r185.2.1 ∧ Bx w253 g253 (N + 9) b245 70 [.slice A248 st243.list.length cap249, .int .u64 st243.now] ∧ OwS kd_rails_rail 75 w253 g253 (N + 9 + 1) A248 cap249 st243.list ∧ OwS kd_rails_rail 75 w253 g253 (N + 2 + 1) A53 cap54 r185.1.list ∧ Bx w253 g253 (N + 2) b51 70 [.slice A53 r185.1.list.length cap54, .int .u64 r185.1.now] ∧ Fr (fun q => N ≤ q) w g w253 g253) FUEL ?_ ?_
                · exact ⟨0, g192, H, hS.re ⟨rfl, rfl, rfl, rfl, rfl, rfl, trivial⟩, h16, h173, h189, h246, h250, h55, h52, hF⟩
                · clear H
                  clear h16 h55 h52 h173 h189 h250 h246 hF
                  clear hS
                  rintro k254 a w253 ⟨m1_0, g253, hpre0, hS, h16, h173, h189, h246, h250, h55, h52, hF⟩
                  have H := hpre0
                  clear hpre0
                  cases k254 with
                  | zero => exact absurd H (by simp [law25_RailsReleaseUndoesAcquire.l1])
                  | succ k254 =>
                    rw [law25_RailsReleaseUndoesAcquire.l1] at H
                    refine wp_seq ?_
                    refine c_pure [(7, .slice A14 r12.length cap15), (8, .pointer (some ⟨b51, 0, none⟩)), (18, .pointer (some ⟨b245, 0, none⟩)), (19, .slice A171 r169.2.1.length cap172), (21, .slice A187 r185.2.1.length cap188), (23, .int .i64 m1_0), (115, .bool (decide (m1_0 < (r169.2.1.length : Int))))] (fun R hR => st_val hS rfl rfl rfl (r_move hS rfl rfl) fun a255 hS255 => st_val hS255 rfl rfl rfl (r_move hS255 rfl rfl) fun a256 hS256 => st_val hS256 rfl rfl rfl (r_len (e := 50) (sz := 4) (by_ := 32) hS256 rfl rfl (by kernel_rfl)) fun a257 hS257 => st_val hS257 rfl rfl rfl (r_bin hS257 rfl rfl rfl b_lss) fun a258 hS258 => wpList_nil (hR _ (hS258.re ⟨rfl, rfl, rfl, rfl, rfl, rfl, rfl, trivial⟩))) ?_
                    clear hS
                    clear a
                    intro a hS
                    refine c_cond hS rfl (fun hb259 => ?_) (fun hb259 => ?_)
                    · replace H := ite_t hb259 H
                      refine wp_skip ?_
                      change Code.wp _ _ _ _ _
                      refine wp_seq ?_
                      refine wp_block ?_
                      obtain ⟨x263, hx264, H⟩ := bind_el H
                      obtain ⟨x274, hx275, H⟩ := bind_el H
                      obtain ⟨t312, ht313, H⟩ := bind_el H
                      refine c_draw (fun K hK => d_start (fun q => False) g253 [] 30 #[false, false, false, false, false, false, false, false, false, false, false, false, false, false, false, false, false, false, false, false, false, false, false, false, false, false, false, false, false, false] (by kernel_rfl) rfl rfl (fun w260 hw260 => ?_))
                      have F260 : Fr (fun _ => False) w253 g253 w260 g253 := by rw [hw260]; exact Fr.drew _ _ _
                      replace h16 := OwS.fr h16 F260 (fun _ _ h => h)
                      replace h173 := OwS.fr h173 F260 (fun _ _ h => h)
                      replace h189 := OwS.fr h189 F260 (fun _ _ h => h)
                      replace h246 := h246.fr F260 (fun h => h)
                      replace h250 := OwS.fr h250 F260 (fun _ _ h => h)
                      replace h55 := OwS.fr h55 F260 (fun _ _ h => h)
                      replace h52 := h52.fr F260 (fun h => h)
                      replace hF := hF.trans F260 (fun _ h => h.elim)
                      have hC : Fr (fun q => False) w260 g253 w260 g253 := Fr.refl _ _ _
                      refine d_pure hS 0 #[true, false, false, false, false, false, false, false, false, false, false, false, false, false, false, false, false, false, false, false, false, false, false, false, false, false, false, false, false, false] rfl rfl rfl rfl (by kernel_rfl) (fun _ _ _ h => h) (fun _ => (r_move hS rfl rfl)) fun a261 hS261 => d_pure hS261 1 #[true, true, false, false, false, false, false, false, false, false, false, false, false, false, false, false, false, false, false, false, false, false, false, false, false, false, false, false, false, false] rfl rfl rfl rfl (by kernel_rfl) (fun _ _ _ h => h) (fun _ => (r_move hS261 rfl rfl)) fun a262 hS262 => d_pure hS262 2 #[true, true, true, false, false, false, false, false, false, false, false, false, false, false, false, false, false, false, false, false, false, false, false, false, false, false, false, false, false, false] rfl rfl rfl rfl (by kernel_rfl) (fun _ _ _ h => h) (fun _ => (r_index (e := 50) (sz := 4) (by_ := 32) hS262 rfl rfl rfl (by kernel_rfl) (RdS.some_ (OwS.rd h173) hx264) (idx_lo hx264) (idx_hi hx264))) fun a265 hS265 => d_pure hS265 3 #[true, true, true, true, false, false, false, false, false, false, false, false, false, false, false, false, false, false, false, false, false, false, false, false, false, false, false, false, false, false] rfl rfl rfl rfl (by kernel_rfl) (fun _ _ _ h => h) (fun _ => (r_fieldE (off := 0) hS265 rfl rfl (by kernel_rfl))) fun a266 hS266 => d_take hS266 4 #[true, true, true, true, true, false, false, false, false, false, false, false, false, false, false, false, false, false, false, false, false, false, false, false, false, false, false, false, false, false] rfl rfl rfl rfl (by kernel_rfl) (fun _ _ _ h => h) ⟨_, hC⟩ (fun w' g' Fz => (r_load1 (n := 1) hS266 rfl rfl (by kernel_rfl) (RdS.cell (i := m1_0) (sz := 4) (j := 0) (OwS.rd (OwS.fr h173 Fz (fun _ _ h => h))) hx264 rfl))) fun a267 hS267 => d_pure hS267 5 #[true, true, true, true, true, true, false, false, false, false, false, false, false, false, false, false, false, false, false, false, false, false, false, false, false, false, false, false, false, false] rfl rfl rfl rfl (by kernel_rfl) (fun _ _ _ h => h) (fun _ => (r_move hS267 rfl rfl)) fun a268 hS268 => d_pure hS268 6 #[true, true, true, true, true, true, true, false, false, false, false, false, false, false, false, false, false, false, false, false, false, false, false, false, false, false, false, false, false, false] rfl rfl rfl rfl (by kernel_rfl) (fun _ _ _ h => h) (fun _ => (r_move hS268 rfl rfl)) fun a269 hS269 => d_pure hS269 7 #[true, true, true, true, true, true, true, true, false, false, false, false, false, false, false, false, false, false, false, false, false, false, false, false, false, false, false, false, false, false] rfl rfl rfl rfl (by kernel_rfl) (fun _ _ _ h => h) (fun _ => (r_len (e := 50) (sz := 4) (by_ := 32) hS269 rfl rfl (by kernel_rfl))) fun a270 hS270 => d_pure hS270 8 #[true, true, true, true, true, true, true, true, true, false, false, false, false, false, false, false, false, false, false, false, false, false, false, false, false, false, false, false, false, false] rfl rfl rfl rfl (by kernel_rfl) (fun _ _ _ h => h) (fun _ => (r_bin hS270 rfl rfl rfl b_sub)) fun a271 hS271 => d_pure hS271 9 #[true, true, true, true, true, true, true, true, true, true, false, false, false, false, false, false, false, false, false, false, false, false, false, false, false, false, false, false, false, false] rfl rfl rfl rfl (by kernel_rfl) (fun _ _ _ h => h) (fun _ => (r_move hS271 rfl rfl)) fun a272 hS272 => d_pure hS272 10 #[true, true, true, true, true, true, true, true, true, true, true, false, false, false, false, false, false, false, false, false, false, false, false, false, false, false, false, false, false, false] rfl rfl rfl rfl (by kernel_rfl) (fun _ _ _ h => h) (fun _ => (r_bin hS272 rfl rfl rfl b_sub)) fun a273 hS273 => d_pure hS273 11 #[true, true, true, true, true, true, true, true, true, true, true, true, false, false, false, false, false, false, false, false, false, false, false, false, false, false, false, false, false, false] rfl rfl rfl rfl (by kernel_rfl) (fun _ _ _ h => h) (fun _ => (r_index (e := 50) (sz := 4) (by_ := 32) hS273 rfl rfl rfl (by kernel_rfl) (RdS.some_ (OwS.rd h189) hx275) (idx_lo hx275) (idx_hi hx275))) fun a276 hS276 => d_pure hS276 12 #[true, true, true, true, true, true, true, true, true, true, true, true, true, false, false, false, false, false, false, false, false, false, false, false, false, false, false, false, false, false] rfl rfl rfl rfl (by kernel_rfl) (fun _ _ _ h => h) (fun _ => (r_fieldE (off := 0) hS276 rfl rfl (by kernel_rfl))) fun a277 hS277 => d_take hS277 13 #[true, true, true, true, true, true, true, true, true, true, true, true, true, true, false, false, false, false, false, false, false, false, false, false, false, false, false, false, false, false] rfl rfl rfl rfl (by kernel_rfl) (fun _ _ _ h => h) ⟨_, hC⟩ (fun w' g' Fz => (r_load1 (n := 1) hS277 rfl rfl (by kernel_rfl) (RdS.cell (i := wi ((wi ((r185.2.1.length : Int) - 1)) - m1_0)) (sz := 4) (j := 0) (OwS.rd (OwS.fr h189 Fz (fun _ _ h => h))) hx275 rfl))) fun a278 hS278 => d_pure hS278 14 #[true, true, true, true, true, true, true, true, true, true, true, true, true, true, true, false, false, false, false, false, false, false, false, false, false, false, false, false, false, false] rfl rfl rfl rfl (by kernel_rfl) (fun _ _ _ h => h) (fun _ => (r_bin hS278 rfl rfl rfl b_neq)) fun a279 hS279 => d_pure hS279 15 #[true, true, true, true, true, true, true, true, true, true, true, true, true, true, true, true, false, false, false, false, false, false, false, false, false, false, false, false, false, false] rfl rfl rfl rfl (by kernel_rfl) (fun _ _ _ h => h) (fun _ => (r_move hS279 rfl rfl)) fun a280 hS280 => ?_
                      refine d_join (N := 162) 7 #[true, true, true, true, true, true, true, true, true, true, true, true, true, true, true, true, true, true, true, true, true, true, true, false, false, false, false, false, false, false] [(7, .slice A14 r12.length cap15), (8, .pointer (some ⟨b51, 0, none⟩)), (18, .pointer (some ⟨b245, 0, none⟩)), (19, .slice A171 r169.2.1.length cap172), (21, .slice A187 r185.2.1.length cap188), (23, .int .i64 m1_0), (140, .bool ((x263.Rail != x274.Rail) || (!x263.On)))] ?_ (fun hk => ?_)
                      rotate_left
                      · rcases Bool.eq_false_or_eq_true ((x263.Rail != x274.Rail)) with hb281 | hb281
                        · refine d_off hS280 16 #[true, true, true, true, true, true, true, true, true, true, true, true, true, true, true, true, true, false, false, false, false, false, false, false, false, false, false, false, false, false] rfl (want_off hS280 rfl rfl rfl hb281) rfl rfl (by kernel_rfl) (fun _ _ _ h => h) fun a288 hS288 => d_off hS288 17 #[true, true, true, true, true, true, true, true, true, true, true, true, true, true, true, true, true, true, false, false, false, false, false, false, false, false, false, false, false, false] rfl (want_off hS288 rfl rfl rfl hb281) rfl rfl (by kernel_rfl) (fun _ _ _ h => h) fun a289 hS289 => d_off hS289 18 #[true, true, true, true, true, true, true, true, true, true, true, true, true, true, true, true, true, true, true, false, false, false, false, false, false, false, false, false, false, false] rfl (want_off hS289 rfl rfl rfl hb281) rfl rfl (by kernel_rfl) (fun _ _ _ h => h) fun a290 hS290 => d_off hS290 19 #[true, true, true, true, true, true, true, true, true, true, true, true, true, true, true, true, true, true, true, true, false, false, false, false, false, false, false, false, false, false] rfl (want_off hS290 rfl rfl rfl hb281) rfl rfl (by kernel_rfl) (fun _ _ _ h => h) fun a291 hS291 => d_off hS291 20 #[true, true, true, true, true, true, true, true, true, true, true, true, true, true, true, true, true, true, true, true, true, false, false, false, false, false, false, false, false, false] rfl (want_off hS291 rfl rfl rfl hb281) rfl rfl (by kernel_rfl) (fun _ _ _ h => h) fun a292 hS292 => d_off hS292 21 #[true, true, true, true, true, true, true, true, true, true, true, true, true, true, true, true, true, true, true, true, true, true, false, false, false, false, false, false, false, false] rfl (want_off hS292 rfl rfl rfl hb281) rfl rfl (by kernel_rfl) (fun _ _ _ h => h) fun a293 hS293 => d_pure hS293 22 #[true, true, true, true, true, true, true, true, true, true, true, true, true, true, true, true, true, true, true, true, true, true, true, false, false, false, false, false, false, false] rfl rfl rfl rfl (by kernel_rfl) (fun _ _ _ h => h) (fun _ => (r_pickT hS293 rfl rfl rfl hb281)) fun a294 hS294 => hk _ (hS294.re ⟨rfl, rfl, rfl, rfl, rfl, rfl, (by rw [hb281]; rfl), trivial⟩)
                        · refine d_pureW hS280 16 #[true, true, true, true, true, true, true, true, true, true, true, true, true, true, true, true, true, false, false, false, false, false, false, false, false, false, false, false, false, false] rfl (want_on hS280 rfl rfl rfl hb281) rfl rfl (by kernel_rfl) (fun _ _ _ h => h) (fun _ => (r_move hS280 rfl rfl)) fun a295 hS295 => d_pureW hS295 17 #[true, true, true, true, true, true, true, true, true, true, true, true, true, true, true, true, true, true, false, false, false, false, false, false, false, false, false, false, false, false] rfl (want_on hS295 rfl rfl rfl hb281) rfl rfl (by kernel_rfl) (fun _ _ _ h => h) (fun _ => (r_move hS295 rfl rfl)) fun a296 hS296 => d_pureW hS296 18 #[true, true, true, true, true, true, true, true, true, true, true, true, true, true, true, true, true, true, true, false, false, false, false, false, false, false, false, false, false, false] rfl (want_on hS296 rfl rfl rfl hb281) rfl rfl (by kernel_rfl) (fun _ _ _ h => h) (fun _ => (r_index (e := 50) (sz := 4) (by_ := 32) hS296 rfl rfl rfl (by kernel_rfl) (RdS.some_ (OwS.rd h173) hx264) (idx_lo hx264) (idx_hi hx264))) fun a297 hS297 => d_pureW hS297 19 #[true, true, true, true, true, true, true, true, true, true, true, true, true, true, true, true, true, true, true, true, false, false, false, false, false, false, false, false, false, false] rfl (want_on hS297 rfl rfl rfl hb281) rfl rfl (by kernel_rfl) (fun _ _ _ h => h) (fun _ => (r_fieldE (off := 1) hS297 rfl rfl (by kernel_rfl))) fun a298 hS298 => d_takeW hS298 20 #[true, true, true, true, true, true, true, true, true, true, true, true, true, true, true, true, true, true, true, true, true, false, false, false, false, false, false, false, false, false] rfl (want_on hS298 rfl rfl rfl hb281) rfl rfl (by kernel_rfl) (fun _ _ _ h => h) ⟨_, hC⟩ (fun w' g' Fz => (r_load1 (n := 1) hS298 rfl rfl (by kernel_rfl) (RdS.cell (i := m1_0) (sz := 4) (j := 1) (OwS.rd (OwS.fr h173 Fz (fun _ _ h => h))) hx264 rfl))) fun a299 hS299 => d_pureW hS299 21 #[true, true, true, true, true, true, true, true, true, true, true, true, true, true, true, true, true, true, true, true, true, true, false, false, false, false, false, false, false, false] rfl (want_on hS299 rfl rfl rfl hb281) rfl rfl (by kernel_rfl) (fun _ _ _ h => h) (fun _ => (r_not hS299 rfl rfl)) fun a300 hS300 => d_pure hS300 22 #[true, true, true, true, true, true, true, true, true, true, true, true, true, true, true, true, true, true, true, true, true, true, true, false, false, false, false, false, false, false] rfl rfl rfl rfl (by kernel_rfl) (fun _ _ _ h => h) (fun _ => (r_pickF hS300 rfl rfl rfl hb281)) fun a301 hS301 => hk _ (hS301.re ⟨rfl, rfl, rfl, rfl, rfl, rfl, (by rw [hb281]; rfl), trivial⟩)
                      intro a302 hS302
                      refine d_pure hS302 23 #[true, true, true, true, true, true, true, true, true, true, true, true, true, true, true, true, true, true, true, true, true, true, true, true, false, false, false, false, false, false] rfl rfl rfl rfl (by kernel_rfl) (fun _ _ _ h => h) (fun _ => (r_move hS302 rfl rfl)) fun a303 hS303 => ?_
                      refine d_join (N := 162) 0 #[true, true, true, true, true, true, true, true, true, true, true, true, true, true, true, true, true, true, true, true, true, true, true, true, true, true, true, true, true, true] [(7, .slice A14 r12.length cap15), (8, .pointer (some ⟨b51, 0, none⟩)), (18, .pointer (some ⟨b245, 0, none⟩)), (19, .slice A171 r169.2.1.length cap172), (21, .slice A187 r185.2.1.length cap188), (23, .int .i64 m1_0), (147, .bool t312)] ?_ (fun hk => ?_)
                      rotate_left
                      · rcases Bool.eq_false_or_eq_true (((x263.Rail != x274.Rail) || (!x263.On))) with hb304 | hb304
                        · have H := ite_t hb304 ht313
                          have e314 := Option.some.inj H
                          refine d_off hS303 24 #[true, true, true, true, true, true, true, true, true, true, true, true, true, true, true, true, true, true, true, true, true, true, true, true, true, false, false, false, false, false] rfl (want_off hS303 rfl rfl rfl hb304) rfl rfl (by kernel_rfl) (fun _ _ _ h => h) fun a315 hS315 => d_off hS315 25 #[true, true, true, true, true, true, true, true, true, true, true, true, true, true, true, true, true, true, true, true, true, true, true, true, true, true, false, false, false, false] rfl (want_off hS315 rfl rfl rfl hb304) rfl rfl (by kernel_rfl) (fun _ _ _ h => h) fun a316 hS316 => d_off hS316 26 #[true, true, true, true, true, true, true, true, true, true, true, true, true, true, true, true, true, true, true, true, true, true, true, true, true, true, true, false, false, false] rfl (want_off hS316 rfl rfl rfl hb304) rfl rfl (by kernel_rfl) (fun _ _ _ h => h) fun a317 hS317 => d_off hS317 27 #[true, true, true, true, true, true, true, true, true, true, true, true, true, true, true, true, true, true, true, true, true, true, true, true, true, true, true, true, false, false] rfl (want_off hS317 rfl rfl rfl hb304) rfl rfl (by kernel_rfl) (fun _ _ _ h => h) fun a318 hS318 => d_off hS318 28 #[true, true, true, true, true, true, true, true, true, true, true, true, true, true, true, true, true, true, true, true, true, true, true, true, true, true, true, true, true, false] rfl (want_off hS318 rfl rfl rfl hb304) rfl rfl (by kernel_rfl) (fun _ _ _ h => h) fun a319 hS319 => d_pure hS319 29 #[true, true, true, true, true, true, true, true, true, true, true, true, true, true, true, true, true, true, true, true, true, true, true, true, true, true, true, true, true, true] rfl rfl rfl rfl (by kernel_rfl) (fun _ _ _ h => h) (fun _ => (r_pickT hS319 rfl rfl rfl hb304)) fun a320 hS320 => hk _ (hS320.re ⟨rfl, rfl, rfl, rfl, rfl, rfl, (by rw [← e314]; rfl), trivial⟩)
                        · have H := ite_f hb304 ht313
                          obtain ⟨x323, hx324, H⟩ := bind_el H
                          have e328 := Option.some.inj H
                          refine d_pureW hS303 24 #[true, true, true, true, true, true, true, true, true, true, true, true, true, true, true, true, true, true, true, true, true, true, true, true, true, false, false, false, false, false] rfl (want_on hS303 rfl rfl rfl hb304) rfl rfl (by kernel_rfl) (fun _ _ _ h => h) (fun _ => (r_move hS303 rfl rfl)) fun a321 hS321 => d_pureW hS321 25 #[true, true, true, true, true, true, true, true, true, true, true, true, true, true, true, true, true, true, true, true, true, true, true, true, true, true, false, false, false, false] rfl (want_on hS321 rfl rfl rfl hb304) rfl rfl (by kernel_rfl) (fun _ _ _ h => h) (fun _ => (r_move hS321 rfl rfl)) fun a322 hS322 => d_pureW hS322 26 #[true, true, true, true, true, true, true, true, true, true, true, true, true, true, true, true, true, true, true, true, true, true, true, true, true, true, true, false, false, false] rfl (want_on hS322 rfl rfl rfl hb304) rfl rfl (by kernel_rfl) (fun _ _ _ h => h) (fun _ => (r_index (e := 50) (sz := 4) (by_ := 32) hS322 rfl rfl rfl (by kernel_rfl) (RdS.some_ (OwS.rd h189) hx324) (idx_lo hx324) (idx_hi hx324))) fun a325 hS325 => d_pureW hS325 27 #[true, true, true, true, true, true, true, true, true, true, true, true, true, true, true, true, true, true, true, true, true, true, true, true, true, true, true, true, false, false] rfl (want_on hS325 rfl rfl rfl hb304) rfl rfl (by kernel_rfl) (fun _ _ _ h => h) (fun _ => (r_fieldE (off := 1) hS325 rfl rfl (by kernel_rfl))) fun a326 hS326 => d_takeW hS326 28 #[true, true, true, true, true, true, true, true, true, true, true, true, true, true, true, true, true, true, true, true, true, true, true, true, true, true, true, true, true, false] rfl (want_on hS326 rfl rfl rfl hb304) rfl rfl (by kernel_rfl) (fun _ _ _ h => h) ⟨_, hC⟩ (fun w' g' Fz => (r_load1 (n := 1) hS326 rfl rfl (by kernel_rfl) (RdS.cell (i := m1_0) (sz := 4) (j := 1) (OwS.rd (OwS.fr h189 Fz (fun _ _ h => h))) hx324 rfl))) fun a327 hS327 => d_pure hS327 29 #[true, true, true, true, true, true, true, true, true, true, true, true, true, true, true, true, true, true, true, true, true, true, true, true, true, true, true, true, true, true] rfl rfl rfl rfl (by kernel_rfl) (fun _ _ _ h => h) (fun _ => (r_pickF hS327 rfl rfl rfl hb304)) fun a329 hS329 => hk _ (hS329.re ⟨rfl, rfl, rfl, rfl, rfl, rfl, (by rw [← e328]; rfl), trivial⟩)
                      intro a330 hS330
                      refine d_done (by kernel_rfl) (hK _ _ ?_)
                      replace hS : Sl 162 _ [(7, .slice A14 r12.length cap15), (8, .pointer (some ⟨b51, 0, none⟩)), (18, .pointer (some ⟨b245, 0, none⟩)), (19, .slice A171 r169.2.1.length cap172), (21, .slice A187 r185.2.1.length cap188), (23, .int .i64 m1_0), (147, .bool t312)] := hS330.re ⟨rfl, rfl, rfl, rfl, rfl, rfl, rfl, trivial⟩
                      clear hK K hC
                      try clear hS261 hS262 hS265 hS266 hS267 hS268 hS269 hS270 hS271 hS272 hS273 hS276 hS277 hS278 hS279 hS280 hS302 hS303 hS330
                      obtain ⟨a, ha⟩ : ∃ a', a' = a330 := ⟨_, rfl⟩
                      rw [← ha] at hS ⊢; clear ha
                      refine c_cond hS rfl (fun hb331 => ?_) (fun hb331 => ?_)
                      · replace H := ite_t hb331 H
                        refine c_pure [(6, .bool false)] (fun R hR => st_val hS rfl rfl rfl (r_assign hS rfl rfl) fun a332 hS332 => wpList_nil (hR _ (hS332.re ⟨rfl, trivial⟩))) ?_
                        clear hS
                        clear a
                        intro a hS
                        refine wp_ret ?_
                        have e := Option.some.inj H
                        subst e
                        replace H := Fl.go_out Hl241
                        have e := Option.some.inj H
                        subst e
                        repeat (with_reducible first | refine then_ret ?_ | refine inBlock_ret ?_)
                        exact c_ret1 hS Try.results11 rfl ⟨_, rfl, g253, rfl, hF⟩
                      · replace H := ite_f hb331 H
                        refine wp_skip ?_
                        change Code.wp _ _ _ _ _
                        refine c_pure1 [(7, .slice A14 r12.length cap15), (8, .pointer (some ⟨b51, 0, none⟩)), (18, .pointer (some ⟨b245, 0, none⟩)), (19, .slice A171 r169.2.1.length cap172), (21, .slice A187 r185.2.1.length cap188), (23, .int .i64 (wi (m1_0 + 1)))] (fun R hR => st_val hS rfl rfl rfl (r_move hS rfl rfl) fun a333 hS333 => st_val hS333 rfl rfl rfl (r_bin hS333 rfl rfl rfl b_add) fun a334 hS334 => st_val hS334 rfl rfl rfl (r_assign hS334 rfl rfl) fun a335 hS335 => wpList_nil (hR _ (hS335.re ⟨rfl, rfl, rfl, rfl, rfl, rfl, trivial⟩))) ?_
                        clear hS
                        clear a
                        intro a hS
                        refine ⟨k254, Nat.lt_succ_self _, ?_⟩
                        exact ⟨wi (m1_0 + 1), g253, H, hS.re ⟨rfl, rfl, rfl, rfl, rfl, rfl, trivial⟩, h16, h173, h189, h246, h250, h55, h52, hF⟩
                    · replace H := ite_f hb259 H
                      refine wp_exit ?_
                      have e := Option.some.inj H
                      exact ⟨(st243.list, st243.now), g253, b245, A248, cap249, e.symm, hS.re ⟨rfl, rfl, rfl, trivial⟩, h16, h55, h52, h250, h246, hF⟩
              · clear H
                clear h16 h55 h52 h157 h173 h189 hF
                clear hS
                rintro a w233 ⟨v239, g233, b234, A236, cap237, hpre0, hS, h16, h55, h52, h238, h235, hF⟩
                subst hpre0
                have H := Fl.go_nxt Hl241
                clear Hl241
                obtain ⟨o338, H, Hl339⟩ := bind_el H
                refine c_cut (fun a w336 => ∃ (g336 : Nat → Nat), o338 = .nxt () ∧ Sl 162 a [] ∧ Fr (fun q => N ≤ q) w g w336 g336) ?_ ?_
                · refine c_pure [(7, .slice A14 r12.length cap15), (8, .pointer (some ⟨b51, 0, none⟩)), (18, .pointer (some ⟨b234, 0, none⟩)), (24, .int .i64 0)] (fun R hR => st_val hS rfl rfl rfl (r_assign hS rfl rfl) fun a340 hS340 => wpList_nil (hR _ (hS340.re ⟨rfl, rfl, rfl, rfl, trivial⟩))) ?_
                  clear hS
                  clear a
                  intro a hS
                  refine wp_block ?_
                  refine wp_loop_ghost (fun kq => fun a w341 => ∃ (m2_0 : Int), ∃ (g341 : Nat → Nat), law25_RailsReleaseUndoesAcquire.l2 r12 r185 v239 kq m2_0 = some o338 ∧ Sl 162 a [(7, .slice A14 r12.length cap15), (8, .pointer (some ⟨b51, 0, none⟩)), (18, .pointer (some ⟨b234, 0, none⟩)), (24, .int .i64 m2_0)] ∧ OwS kd_api_Rail 35 w341 g341 (N + 0) A14 cap15 r12 ∧ OwS kd_rails_rail 75 w341 g341 (N + 2 + 1) A53 cap54 r185.1.list ∧ Bx w341 g341 (N + 2) b51 70 [.slice A53 r185.1.list.length cap54, .int .u64 r185.1.now] ∧ OwS kd_rails_rail 75 w341 g341 (N + 9 + 1) A236 cap237 v239.1 ∧ Bx w341 g341 (N + 9) b234 70 [.slice A236 v239.1.length cap237, .int .u64 v239.2] ∧ Fr (fun q => N ≤ q) w g w341 g341) FUEL ?_ ?_
                  · exact ⟨0, g233, H, hS.re ⟨rfl, rfl, rfl, rfl, trivial⟩, h16, h55, h52, h238, h235, hF⟩
                  · clear H
                    clear h16 h55 h52 h238 h235 hF
                    clear hS
                    rintro k342 a w341 ⟨m2_0, g341, hpre0, hS, h16, h55, h52, h238, h235, hF⟩
                    have H := hpre0
                    clear hpre0
                    cases k342 with
                    | zero => exact absurd H (by simp [law25_RailsReleaseUndoesAcquire.l2])
                    | succ k342 =>
                      rw [law25_RailsReleaseUndoesAcquire.l2] at H
                      refine wp_seq ?_
                      refine c_pure [(7, .slice A14 r12.length cap15), (8, .pointer (some ⟨b51, 0, none⟩)), (18, .pointer (some ⟨b234, 0, none⟩)), (24, .int .i64 m2_0), (151, .bool (decide (m2_0 < (r12.length : Int))))] (fun R hR => st_val hS rfl rfl rfl (r_move hS rfl rfl) fun a343 hS343 => st_val hS343 rfl rfl rfl (r_move hS343 rfl rfl) fun a344 hS344 => st_val hS344 rfl rfl rfl (r_len (e := 35) (sz := 3) (by_ := 24) hS344 rfl rfl (by kernel_rfl)) fun a345 hS345 => st_val hS345 rfl rfl rfl (r_bin hS345 rfl rfl rfl b_lss) fun a346 hS346 => wpList_nil (hR _ (hS346.re ⟨rfl, rfl, rfl, rfl, rfl, trivial⟩))) ?_
                      clear hS
                      clear a
                      intro a hS
                      refine c_cond hS rfl (fun hb347 => ?_) (fun hb347 => ?_)
                      · replace H := ite_t hb347 H
                        refine wp_skip ?_
                        change Code.wp _ _ _ _ _
                        refine wp_seq ?_
                        refine wp_block ?_
                        obtain ⟨r350, hr351, H⟩ := bind_el H
                        obtain ⟨r356, hr357, H⟩ := bind_el H
                        refine c_region (fun K hK => ?_)
                        refine st_val hS rfl rfl rfl (r_move hS rfl rfl) fun a348 hS348 => st_val hS348 rfl rfl rfl (r_move hS348 rfl rfl) fun a349 hS349 => ?_
                        refine st_enter hS349 rfl rfl rfl (r_call hS349 rfl rfl (by kernel_rfl)) (rails_Rails_Count.calls (c0 := N + 2) (b_p0 := b51) (A_list_p0 := A53) (cap_list_p0 := cap54) (p0 := r185.1) (p1 := m2_0) (g := g341) (N + 16)  ⟨h52, h55⟩ (by omega) hr351) ?_
                        rintro _ a352 w353 ⟨g353, rfl, F353⟩ hS352
                        replace h16 := OwS.fr h16 F353 (fun c' hc (hm : N + 16 ≤ c') => by omega)
                        replace h55 := OwS.fr h55 F353 (fun c' hc (hm : N + 16 ≤ c') => by omega)
                        replace h52 := h52.fr F353 (fun (hm : N + 16 ≤ N + 2) => by omega)
                        replace h238 := OwS.fr h238 F353 (fun c' hc (hm : N + 16 ≤ c') => by omega)
                        replace h235 := h235.fr F353 (fun (hm : N + 16 ≤ N + 9) => by omega)
                        replace hF := hF.trans F353 (fun c' (hm : N + 16 ≤ c') => by show N ≤ c'; omega)
                        refine st_val hS352 rfl rfl rfl (r_move hS352 rfl rfl) fun a354 hS354 => st_val hS354 rfl rfl rfl (r_move hS354 rfl rfl) fun a355 hS355 => ?_
                        refine st_enter hS355 rfl rfl rfl (r_call hS355 rfl rfl (by kernel_rfl)) (rails_Rails_Count.calls (c0 := N + 9) (b_p0 := b234) (A_list_p0 := A236) (cap_list_p0 := cap237) (p0 := (rails_Rails.mk v239.1 v239.2)) (p1 := m2_0) (g := g353) (N + 16)  ⟨h235, h238⟩ (by omega) hr357) ?_
                        rintro _ a358 w359 ⟨g359, rfl, F359⟩ hS358
                        replace h16 := OwS.fr h16 F359 (fun c' hc (hm : N + 16 ≤ c') => by omega)
                        replace h55 := OwS.fr h55 F359 (fun c' hc (hm : N + 16 ≤ c') => by omega)
                        replace h52 := h52.fr F359 (fun (hm : N + 16 ≤ N + 2) => by omega)
                        replace h238 := OwS.fr h238 F359 (fun c' hc (hm : N + 16 ≤ c') => by omega)
                        replace h235 := h235.fr F359 (fun (hm : N + 16 ≤ N + 9) => by omega)
                        replace hF := hF.trans F359 (fun c' (hm : N + 16 ≤ c') => by show N ≤ c'; omega)
                        refine st_val hS358 rfl rfl rfl (r_bin hS358 rfl rfl rfl b_neq) fun a360 hS360 => wpList_nil (hK _ _ ?_)
                        replace hS : Sl 162 _ [(7, .slice A14 r12.length cap15), (8, .pointer (some ⟨b51, 0, none⟩)), (18, .pointer (some ⟨b234, 0, none⟩)), (24, .int .i64 m2_0), (160, .bool (r350 != r356))] := hS360.re ⟨rfl, rfl, rfl, rfl, rfl, trivial⟩
                        clear hK K
                        try clear hS348 hS349 hS352 hS354 hS355 hS358 hS360
                        obtain ⟨a, ha⟩ : ∃ a', a' = a360 := ⟨_, rfl⟩
                        rw [← ha] at hS ⊢; clear ha
                        refine c_cond hS rfl (fun hb361 => ?_) (fun hb361 => ?_)
                        · replace H := ite_t hb361 H
                          refine c_pure [(6, .bool false)] (fun R hR => st_val hS rfl rfl rfl (r_assign hS rfl rfl) fun a362 hS362 => wpList_nil (hR _ (hS362.re ⟨rfl, trivial⟩))) ?_
                          clear hS
                          clear a
                          intro a hS
                          refine wp_ret ?_
                          have e := Option.some.inj H
                          subst e
                          replace H := Fl.go_out Hl339
                          have e := Option.some.inj H
                          subst e
                          repeat (with_reducible first | refine then_ret ?_ | refine inBlock_ret ?_)
                          exact c_ret1 hS Try.results11 rfl ⟨_, rfl, g359, rfl, hF⟩
                        · replace H := ite_f hb361 H
                          refine wp_skip ?_
                          change Code.wp _ _ _ _ _
                          refine c_pure1 [(7, .slice A14 r12.length cap15), (8, .pointer (some ⟨b51, 0, none⟩)), (18, .pointer (some ⟨b234, 0, none⟩)), (24, .int .i64 (wi (m2_0 + 1)))] (fun R hR => st_val hS rfl rfl rfl (r_move hS rfl rfl) fun a363 hS363 => st_val hS363 rfl rfl rfl (r_bin hS363 rfl rfl rfl b_add) fun a364 hS364 => st_val hS364 rfl rfl rfl (r_assign hS364 rfl rfl) fun a365 hS365 => wpList_nil (hR _ (hS365.re ⟨rfl, rfl, rfl, rfl, trivial⟩))) ?_
                          clear hS
                          clear a
                          intro a hS
                          refine ⟨k342, Nat.lt_succ_self _, ?_⟩
                          exact ⟨wi (m2_0 + 1), g359, H, hS.re ⟨rfl, rfl, rfl, rfl, trivial⟩, h16, h55, h52, h238, h235, hF⟩
                      · replace H := ite_f hb347 H
                        refine wp_exit ?_
                        have e := Option.some.inj H
                        exact ⟨g341, e.symm, hS.re trivial, hF⟩
                · clear H
                  clear h16 h55 h52 h238 h235 hF
                  clear hS
                  rintro a w336 ⟨g336, hpre0, hS, hF⟩
                  subst hpre0
                  have H := Fl.go_nxt Hl339
                  clear Hl339
                  obtain ⟨r366, hr367, H⟩ := bind_el H
                  refine c_region (fun K hK => ?_)
                  refine st_enter hS rfl rfl rfl (r_call hS rfl rfl (by kernel_rfl)) (law25_awake.calls (g := g336) (N + 16)   hr367) ?_
                  rintro _ a368 w369 ⟨g369, rfl, F369⟩ hS368
                  replace hF := hF.trans F369 (fun c' (hm : N + 16 ≤ c') => by show N ≤ c'; omega)
                  refine st_val hS368 rfl rfl rfl (r_assign hS368 rfl rfl) fun a370 hS370 => wpList_nil (hK _ _ ?_)
                  replace hS : Sl 162 _ [(6, .bool r366)] := hS370.re ⟨rfl, trivial⟩
                  clear hK K
                  try clear hS368 hS370
                  obtain ⟨a, ha⟩ : ∃ a', a' = a370 := ⟨_, rfl⟩
                  rw [← ha] at hS ⊢; clear ha
                  refine wp_ret ?_
                  have e := Option.some.inj H
                  subst e
                  repeat (with_reducible first | refine then_ret ?_ | refine inBlock_ret ?_)
                  exact c_ret1 hS Try.results11 rfl ⟨_, rfl, g369, rfl, hF⟩

/-- What is left of law25_RailsReleaseUndoesAcquire: about plain values alone. -/
def law25_RailsReleaseUndoesAcquire.Pure : Prop := ∀ (p0 : List api_Rail) (p1 : List law25_Call) (p2 : Int), (p0.length ≤ maxLen ∧ ∀ p0' ∈ p0, Wf_api_Rail p0') → (p1.length ≤ maxLen ∧ ∀ p1' ∈ p1, Wf_law25_Call p1') → (Lit.int .i64 p2).wf = true → law25_RailsReleaseUndoesAcquire.f p0 p1 p2 = some true

end Go.Proofs.Ytfiodhdldleocaa.Sim
