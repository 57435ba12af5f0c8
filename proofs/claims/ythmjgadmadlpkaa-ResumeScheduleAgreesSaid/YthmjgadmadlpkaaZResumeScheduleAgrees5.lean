/-
  Texts of this session, part 5 of 6: the words of the walk, plain functions with the same answers as the Go functions and the proofs of it, plain lemmas. No condition.
  They are, one behind the other: QRef31Makespan QRef31PlanFree QRef31PlanEnded QRef31PlanReady QRef31Schedule Op LwResumeScheduleAgrees RowResumeScheduleAgrees G0 G1 G2.
-/
import Derived.Test.YthmjgadmadlpkaaProg
import Derived.Test.YthmjgadmadlpkaaRows
import Derived.Test.YthmjgadmadlpkaaZResumeScheduleAgrees4

namespace Go.Proofs.Ythmjgadmadlpkaa.Sim
open Go
set_option linter.unusedVariables false
set_option linter.unusedSimpArgs false

/-! ### ref31_Makespan: function 24 -/
def ref31_Makespan.l0 (p0 : List api_Slot) : Nat → Int → Int → Option (Int)
  | 0, _, _ => none
  | k7 + 1, m0_0, m0_1 => if decide (m0_1 < (p0.length : Int)) = true then (((idx p0 m0_1).bind fun x18 => if decide (m0_0 < x18.End) = true then (some x18.End) else (some m0_0) : Option (Int)).bind fun v13 => ref31_Makespan.l0 p0 k7 v13 (wi (m0_1 + 1))) else (some m0_0)
def ref31_Makespan.f (p0 : List api_Slot) : Option (Int) := (ref31_Makespan.l0 p0 FUEL 0 0 : Option (Int)).bind fun v3 => some v3
set_option maxRecDepth 100000 in
set_option maxHeartbeats 4000000 in
theorem ref31_Makespan.calls {p0 : List api_Slot} {A0 : Option Addr} {cap0 : Nat} {C0 : Nat → Prop} {w : World} {g : Nat → Nat} {out : Int} (N : Nat) (hp0 : RdS kd_api_Slot w g C0 A0 cap0 p0) (hC0 : ∀ c, C0 c → c < N) (H : ref31_Makespan.f p0 = some out) :
    Calls Try.prog 24 #[.slice A0 p0.length cap0] w (fun e w' => ∃ v, e = .returned v ∧ ∃ (g' : Nat → Nat), v = .int .u64 out ∧ Fr (fun q => N ≤ q) w g w' g') := by
  unfold ref31_Makespan.f at H
  refine calls_enter Try.func24 rfl Try.ntmps24 rfl (fun a hS => ?_)
  replace hS : Sl 24 a [(0, .slice A0 p0.length cap0)] := hS
  have hF : Fr (fun q => N ≤ q) w g w g := Fr.refl _ _ _
  refine c_pure [(0, .slice A0 p0.length cap0)] (fun R hR => st_val hS rfl rfl rfl (r_assign hS rfl rfl) fun a1 hS1 => wpList_nil (hR _ (hS1.re ⟨rfl, trivial⟩))) ?_
  clear hS
  clear a
  intro a hS
  refine c_pure [(0, .slice A0 p0.length cap0), (3, .int .u64 0)] (fun R hR => st_val hS rfl rfl rfl (r_assign hS rfl rfl) fun a2 hS2 => wpList_nil (hR _ (hS2.re ⟨rfl, rfl, trivial⟩))) ?_
  clear hS
  clear a
  intro a hS
  obtain ⟨v3, H, Hl5⟩ := bind_el H
  refine c_cut (fun a w' => w = w' ∧ Sl 24 a [(3, .int .u64 v3)]) ?_ ?_
  · refine c_pure [(0, .slice A0 p0.length cap0), (3, .int .u64 0), (4, .int .i64 0)] (fun R hR => st_val hS rfl rfl rfl (r_assign hS rfl rfl) fun a6 hS6 => wpList_nil (hR _ (hS6.re ⟨rfl, rfl, rfl, trivial⟩))) ?_
    clear hS
    clear a
    intro a hS
    refine wp_block ?_
    refine wp_loop_ghost (fun kq => fun a w' => ∃ (m0_0 : Int), ∃ (m0_1 : Int), ref31_Makespan.l0 p0 kq m0_0 m0_1 = some v3 ∧ w = w' ∧ Sl 24 a [(0, .slice A0 p0.length cap0), (3, .int .u64 m0_0), (4, .int .i64 m0_1)]) FUEL ?_ ?_
    · exact ⟨0, 0, H, rfl, hS.re ⟨rfl, rfl, rfl, trivial⟩⟩
    · clear H
      clear hS
      rintro k7 a w' ⟨m0_0, m0_1, hpre0, hw, hS⟩
      subst hw
      have H := hpre0
      clear hpre0
      cases k7 with
      | zero => exact absurd H (by simp [ref31_Makespan.l0])
      | succ k7 =>
        rw [ref31_Makespan.l0] at H
        refine wp_seq ?_
        refine c_pure [(0, .slice A0 p0.length cap0), (3, .int .u64 m0_0), (4, .int .i64 m0_1), (8, .bool (decide (m0_1 < (p0.length : Int))))] (fun R hR => st_val hS rfl rfl rfl (r_move hS rfl rfl) fun a8 hS8 => st_val hS8 rfl rfl rfl (r_move hS8 rfl rfl) fun a9 hS9 => st_val hS9 rfl rfl rfl (r_len (e := 38) (sz := 4) (by_ := 32) hS9 rfl rfl (by kernel_rfl)) fun a10 hS10 => st_val hS10 rfl rfl rfl (r_bin hS10 rfl rfl rfl b_lss) fun a11 hS11 => wpList_nil (hR _ (hS11.re ⟨rfl, rfl, rfl, rfl, trivial⟩))) ?_
        clear hS
        clear a
        intro a hS
        refine c_cond hS rfl (fun hb12 => ?_) (fun hb12 => ?_)
        · replace H := ite_t hb12 H
          refine wp_skip ?_
          change Code.wp _ _ _ _ _
          obtain ⟨v13, H, Hl15⟩ := bind_el H
          refine c_cut (fun a w' => w = w' ∧ Sl 24 a [(0, .slice A0 p0.length cap0), (3, .int .u64 v13), (4, .int .i64 m0_1)]) ?_ ?_
          · refine wp_block ?_
            obtain ⟨x18, hx19, H⟩ := bind_el H
            refine c_pure [(0, .slice A0 p0.length cap0), (3, .int .u64 m0_0), (4, .int .i64 m0_1), (17, .bool (decide (m0_0 < x18.End)))] (fun R hR => st_val hS rfl rfl rfl (r_move hS rfl rfl) fun a16 hS16 => st_val hS16 rfl rfl rfl (r_move hS16 rfl rfl) fun a17 hS17 => st_val hS17 rfl rfl rfl (r_index (e := 38) (sz := 4) (by_ := 32) hS17 rfl rfl rfl (by kernel_rfl) (RdS.some_ hp0 hx19) (idx_lo hx19) (idx_hi hx19)) fun a20 hS20 => st_val hS20 rfl rfl rfl (r_fieldE (off := 3) hS20 rfl rfl (by kernel_rfl)) fun a21 hS21 => st_val hS21 rfl rfl rfl (r_load1 (n := 1) hS21 rfl rfl (by kernel_rfl) (RdS.cell (i := m0_1) (sz := 4) (j := 3) hp0 hx19 rfl)) fun a22 hS22 => st_val hS22 rfl rfl rfl (r_move hS22 rfl rfl) fun a23 hS23 => st_val hS23 rfl rfl rfl (r_bin hS23 rfl rfl rfl b_gtr) fun a24 hS24 => wpList_nil (hR _ (hS24.re ⟨rfl, rfl, rfl, rfl, trivial⟩))) ?_
            clear hS
            clear a
            intro a hS
            refine c_cond hS rfl (fun hb25 => ?_) (fun hb25 => ?_)
            · replace H := ite_t hb25 H
              refine c_pure1 [(0, .slice A0 p0.length cap0), (3, .int .u64 x18.End), (4, .int .i64 m0_1)] (fun R hR => st_val hS rfl rfl rfl (r_move hS rfl rfl) fun a26 hS26 => st_val hS26 rfl rfl rfl (r_move hS26 rfl rfl) fun a27 hS27 => st_val hS27 rfl rfl rfl (r_index (e := 38) (sz := 4) (by_ := 32) hS27 rfl rfl rfl (by kernel_rfl) (RdS.some_ hp0 hx19) (idx_lo hx19) (idx_hi hx19)) fun a28 hS28 => st_val hS28 rfl rfl rfl (r_fieldE (off := 3) hS28 rfl rfl (by kernel_rfl)) fun a29 hS29 => st_val hS29 rfl rfl rfl (r_load1 (n := 1) hS29 rfl rfl (by kernel_rfl) (RdS.cell (i := m0_1) (sz := 4) (j := 3) hp0 hx19 rfl)) fun a30 hS30 => st_val hS30 rfl rfl rfl (r_assign hS30 rfl rfl) fun a31 hS31 => wpList_nil (hR _ (hS31.re ⟨rfl, rfl, rfl, trivial⟩))) ?_
              clear hS
              clear a
              intro a hS
              have e := Option.some.inj H
              subst e
              exact ⟨rfl, hS.re ⟨rfl, rfl, rfl, trivial⟩⟩
            · replace H := ite_f hb25 H
              refine wp_skip ?_
              have e := Option.some.inj H
              subst e
              exact ⟨rfl, hS.re ⟨rfl, rfl, rfl, trivial⟩⟩
          · clear H
            clear hS
            rintro a w' ⟨hw, hS⟩
            subst hw
            have H := Hl15
            clear Hl15
            refine c_pure1 [(0, .slice A0 p0.length cap0), (3, .int .u64 v13), (4, .int .i64 (wi (m0_1 + 1)))] (fun R hR => st_val hS rfl rfl rfl (r_move hS rfl rfl) fun a32 hS32 => st_val hS32 rfl rfl rfl (r_bin hS32 rfl rfl rfl b_add) fun a33 hS33 => st_val hS33 rfl rfl rfl (r_assign hS33 rfl rfl) fun a34 hS34 => wpList_nil (hR _ (hS34.re ⟨rfl, rfl, rfl, trivial⟩))) ?_
            clear hS
            clear a
            intro a hS
            refine ⟨k7, Nat.lt_succ_self _, ?_⟩
            exact ⟨v13, wi (m0_1 + 1), H, rfl, hS.re ⟨rfl, rfl, rfl, trivial⟩⟩
        · replace H := ite_f hb12 H
          refine wp_exit ?_
          have e := Option.some.inj H
          subst e
          exact ⟨rfl, hS.re ⟨rfl, trivial⟩⟩
  · clear H
    clear hS
    rintro a w' ⟨hw, hS⟩
    subst hw
    have H := Hl5
    clear Hl5
    refine c_pure [(2, .int .u64 v3)] (fun R hR => st_val hS rfl rfl rfl (r_move hS rfl rfl) fun a35 hS35 => st_val hS35 rfl rfl rfl (r_assign hS35 rfl rfl) fun a36 hS36 => wpList_nil (hR _ (hS36.re ⟨rfl, trivial⟩))) ?_
    clear hS
    clear a
    intro a hS
    refine wp_ret ?_
    have e := Option.some.inj H
    subst e
    repeat (with_reducible first | refine then_ret ?_ | refine inBlock_ret ?_)
    exact c_ret1 hS Try.results24 rfl ⟨_, rfl, g, rfl, hF⟩


end Go.Proofs.Ythmjgadmadlpkaa.Sim

namespace Go.Proofs.Ythmjgadmadlpkaa.Sim
open Go
set_option linter.unusedVariables false
set_option linter.unusedSimpArgs false

/-! ### ref31_plan_free: function 41 -/
def ref31_plan_free.l1 (p0 : ref31_plan) (m0_0 : Int) : Nat → Bool → Int → Option (Bool)
  | 0, _, _ => none
  | k24 + 1, m1_0, m1_1 => if decide (m1_1 < (p0.slots.length : Int)) = true then ((if m1_0 = true then (idx p0.slots m1_1).bind fun x42 => some ((x42.Worker != m0_0) || (decide (x42.End ≤ p0.now))) else some false).bind fun t93 => ref31_plan_free.l1 p0 m0_0 k24 t93 (wi (m1_1 + 1))) else (some m1_0)
def ref31_plan_free.l0 (p0 : ref31_plan) (p1 : Int) : Nat → Int → Option (Fl (Int) (Unit))
  | 0, _ => none
  | k8 + 1, m0_0 => if decide (m0_0 < p1) = true then (((ref31_plan_free.l1 p0 m0_0 FUEL true 0 : Option (Bool)).bind fun v19 => if v19 = true then (some (.out (.out m0_0))) else (some (.nxt ())) : Option (Fl (Fl (Int) (Unit)) (Unit))).bind fun o15 => o15.go fun _ => ref31_plan_free.l0 p0 p1 k8 (wi (m0_0 + 1))) else (some (.nxt ()))
def ref31_plan_free.f (p0 : ref31_plan) (p1 : Int) : Option (Int) := (ref31_plan_free.l0 p0 p1 FUEL 0 : Option (Fl (Int) (Unit))).bind fun o4 => o4.go fun _ => some (-1)
set_option maxRecDepth 100000 in
set_option maxHeartbeats 4000000 in
theorem ref31_plan_free.calls {p0 : ref31_plan} {c0 : Nat} {C_links_p0 : Nat → Prop} {b_p0 : Nat} {A_links_p0 : Option Addr} {cap_links_p0 : Nat} {A_slots_p0 : Option Addr} {cap_slots_p0 : Nat} {A_at_p0 : Option Addr} {cap_at_p0 : Nat} {p1 : Int} {w : World} {g : Nat → Nat} {out : Int} (N : Nat) (hp0 : ref31_plan_At w g c0 C_links_p0 b_p0 A_links_p0 cap_links_p0 A_slots_p0 cap_slots_p0 A_at_p0 cap_at_p0 p0) (hc0 : c0 + 5 ≤ N) (hC_links_p0 : ∀ c, C_links_p0 c → c < N ∧ (c < c0 ∨ c0 + 5 ≤ c)) (H : ref31_plan_free.f p0 p1 = some out) :
    Calls Try.prog 41 #[.pointer (some ⟨b_p0, 0, none⟩), .int .i64 p1] w (fun e w' => ∃ v, e = .returned v ∧ ∃ (g' : Nat → Nat), v = .int .i64 out ∧ Fr (fun q => N ≤ q) w g w' g') := by
  unfold ref31_plan_free.f at H
  refine calls_enter Try.func41 rfl Try.ntmps41 rfl (fun a hS => ?_)
  replace hS : Sl 52 a [(0, .pointer (some ⟨b_p0, 0, none⟩)), (1, .int .i64 p1)] := hS
  have hF : Fr (fun q => N ≤ q) w g w g := Fr.refl _ _ _
  obtain ⟨hb0, hf0_links, hf0_slots, hf0_at⟩ := hp0
  refine c_pure [(0, .pointer (some ⟨b_p0, 0, none⟩)), (1, .int .i64 p1)] (fun R hR => st_val hS rfl rfl rfl (r_assign hS rfl rfl) fun a1 hS1 => wpList_nil (hR _ (hS1.re ⟨rfl, rfl, trivial⟩))) ?_
  clear hS
  clear a
  intro a hS
  obtain ⟨o4, H, Hl5⟩ := bind_el H
  refine c_cut (fun a w2 => ∃ (g2 : Nat → Nat), o4 = .nxt () ∧ Sl 52 a [] ∧ Bx w2 g2 (c0) b_p0 80 [.slice A_links_p0 p0.links.length cap_links_p0, .slice A_slots_p0 p0.slots.length cap_slots_p0, .slice A_at_p0 p0.at_.length cap_at_p0, .int .u64 p0.now] ∧ OwS (kint .i64) 3 w2 g2 (c0 + 3) A_at_p0 cap_at_p0 p0.at_ ∧ RdS kd_api_Link w2 g2 C_links_p0 A_links_p0 cap_links_p0 p0.links ∧ OwS kd_api_Slot 38 w2 g2 (c0 + 1) A_slots_p0 cap_slots_p0 p0.slots ∧ Fr (fun q => N ≤ q) w g w2 g2) ?_ ?_
  · refine c_pure [(0, .pointer (some ⟨b_p0, 0, none⟩)), (1, .int .i64 p1), (5, .int .i64 0)] (fun R hR => st_val hS rfl rfl rfl (r_assign hS rfl rfl) fun a6 hS6 => wpList_nil (hR _ (hS6.re ⟨rfl, rfl, rfl, trivial⟩))) ?_
    clear hS
    clear a
    intro a hS
    refine wp_block ?_
    refine wp_loop_ghost (fun kq => fun a w7 => ∃ (m0_0 : Int), ∃ (g7 : Nat → Nat), ref31_plan_free.l0 p0 p1 kq m0_0 = some o4 ∧ Sl 52 a [(0, .pointer (some ⟨b_p0, 0, none⟩)), (1, .int .i64 p1), (5, .int .i64 m0_0)] ∧ Bx w7 g7 (c0) b_p0 80 [.slice A_links_p0 p0.links.length cap_links_p0, .slice A_slots_p0 p0.slots.length cap_slots_p0, .slice A_at_p0 p0.at_.length cap_at_p0, .int .u64 p0.now] ∧ OwS (kint .i64) 3 w7 g7 (c0 + 3) A_at_p0 cap_at_p0 p0.at_ ∧ RdS kd_api_Link w7 g7 C_links_p0 A_links_p0 cap_links_p0 p0.links ∧ OwS kd_api_Slot 38 w7 g7 (c0 + 1) A_slots_p0 cap_slots_p0 p0.slots ∧ Fr (fun q => N ≤ q) w g w7 g7) FUEL ?_ ?_
    · exact ⟨0, g, H, hS.re ⟨rfl, rfl, rfl, trivial⟩, hb0, hf0_at, hf0_links, hf0_slots, hF⟩
    · clear H
      clear hf0_links hf0_slots hf0_at hb0 hF
      clear hS
      rintro k8 a w7 ⟨m0_0, g7, hpre0, hS, hb0, hf0_at, hf0_links, hf0_slots, hF⟩
      have H := hpre0
      clear hpre0
      cases k8 with
      | zero => exact absurd H (by simp [ref31_plan_free.l0])
      | succ k8 =>
        rw [ref31_plan_free.l0] at H
        refine wp_seq ?_
        refine c_pure [(0, .pointer (some ⟨b_p0, 0, none⟩)), (1, .int .i64 p1), (5, .int .i64 m0_0), (10, .bool (decide (m0_0 < p1)))] (fun R hR => st_val hS rfl rfl rfl (r_move hS rfl rfl) fun a9 hS9 => st_val hS9 rfl rfl rfl (r_move hS9 rfl rfl) fun a10 hS10 => st_val hS10 rfl rfl rfl (r_bin hS10 rfl rfl rfl b_lss) fun a11 hS11 => wpList_nil (hR _ (hS11.re ⟨rfl, rfl, rfl, rfl, trivial⟩))) ?_
        clear hS
        clear a
        intro a hS
        refine c_cond hS rfl (fun hb12 => ?_) (fun hb12 => ?_)
        · replace H := ite_t hb12 H
          refine wp_skip ?_
          change Code.wp _ _ _ _ _
          obtain ⟨o15, H, Hl16⟩ := bind_el H
          refine c_cut (fun a w13 => ∃ (g13 : Nat → Nat), o15 = .nxt () ∧ Sl 52 a [(0, .pointer (some ⟨b_p0, 0, none⟩)), (1, .int .i64 p1), (5, .int .i64 m0_0)] ∧ Bx w13 g13 (c0) b_p0 80 [.slice A_links_p0 p0.links.length cap_links_p0, .slice A_slots_p0 p0.slots.length cap_slots_p0, .slice A_at_p0 p0.at_.length cap_at_p0, .int .u64 p0.now] ∧ OwS (kint .i64) 3 w13 g13 (c0 + 3) A_at_p0 cap_at_p0 p0.at_ ∧ RdS kd_api_Link w13 g13 C_links_p0 A_links_p0 cap_links_p0 p0.links ∧ OwS kd_api_Slot 38 w13 g13 (c0 + 1) A_slots_p0 cap_slots_p0 p0.slots ∧ Fr (fun q => N ≤ q) w g w13 g13) ?_ ?_
          · refine wp_block ?_
            refine c_pure [(0, .pointer (some ⟨b_p0, 0, none⟩)), (1, .int .i64 p1), (5, .int .i64 m0_0), (6, .bool true)] (fun R hR => st_val hS rfl rfl rfl (r_assign hS rfl rfl) fun a17 hS17 => wpList_nil (hR _ (hS17.re ⟨rfl, rfl, rfl, rfl, trivial⟩))) ?_
            clear hS
            clear a
            intro a hS
            obtain ⟨v19, H, Hl21⟩ := bind_el H
            refine c_cut (fun a w18 => ∃ (g18 : Nat → Nat), Sl 52 a [(0, .pointer (some ⟨b_p0, 0, none⟩)), (1, .int .i64 p1), (5, .int .i64 m0_0), (6, .bool v19)] ∧ Bx w18 g18 (c0) b_p0 80 [.slice A_links_p0 p0.links.length cap_links_p0, .slice A_slots_p0 p0.slots.length cap_slots_p0, .slice A_at_p0 p0.at_.length cap_at_p0, .int .u64 p0.now] ∧ OwS (kint .i64) 3 w18 g18 (c0 + 3) A_at_p0 cap_at_p0 p0.at_ ∧ RdS kd_api_Link w18 g18 C_links_p0 A_links_p0 cap_links_p0 p0.links ∧ OwS kd_api_Slot 38 w18 g18 (c0 + 1) A_slots_p0 cap_slots_p0 p0.slots ∧ Fr (fun q => N ≤ q) w g w18 g18) ?_ ?_
            · refine c_pure [(0, .pointer (some ⟨b_p0, 0, none⟩)), (1, .int .i64 p1), (5, .int .i64 m0_0), (6, .bool true), (7, .int .i64 0)] (fun R hR => st_val hS rfl rfl rfl (r_assign hS rfl rfl) fun a22 hS22 => wpList_nil (hR _ (hS22.re ⟨rfl, rfl, rfl, rfl, rfl, trivial⟩))) ?_
              clear hS
              clear a
              intro a hS
              refine wp_block ?_
              refine wp_loop_ghost (fun kq => fun a w23 => ∃ (m1_0 : Bool), ∃ (m1_1 : Int), ∃ (g23 : Nat → Nat), ref31_plan_free.l1 p0 m0_0 kq m1_0 m1_1 = some v19 ∧ Sl 52 a [(0, .pointer (some ⟨b_p0, 0, none⟩)), (1, .int .i64 p1), (5, .int .i64 m0_0), (6, .bool m1_0), (7, .int .i64 m1_1)] ∧ Bx w23 g23 (c0) b_p0 80 [.slice A_links_p0 p0.links.length cap_links_p0, .slice A_slots_p0 p0.slots.length cap_slots_p0, .slice A_at_p0 p0.at_.length cap_at_p0, .int .u64 p0.now] ∧ OwS (kint .i64) 3 w23 g23 (c0 + 3) A_at_p0 cap_at_p0 p0.at_ ∧ RdS kd_api_Link w23 g23 C_links_p0 A_links_p0 cap_links_p0 p0.links ∧ OwS kd_api_Slot 38 w23 g23 (c0 + 1) A_slots_p0 cap_slots_p0 p0.slots ∧ Fr (fun q => N ≤ q) w g w23 g23) FUEL ?_ ?_
              · exact ⟨true, 0, g7, H, hS.re ⟨rfl, rfl, rfl, rfl, rfl, trivial⟩, hb0, hf0_at, hf0_links, hf0_slots, hF⟩
              · clear H
                clear hf0_links hf0_slots hf0_at hb0 hF
                clear hS
                rintro k24 a w23 ⟨m1_0, m1_1, g23, hpre0, hS, hb0, hf0_at, hf0_links, hf0_slots, hF⟩
                have H := hpre0
                clear hpre0
                cases k24 with
                | zero => exact absurd H (by simp [ref31_plan_free.l1])
                | succ k24 =>
                  rw [ref31_plan_free.l1] at H
                  refine wp_seq ?_
                  refine c_pure [(0, .pointer (some ⟨b_p0, 0, none⟩)), (1, .int .i64 p1), (5, .int .i64 m0_0), (6, .bool m1_0), (7, .int .i64 m1_1), (19, .bool (decide (m1_1 < (p0.slots.length : Int))))] (fun R hR => st_val hS rfl rfl rfl (r_move hS rfl rfl) fun a25 hS25 => st_val hS25 rfl rfl rfl (r_move hS25 rfl rfl) fun a26 hS26 => st_val hS26 rfl rfl rfl (r_nil hS26 rfl rfl) fun a27 hS27 => st_val hS27 rfl rfl rfl (r_fieldB (off := 1) hS27 rfl rfl (by kernel_rfl)) fun a28 hS28 => st_val hS28 rfl rfl rfl (r_load1 (n := 1) hS28 rfl rfl (by kernel_rfl) (Bx.cell hb0 rfl)) fun a29 hS29 => st_val hS29 rfl rfl rfl (r_len (e := 38) (sz := 4) (by_ := 32) hS29 rfl rfl (by kernel_rfl)) fun a30 hS30 => st_val hS30 rfl rfl rfl (r_bin hS30 rfl rfl rfl b_lss) fun a31 hS31 => wpList_nil (hR _ (hS31.re ⟨rfl, rfl, rfl, rfl, rfl, rfl, trivial⟩))) ?_
                  clear hS
                  clear a
                  intro a hS
                  refine c_cond hS rfl (fun hb32 => ?_) (fun hb32 => ?_)
                  · replace H := ite_t hb32 H
                    refine wp_skip ?_
                    change Code.wp _ _ _ _ _
                    refine wp_seq ?_
                    refine wp_block ?_
                    obtain ⟨t93, ht94, H⟩ := bind_el H
                    refine c_draw1 (fun K hK => d_start (fun q => False) g23 [] 29 #[false, false, false, false, false, false, false, false, false, false, false, false, false, false, false, false, false, false, false, false, false, false, false, false, false, false, false, false, false] (by kernel_rfl) rfl rfl (fun w33 hw33 => ?_))
                    have F33 : Fr (fun _ => False) w23 g23 w33 g23 := by rw [hw33]; exact Fr.drew _ _ _
                    replace hb0 := hb0.fr F33 (fun h => h)
                    replace hf0_at := OwS.fr hf0_at F33 (fun _ _ h => h)
                    replace hf0_links := RdS.fr hf0_links F33 (by decide) (fun _ _ h => h)
                    replace hf0_slots := OwS.fr hf0_slots F33 (fun _ _ h => h)
                    replace hF := hF.trans F33 (fun _ h => h.elim)
                    have hC : Fr (fun q => False) w33 g23 w33 g23 := Fr.refl _ _ _
                    refine d_pure hS 0 #[true, false, false, false, false, false, false, false, false, false, false, false, false, false, false, false, false, false, false, false, false, false, false, false, false, false, false, false, false] rfl rfl rfl rfl (by kernel_rfl) (fun _ _ _ h => h) (fun _ => (r_move hS rfl rfl)) fun a34 hS34 => d_pure hS34 1 #[true, true, false, false, false, false, false, false, false, false, false, false, false, false, false, false, false, false, false, false, false, false, false, false, false, false, false, false, false] rfl rfl rfl rfl (by kernel_rfl) (fun _ _ _ h => h) (fun _ => (r_move hS34 rfl rfl)) fun a35 hS35 => ?_
                    refine d_join (N := 52) 1 #[true, true, true, true, true, true, true, true, true, true, true, true, true, true, true, true, true, true, true, true, true, true, true, true, true, true, true, true, false] [(0, .pointer (some ⟨b_p0, 0, none⟩)), (1, .int .i64 p1), (5, .int .i64 m0_0), (6, .bool m1_0), (7, .int .i64 m1_1), (49, .bool t93)] ?_ (fun hk => ?_)
                    rotate_left
                    · rcases Bool.eq_false_or_eq_true (m1_0) with hb36 | hb36
                      · have H := ite_t hb36 ht94
                        obtain ⟨x100, hx101, H⟩ := bind_el H
                        have e151 := Option.some.inj H
                        refine d_pureW hS35 2 #[true, true, true, false, false, false, false, false, false, false, false, false, false, false, false, false, false, false, false, false, false, false, false, false, false, false, false, false, false] rfl (want_on hS35 rfl rfl rfl hb36) rfl rfl (by kernel_rfl) (fun _ _ _ h => h) (fun _ => (r_move hS35 rfl rfl)) fun a95 hS95 => d_pureW hS95 3 #[true, true, true, true, false, false, false, false, false, false, false, false, false, false, false, false, false, false, false, false, false, false, false, false, false, false, false, false, false] rfl (want_on hS95 rfl rfl rfl hb36) rfl rfl (by kernel_rfl) (fun _ _ _ h => h) (fun _ => (r_nil hS95 rfl rfl)) fun a96 hS96 => d_pureW hS96 4 #[true, true, true, true, true, false, false, false, false, false, false, false, false, false, false, false, false, false, false, false, false, false, false, false, false, false, false, false, false] rfl (want_on hS96 rfl rfl rfl hb36) rfl rfl (by kernel_rfl) (fun _ _ _ h => h) (fun _ => (r_fieldB (off := 1) hS96 rfl rfl (by kernel_rfl))) fun a97 hS97 => d_takeW hS97 5 #[true, true, true, true, true, true, false, false, false, false, false, false, false, false, false, false, false, false, false, false, false, false, false, false, false, false, false, false, false] rfl (want_on hS97 rfl rfl rfl hb36) rfl rfl (by kernel_rfl) (fun _ _ _ h => h) ⟨_, hC⟩ (fun w' g' Fz => (r_load1 (n := 1) hS97 rfl rfl (by kernel_rfl) (Bx.cell (hb0.fr Fz (fun h => h)) rfl))) fun a98 hS98 => d_pureW hS98 6 #[true, true, true, true, true, true, true, false, false, false, false, false, false, false, false, false, false, false, false, false, false, false, false, false, false, false, false, false, false] rfl (want_on hS98 rfl rfl rfl hb36) rfl rfl (by kernel_rfl) (fun _ _ _ h => h) (fun _ => (r_move hS98 rfl rfl)) fun a99 hS99 => d_pureW hS99 7 #[true, true, true, true, true, true, true, true, false, false, false, false, false, false, false, false, false, false, false, false, false, false, false, false, false, false, false, false, false] rfl (want_on hS99 rfl rfl rfl hb36) rfl rfl (by kernel_rfl) (fun _ _ _ h => h) (fun _ => (r_index (e := 38) (sz := 4) (by_ := 32) hS99 rfl rfl rfl (by kernel_rfl) (RdS.some_ (OwS.rd hf0_slots) hx101) (idx_lo hx101) (idx_hi hx101))) fun a102 hS102 => d_pureW hS102 8 #[true, true, true, true, true, true, true, true, true, false, false, false, false, false, false, false, false, false, false, false, false, false, false, false, false, false, false, false, false] rfl (want_on hS102 rfl rfl rfl hb36) rfl rfl (by kernel_rfl) (fun _ _ _ h => h) (fun _ => (r_fieldE (off := 1) hS102 rfl rfl (by kernel_rfl))) fun a103 hS103 => d_takeW hS103 9 #[true, true, true, true, true, true, true, true, true, true, false, false, false, false, false, false, false, false, false, false, false, false, false, false, false, false, false, false, false] rfl (want_on hS103 rfl rfl rfl hb36) rfl rfl (by kernel_rfl) (fun _ _ _ h => h) ⟨_, hC⟩ (fun w' g' Fz => (r_load1 (n := 1) hS103 rfl rfl (by kernel_rfl) (RdS.cell (i := m1_1) (sz := 4) (j := 1) (OwS.rd (OwS.fr hf0_slots Fz (fun _ _ h => h))) hx101 rfl))) fun a104 hS104 => d_pureW hS104 10 #[true, true, true, true, true, true, true, true, true, true, true, false, false, false, false, false, false, false, false, false, false, false, false, false, false, false, false, false, false] rfl (want_on hS104 rfl rfl rfl hb36) rfl rfl (by kernel_rfl) (fun _ _ _ h => h) (fun _ => (r_move hS104 rfl rfl)) fun a105 hS105 => d_pureW hS105 11 #[true, true, true, true, true, true, true, true, true, true, true, true, false, false, false, false, false, false, false, false, false, false, false, false, false, false, false, false, false] rfl (want_on hS105 rfl rfl rfl hb36) rfl rfl (by kernel_rfl) (fun _ _ _ h => h) (fun _ => (r_bin hS105 rfl rfl rfl b_neq)) fun a106 hS106 => d_pureW hS106 12 #[true, true, true, true, true, true, true, true, true, true, true, true, true, false, false, false, false, false, false, false, false, false, false, false, false, false, false, false, false] rfl (want_on hS106 rfl rfl rfl hb36) rfl rfl (by kernel_rfl) (fun _ _ _ h => h) (fun _ => (r_move hS106 rfl rfl)) fun a107 hS107 => ?_
                        refine d_join (N := 52) 2 #[true, true, true, true, true, true, true, true, true, true, true, true, true, true, true, true, true, true, true, true, true, true, true, true, true, true, true, false, false] [(0, .pointer (some ⟨b_p0, 0, none⟩)), (1, .int .i64 p1), (5, .int .i64 m0_0), (6, .bool m1_0), (7, .int .i64 m1_1), (23, .bool m1_0), (24, .pointer (some ⟨b_p0, 0, none⟩)), (25, .pointer (some ⟨b_p0, 0, none⟩)), (26, .pointer (some ⟨b_p0, 1, none⟩)), (27, .slice A_slots_p0 p0.slots.length cap_slots_p0), (28, .int .i64 m1_1), (29, .pointer (some (ea A_slots_p0 (m1_1.toNat * 4)))), (30, .pointer (some (ea A_slots_p0 (m1_1.toNat * 4 + 1)))), (31, .int .i64 x100.Worker), (32, .int .i64 m0_0), (33, .bool (x100.Worker != m0_0)), (34, .bool (x100.Worker != m0_0)), (48, .bool ((x100.Worker != m0_0) || (decide (x100.End ≤ p0.now))))] ?_ (fun hk => ?_)
                        rotate_left
                        · rcases Bool.eq_false_or_eq_true ((x100.Worker != m0_0)) with hb108 | hb108
                          · refine d_off hS107 13 #[true, true, true, true, true, true, true, true, true, true, true, true, true, true, false, false, false, false, false, false, false, false, false, false, false, false, false, false, false] rfl (want_off hS107 rfl rfl rfl hb108) rfl rfl (by kernel_rfl) (fun _ _ _ h => h) fun a122 hS122 => d_off hS122 14 #[true, true, true, true, true, true, true, true, true, true, true, true, true, true, true, false, false, false, false, false, false, false, false, false, false, false, false, false, false] rfl (want_off hS122 rfl rfl rfl hb108) rfl rfl (by kernel_rfl) (fun _ _ _ h => h) fun a123 hS123 => d_off hS123 15 #[true, true, true, true, true, true, true, true, true, true, true, true, true, true, true, true, false, false, false, false, false, false, false, false, false, false, false, false, false] rfl (want_off hS123 rfl rfl rfl hb108) rfl rfl (by kernel_rfl) (fun _ _ _ h => h) fun a124 hS124 => d_off hS124 16 #[true, true, true, true, true, true, true, true, true, true, true, true, true, true, true, true, true, false, false, false, false, false, false, false, false, false, false, false, false] rfl (want_off hS124 rfl rfl rfl hb108) rfl rfl (by kernel_rfl) (fun _ _ _ h => h) fun a125 hS125 => d_off hS125 17 #[true, true, true, true, true, true, true, true, true, true, true, true, true, true, true, true, true, true, false, false, false, false, false, false, false, false, false, false, false] rfl (want_off hS125 rfl rfl rfl hb108) rfl rfl (by kernel_rfl) (fun _ _ _ h => h) fun a126 hS126 => d_off hS126 18 #[true, true, true, true, true, true, true, true, true, true, true, true, true, true, true, true, true, true, true, false, false, false, false, false, false, false, false, false, false] rfl (want_off hS126 rfl rfl rfl hb108) rfl rfl (by kernel_rfl) (fun _ _ _ h => h) fun a127 hS127 => d_off hS127 19 #[true, true, true, true, true, true, true, true, true, true, true, true, true, true, true, true, true, true, true, true, false, false, false, false, false, false, false, false, false] rfl (want_off hS127 rfl rfl rfl hb108) rfl rfl (by kernel_rfl) (fun _ _ _ h => h) fun a128 hS128 => d_off hS128 20 #[true, true, true, true, true, true, true, true, true, true, true, true, true, true, true, true, true, true, true, true, true, false, false, false, false, false, false, false, false] rfl (want_off hS128 rfl rfl rfl hb108) rfl rfl (by kernel_rfl) (fun _ _ _ h => h) fun a129 hS129 => d_off hS129 21 #[true, true, true, true, true, true, true, true, true, true, true, true, true, true, true, true, true, true, true, true, true, true, false, false, false, false, false, false, false] rfl (want_off hS129 rfl rfl rfl hb108) rfl rfl (by kernel_rfl) (fun _ _ _ h => h) fun a130 hS130 => d_off hS130 22 #[true, true, true, true, true, true, true, true, true, true, true, true, true, true, true, true, true, true, true, true, true, true, true, false, false, false, false, false, false] rfl (want_off hS130 rfl rfl rfl hb108) rfl rfl (by kernel_rfl) (fun _ _ _ h => h) fun a131 hS131 => d_off hS131 23 #[true, true, true, true, true, true, true, true, true, true, true, true, true, true, true, true, true, true, true, true, true, true, true, true, false, false, false, false, false] rfl (want_off hS131 rfl rfl rfl hb108) rfl rfl (by kernel_rfl) (fun _ _ _ h => h) fun a132 hS132 => d_off hS132 24 #[true, true, true, true, true, true, true, true, true, true, true, true, true, true, true, true, true, true, true, true, true, true, true, true, true, false, false, false, false] rfl (want_off hS132 rfl rfl rfl hb108) rfl rfl (by kernel_rfl) (fun _ _ _ h => h) fun a133 hS133 => d_off hS133 25 #[true, true, true, true, true, true, true, true, true, true, true, true, true, true, true, true, true, true, true, true, true, true, true, true, true, true, false, false, false] rfl (want_off hS133 rfl rfl rfl hb108) rfl rfl (by kernel_rfl) (fun _ _ _ h => h) fun a134 hS134 => d_pureW hS134 26 #[true, true, true, true, true, true, true, true, true, true, true, true, true, true, true, true, true, true, true, true, true, true, true, true, true, true, true, false, false] rfl (want_on hS134 rfl rfl rfl hb36) rfl rfl (by kernel_rfl) (fun _ _ _ h => h) (fun _ => (r_pickT hS134 rfl rfl rfl hb108)) fun a135 hS135 => hk _ (hS135.re ⟨rfl, rfl, rfl, rfl, rfl, rfl, rfl, rfl, rfl, rfl, rfl, rfl, rfl, rfl, rfl, rfl, rfl, (by rw [hb108]; rfl), trivial⟩)
                          · refine d_pureW hS107 13 #[true, true, true, true, true, true, true, true, true, true, true, true, true, true, false, false, false, false, false, false, false, false, false, false, false, false, false, false, false] rfl (want_on hS107 rfl rfl rfl hb108) rfl rfl (by kernel_rfl) (fun _ _ _ h => h) (fun _ => (r_move hS107 rfl rfl)) fun a136 hS136 => d_pureW hS136 14 #[true, true, true, true, true, true, true, true, true, true, true, true, true, true, true, false, false, false, false, false, false, false, false, false, false, false, false, false, false] rfl (want_on hS136 rfl rfl rfl hb108) rfl rfl (by kernel_rfl) (fun _ _ _ h => h) (fun _ => (r_nil hS136 rfl rfl)) fun a137 hS137 => d_pureW hS137 15 #[true, true, true, true, true, true, true, true, true, true, true, true, true, true, true, true, false, false, false, false, false, false, false, false, false, false, false, false, false] rfl (want_on hS137 rfl rfl rfl hb108) rfl rfl (by kernel_rfl) (fun _ _ _ h => h) (fun _ => (r_fieldB (off := 1) hS137 rfl rfl (by kernel_rfl))) fun a138 hS138 => d_takeW hS138 16 #[true, true, true, true, true, true, true, true, true, true, true, true, true, true, true, true, true, false, false, false, false, false, false, false, false, false, false, false, false] rfl (want_on hS138 rfl rfl rfl hb108) rfl rfl (by kernel_rfl) (fun _ _ _ h => h) ⟨_, hC⟩ (fun w' g' Fz => (r_load1 (n := 1) hS138 rfl rfl (by kernel_rfl) (Bx.cell (hb0.fr Fz (fun h => h)) rfl))) fun a139 hS139 => d_pureW hS139 17 #[true, true, true, true, true, true, true, true, true, true, true, true, true, true, true, true, true, true, false, false, false, false, false, false, false, false, false, false, false] rfl (want_on hS139 rfl rfl rfl hb108) rfl rfl (by kernel_rfl) (fun _ _ _ h => h) (fun _ => (r_move hS139 rfl rfl)) fun a140 hS140 => d_pureW hS140 18 #[true, true, true, true, true, true, true, true, true, true, true, true, true, true, true, true, true, true, true, false, false, false, false, false, false, false, false, false, false] rfl (want_on hS140 rfl rfl rfl hb108) rfl rfl (by kernel_rfl) (fun _ _ _ h => h) (fun _ => (r_index (e := 38) (sz := 4) (by_ := 32) hS140 rfl rfl rfl (by kernel_rfl) (RdS.some_ (OwS.rd hf0_slots) hx101) (idx_lo hx101) (idx_hi hx101))) fun a141 hS141 => d_pureW hS141 19 #[true, true, true, true, true, true, true, true, true, true, true, true, true, true, true, true, true, true, true, true, false, false, false, false, false, false, false, false, false] rfl (want_on hS141 rfl rfl rfl hb108) rfl rfl (by kernel_rfl) (fun _ _ _ h => h) (fun _ => (r_fieldE (off := 3) hS141 rfl rfl (by kernel_rfl))) fun a142 hS142 => d_takeW hS142 20 #[true, true, true, true, true, true, true, true, true, true, true, true, true, true, true, true, true, true, true, true, true, false, false, false, false, false, false, false, false] rfl (want_on hS142 rfl rfl rfl hb108) rfl rfl (by kernel_rfl) (fun _ _ _ h => h) ⟨_, hC⟩ (fun w' g' Fz => (r_load1 (n := 1) hS142 rfl rfl (by kernel_rfl) (RdS.cell (i := m1_1) (sz := 4) (j := 3) (OwS.rd (OwS.fr hf0_slots Fz (fun _ _ h => h))) hx101 rfl))) fun a143 hS143 => d_pureW hS143 21 #[true, true, true, true, true, true, true, true, true, true, true, true, true, true, true, true, true, true, true, true, true, true, false, false, false, false, false, false, false] rfl (want_on hS143 rfl rfl rfl hb108) rfl rfl (by kernel_rfl) (fun _ _ _ h => h) (fun _ => (r_move hS143 rfl rfl)) fun a144 hS144 => d_pureW hS144 22 #[true, true, true, true, true, true, true, true, true, true, true, true, true, true, true, true, true, true, true, true, true, true, true, false, false, false, false, false, false] rfl (want_on hS144 rfl rfl rfl hb108) rfl rfl (by kernel_rfl) (fun _ _ _ h => h) (fun _ => (r_nil hS144 rfl rfl)) fun a145 hS145 => d_pureW hS145 23 #[true, true, true, true, true, true, true, true, true, true, true, true, true, true, true, true, true, true, true, true, true, true, true, true, false, false, false, false, false] rfl (want_on hS145 rfl rfl rfl hb108) rfl rfl (by kernel_rfl) (fun _ _ _ h => h) (fun _ => (r_fieldB (off := 3) hS145 rfl rfl (by kernel_rfl))) fun a146 hS146 => d_takeW hS146 24 #[true, true, true, true, true, true, true, true, true, true, true, true, true, true, true, true, true, true, true, true, true, true, true, true, true, false, false, false, false] rfl (want_on hS146 rfl rfl rfl hb108) rfl rfl (by kernel_rfl) (fun _ _ _ h => h) ⟨_, hC⟩ (fun w' g' Fz => (r_load1 (n := 1) hS146 rfl rfl (by kernel_rfl) (Bx.cell (hb0.fr Fz (fun h => h)) rfl))) fun a147 hS147 => d_pureW hS147 25 #[true, true, true, true, true, true, true, true, true, true, true, true, true, true, true, true, true, true, true, true, true, true, true, true, true, true, false, false, false] rfl (want_on hS147 rfl rfl rfl hb108) rfl rfl (by kernel_rfl) (fun _ _ _ h => h) (fun _ => (r_bin hS147 rfl rfl rfl b_leq)) fun a148 hS148 => d_pureW hS148 26 #[true, true, true, true, true, true, true, true, true, true, true, true, true, true, true, true, true, true, true, true, true, true, true, true, true, true, true, false, false] rfl (want_on hS148 rfl rfl rfl hb36) rfl rfl (by kernel_rfl) (fun _ _ _ h => h) (fun _ => (r_pickF hS148 rfl rfl rfl hb108)) fun a149 hS149 => hk _ (hS149.re ⟨rfl, rfl, rfl, rfl, rfl, rfl, rfl, rfl, rfl, rfl, rfl, rfl, rfl, rfl, rfl, rfl, rfl, (by rw [hb108]; rfl), trivial⟩)
                        intro a150 hS150
                        refine d_pure hS150 27 #[true, true, true, true, true, true, true, true, true, true, true, true, true, true, true, true, true, true, true, true, true, true, true, true, true, true, true, true, false] rfl rfl rfl rfl (by kernel_rfl) (fun _ _ _ h => h) (fun _ => (r_pickT hS150 rfl rfl rfl hb36)) fun a152 hS152 => hk _ (hS152.re ⟨rfl, rfl, rfl, rfl, rfl, (by rw [← e151]; rfl), trivial⟩)
                      · have H := ite_f hb36 ht94
                        have e153 := Option.some.inj H
                        refine d_off hS35 2 #[true, true, true, false, false, false, false, false, false, false, false, false, false, false, false, false, false, false, false, false, false, false, false, false, false, false, false, false, false] rfl (want_off hS35 rfl rfl rfl hb36) rfl rfl (by kernel_rfl) (fun _ _ _ h => h) fun a154 hS154 => d_off hS154 3 #[true, true, true, true, false, false, false, false, false, false, false, false, false, false, false, false, false, false, false, false, false, false, false, false, false, false, false, false, false] rfl (want_off hS154 rfl rfl rfl hb36) rfl rfl (by kernel_rfl) (fun _ _ _ h => h) fun a155 hS155 => d_off hS155 4 #[true, true, true, true, true, false, false, false, false, false, false, false, false, false, false, false, false, false, false, false, false, false, false, false, false, false, false, false, false] rfl (want_off hS155 rfl rfl rfl hb36) rfl rfl (by kernel_rfl) (fun _ _ _ h => h) fun a156 hS156 => d_off hS156 5 #[true, true, true, true, true, true, false, false, false, false, false, false, false, false, false, false, false, false, false, false, false, false, false, false, false, false, false, false, false] rfl (want_off hS156 rfl rfl rfl hb36) rfl rfl (by kernel_rfl) (fun _ _ _ h => h) fun a157 hS157 => d_off hS157 6 #[true, true, true, true, true, true, true, false, false, false, false, false, false, false, false, false, false, false, false, false, false, false, false, false, false, false, false, false, false] rfl (want_off hS157 rfl rfl rfl hb36) rfl rfl (by kernel_rfl) (fun _ _ _ h => h) fun a158 hS158 => d_off hS158 7 #[true, true, true, true, true, true, true, true, false, false, false, false, false, false, false, false, false, false, false, false, false, false, false, false, false, false, false, false, false] rfl (want_off hS158 rfl rfl rfl hb36) rfl rfl (by kernel_rfl) (fun _ _ _ h => h) fun a159 hS159 => d_off hS159 8 #[true, true, true, true, true, true, true, true, true, false, false, false, false, false, false, false, false, false, false, false, false, false, false, false, false, false, false, false, false] rfl (want_off hS159 rfl rfl rfl hb36) rfl rfl (by kernel_rfl) (fun _ _ _ h => h) fun a160 hS160 => d_off hS160 9 #[true, true, true, true, true, true, true, true, true, true, false, false, false, false, false, false, false, false, false, false, false, false, false, false, false, false, false, false, false] rfl (want_off hS160 rfl rfl rfl hb36) rfl rfl (by kernel_rfl) (fun _ _ _ h => h) fun a161 hS161 => d_off hS161 10 #[true, true, true, true, true, true, true, true, true, true, true, false, false, false, false, false, false, false, false, false, false, false, false, false, false, false, false, false, false] rfl (want_off hS161 rfl rfl rfl hb36) rfl rfl (by kernel_rfl) (fun _ _ _ h => h) fun a162 hS162 => d_off hS162 11 #[true, true, true, true, true, true, true, true, true, true, true, true, false, false, false, false, false, false, false, false, false, false, false, false, false, false, false, false, false] rfl (want_off hS162 rfl rfl rfl hb36) rfl rfl (by kernel_rfl) (fun _ _ _ h => h) fun a163 hS163 => d_off hS163 12 #[true, true, true, true, true, true, true, true, true, true, true, true, true, false, false, false, false, false, false, false, false, false, false, false, false, false, false, false, false] rfl (want_off hS163 rfl rfl rfl hb36) rfl rfl (by kernel_rfl) (fun _ _ _ h => h) fun a164 hS164 => d_off hS164 13 #[true, true, true, true, true, true, true, true, true, true, true, true, true, true, false, false, false, false, false, false, false, false, false, false, false, false, false, false, false] rfl (want_un hS164 rfl rfl rfl) rfl rfl (by kernel_rfl) (fun _ _ _ h => h) fun a165 hS165 => d_off hS165 14 #[true, true, true, true, true, true, true, true, true, true, true, true, true, true, true, false, false, false, false, false, false, false, false, false, false, false, false, false, false] rfl (want_un hS165 rfl rfl rfl) rfl rfl (by kernel_rfl) (fun _ _ _ h => h) fun a166 hS166 => d_off hS166 15 #[true, true, true, true, true, true, true, true, true, true, true, true, true, true, true, true, false, false, false, false, false, false, false, false, false, false, false, false, false] rfl (want_un hS166 rfl rfl rfl) rfl rfl (by kernel_rfl) (fun _ _ _ h => h) fun a167 hS167 => d_off hS167 16 #[true, true, true, true, true, true, true, true, true, true, true, true, true, true, true, true, true, false, false, false, false, false, false, false, false, false, false, false, false] rfl (want_un hS167 rfl rfl rfl) rfl rfl (by kernel_rfl) (fun _ _ _ h => h) fun a168 hS168 => d_off hS168 17 #[true, true, true, true, true, true, true, true, true, true, true, true, true, true, true, true, true, true, false, false, false, false, false, false, false, false, false, false, false] rfl (want_un hS168 rfl rfl rfl) rfl rfl (by kernel_rfl) (fun _ _ _ h => h) fun a169 hS169 => d_off hS169 18 #[true, true, true, true, true, true, true, true, true, true, true, true, true, true, true, true, true, true, true, false, false, false, false, false, false, false, false, false, false] rfl (want_un hS169 rfl rfl rfl) rfl rfl (by kernel_rfl) (fun _ _ _ h => h) fun a170 hS170 => d_off hS170 19 #[true, true, true, true, true, true, true, true, true, true, true, true, true, true, true, true, true, true, true, true, false, false, false, false, false, false, false, false, false] rfl (want_un hS170 rfl rfl rfl) rfl rfl (by kernel_rfl) (fun _ _ _ h => h) fun a171 hS171 => d_off hS171 20 #[true, true, true, true, true, true, true, true, true, true, true, true, true, true, true, true, true, true, true, true, true, false, false, false, false, false, false, false, false] rfl (want_un hS171 rfl rfl rfl) rfl rfl (by kernel_rfl) (fun _ _ _ h => h) fun a172 hS172 => d_off hS172 21 #[true, true, true, true, true, true, true, true, true, true, true, true, true, true, true, true, true, true, true, true, true, true, false, false, false, false, false, false, false] rfl (want_un hS172 rfl rfl rfl) rfl rfl (by kernel_rfl) (fun _ _ _ h => h) fun a173 hS173 => d_off hS173 22 #[true, true, true, true, true, true, true, true, true, true, true, true, true, true, true, true, true, true, true, true, true, true, true, false, false, false, false, false, false] rfl (want_un hS173 rfl rfl rfl) rfl rfl (by kernel_rfl) (fun _ _ _ h => h) fun a174 hS174 => d_off hS174 23 #[true, true, true, true, true, true, true, true, true, true, true, true, true, true, true, true, true, true, true, true, true, true, true, true, false, false, false, false, false] rfl (want_un hS174 rfl rfl rfl) rfl rfl (by kernel_rfl) (fun _ _ _ h => h) fun a175 hS175 => d_off hS175 24 #[true, true, true, true, true, true, true, true, true, true, true, true, true, true, true, true, true, true, true, true, true, true, true, true, true, false, false, false, false] rfl (want_un hS175 rfl rfl rfl) rfl rfl (by kernel_rfl) (fun _ _ _ h => h) fun a176 hS176 => d_off hS176 25 #[true, true, true, true, true, true, true, true, true, true, true, true, true, true, true, true, true, true, true, true, true, true, true, true, true, true, false, false, false] rfl (want_un hS176 rfl rfl rfl) rfl rfl (by kernel_rfl) (fun _ _ _ h => h) fun a177 hS177 => d_off hS177 26 #[true, true, true, true, true, true, true, true, true, true, true, true, true, true, true, true, true, true, true, true, true, true, true, true, true, true, true, false, false] rfl (want_off hS177 rfl rfl rfl hb36) rfl rfl (by kernel_rfl) (fun _ _ _ h => h) fun a178 hS178 => d_pure hS178 27 #[true, true, true, true, true, true, true, true, true, true, true, true, true, true, true, true, true, true, true, true, true, true, true, true, true, true, true, true, false] rfl rfl rfl rfl (by kernel_rfl) (fun _ _ _ h => h) (fun _ => (r_pickF hS178 rfl rfl rfl hb36)) fun a179 hS179 => hk _ (hS179.re ⟨rfl, rfl, rfl, rfl, rfl, (by rw [← e153]; rfl), trivial⟩)
                    intro a180 hS180
                    refine d_pure hS180 28 #[true, true, true, true, true, true, true, true, true, true, true, true, true, true, true, true, true, true, true, true, true, true, true, true, true, true, true, true, true] rfl rfl rfl rfl (by kernel_rfl) (fun _ _ _ h => h) (fun _ => (r_assign hS180 rfl rfl)) fun a181 hS181 => d_done (by kernel_rfl) (hK _ _ ?_)
                    replace hS : Sl 52 _ [(0, .pointer (some ⟨b_p0, 0, none⟩)), (1, .int .i64 p1), (5, .int .i64 m0_0), (6, .bool t93), (7, .int .i64 m1_1)] := hS181.re ⟨rfl, rfl, rfl, rfl, rfl, trivial⟩
                    clear hK K hC
                    try clear hS34 hS35 hS180 hS181
                    obtain ⟨a, ha⟩ : ∃ a', a' = a181 := ⟨_, rfl⟩
                    rw [← ha] at hS ⊢; clear ha
                    change Code.wp _ _ _ _ _
                    refine c_pure1 [(0, .pointer (some ⟨b_p0, 0, none⟩)), (1, .int .i64 p1), (5, .int .i64 m0_0), (6, .bool t93), (7, .int .i64 (wi (m1_1 + 1)))] (fun R hR => st_val hS rfl rfl rfl (r_move hS rfl rfl) fun a182 hS182 => st_val hS182 rfl rfl rfl (r_bin hS182 rfl rfl rfl b_add) fun a183 hS183 => st_val hS183 rfl rfl rfl (r_assign hS183 rfl rfl) fun a184 hS184 => wpList_nil (hR _ (hS184.re ⟨rfl, rfl, rfl, rfl, rfl, trivial⟩))) ?_
                    clear hS
                    clear a
                    intro a hS
                    refine ⟨k24, Nat.lt_succ_self _, ?_⟩
                    exact ⟨t93, wi (m1_1 + 1), g23, H, hS.re ⟨rfl, rfl, rfl, rfl, rfl, trivial⟩, hb0, hf0_at, hf0_links, hf0_slots, hF⟩
                  · replace H := ite_f hb32 H
                    refine wp_exit ?_
                    have e := Option.some.inj H
                    subst e
                    exact ⟨g23, hS.re ⟨rfl, rfl, rfl, rfl, trivial⟩, hb0, hf0_at, hf0_links, hf0_slots, hF⟩
            · clear H
              clear hf0_links hf0_slots hf0_at hb0 hF
              clear hS
              rintro a w18 ⟨g18, hS, hb0, hf0_at, hf0_links, hf0_slots, hF⟩
              have H := Hl21
              clear Hl21
              refine c_pure [(0, .pointer (some ⟨b_p0, 0, none⟩)), (1, .int .i64 p1), (5, .int .i64 m0_0), (50, .bool v19)] (fun R hR => st_val hS rfl rfl rfl (r_move hS rfl rfl) fun a185 hS185 => wpList_nil (hR _ (hS185.re ⟨rfl, rfl, rfl, rfl, trivial⟩))) ?_
              clear hS
              clear a
              intro a hS
              refine c_cond hS rfl (fun hb186 => ?_) (fun hb186 => ?_)
              · replace H := ite_t hb186 H
                refine c_pure [(4, .int .i64 m0_0)] (fun R hR => st_val hS rfl rfl rfl (r_move hS rfl rfl) fun a187 hS187 => st_val hS187 rfl rfl rfl (r_assign hS187 rfl rfl) fun a188 hS188 => wpList_nil (hR _ (hS188.re ⟨rfl, trivial⟩))) ?_
                clear hS
                clear a
                intro a hS
                refine wp_ret ?_
                have e := Option.some.inj H
                subst e
                replace H := Fl.go_out Hl16
                have e := Option.some.inj H
                subst e
                replace H := Fl.go_out Hl5
                have e := Option.some.inj H
                subst e
                repeat (with_reducible first | refine then_ret ?_ | refine inBlock_ret ?_)
                exact c_ret1 hS Try.results41 rfl ⟨_, rfl, g18, rfl, hF⟩
              · replace H := ite_f hb186 H
                refine wp_skip ?_
                have e := Option.some.inj H
                exact ⟨g18, e.symm, hS.re ⟨rfl, rfl, rfl, trivial⟩, hb0, hf0_at, hf0_links, hf0_slots, hF⟩
          · clear H
            clear hf0_links hf0_slots hf0_at hb0 hF
            clear hS
            rintro a w13 ⟨g13, hpre0, hS, hb0, hf0_at, hf0_links, hf0_slots, hF⟩
            subst hpre0
            have H := Fl.go_nxt Hl16
            clear Hl16
            refine c_pure1 [(0, .pointer (some ⟨b_p0, 0, none⟩)), (1, .int .i64 p1), (5, .int .i64 (wi (m0_0 + 1)))] (fun R hR => st_val hS rfl rfl rfl (r_move hS rfl rfl) fun a189 hS189 => st_val hS189 rfl rfl rfl (r_bin hS189 rfl rfl rfl b_add) fun a190 hS190 => st_val hS190 rfl rfl rfl (r_assign hS190 rfl rfl) fun a191 hS191 => wpList_nil (hR _ (hS191.re ⟨rfl, rfl, rfl, trivial⟩))) ?_
            clear hS
            clear a
            intro a hS
            refine ⟨k8, Nat.lt_succ_self _, ?_⟩
            exact ⟨wi (m0_0 + 1), g13, H, hS.re ⟨rfl, rfl, rfl, trivial⟩, hb0, hf0_at, hf0_links, hf0_slots, hF⟩
        · replace H := ite_f hb12 H
          refine wp_exit ?_
          have e := Option.some.inj H
          exact ⟨g7, e.symm, hS.re trivial, hb0, hf0_at, hf0_links, hf0_slots, hF⟩
  · clear H
    clear hf0_links hf0_slots hf0_at hb0 hF
    clear hS
    rintro a w2 ⟨g2, hpre0, hS, hb0, hf0_at, hf0_links, hf0_slots, hF⟩
    subst hpre0
    have H := Fl.go_nxt Hl5
    clear Hl5
    refine c_pure [(4, .int .i64 (-1))] (fun R hR => st_val hS rfl rfl rfl (r_assign hS rfl rfl) fun a192 hS192 => wpList_nil (hR _ (hS192.re ⟨rfl, trivial⟩))) ?_
    clear hS
    clear a
    intro a hS
    refine wp_ret ?_
    have e := Option.some.inj H
    subst e
    repeat (with_reducible first | refine then_ret ?_ | refine inBlock_ret ?_)
    exact c_ret1 hS Try.results41 rfl ⟨_, rfl, g2, rfl, hF⟩


end Go.Proofs.Ythmjgadmadlpkaa.Sim

namespace Go.Proofs.Ythmjgadmadlpkaa.Sim
open Go
set_option linter.unusedVariables false
set_option linter.unusedSimpArgs false

/-! ### ref31_plan_ended: function 76 -/
def ref31_plan_ended.f (p0 : ref31_plan) (p1 : Int) : Option (Bool) := (idx p0.at_ p1).bind fun x8 => (if decide (0 ≤ x8) = true then (idx p0.slots x8).bind fun x26 => some (decide (x26.End ≤ p0.now)) else some false).bind fun t36 => some t36
set_option maxRecDepth 100000 in
set_option maxHeartbeats 4000000 in
theorem ref31_plan_ended.calls {p0 : ref31_plan} {c0 : Nat} {C_links_p0 : Nat → Prop} {b_p0 : Nat} {A_links_p0 : Option Addr} {cap_links_p0 : Nat} {A_slots_p0 : Option Addr} {cap_slots_p0 : Nat} {A_at_p0 : Option Addr} {cap_at_p0 : Nat} {p1 : Int} {w : World} {g : Nat → Nat} {out : Bool} (N : Nat) (hp0 : ref31_plan_At w g c0 C_links_p0 b_p0 A_links_p0 cap_links_p0 A_slots_p0 cap_slots_p0 A_at_p0 cap_at_p0 p0) (hc0 : c0 + 5 ≤ N) (hC_links_p0 : ∀ c, C_links_p0 c → c < N ∧ (c < c0 ∨ c0 + 5 ≤ c)) (H : ref31_plan_ended.f p0 p1 = some out) :
    Calls Try.prog 76 #[.pointer (some ⟨b_p0, 0, none⟩), .int .i64 p1] w (fun e w' => ∃ v, e = .returned v ∧ ∃ (g' : Nat → Nat), v = .bool out ∧ Fr (fun q => N ≤ q) w g w' g') := by
  unfold ref31_plan_ended.f at H
  refine calls_enter Try.func76 rfl Try.ntmps76 rfl (fun a hS => ?_)
  replace hS : Sl 34 a [(0, .pointer (some ⟨b_p0, 0, none⟩)), (1, .int .i64 p1)] := hS
  have hF : Fr (fun q => N ≤ q) w g w g := Fr.refl _ _ _
  obtain ⟨hb0, hf0_links, hf0_slots, hf0_at⟩ := hp0
  refine c_pure [(0, .pointer (some ⟨b_p0, 0, none⟩)), (1, .int .i64 p1)] (fun R hR => st_val hS rfl rfl rfl (r_assign hS rfl rfl) fun a1 hS1 => wpList_nil (hR _ (hS1.re ⟨rfl, rfl, trivial⟩))) ?_
  clear hS
  clear a
  intro a hS
  obtain ⟨x8, hx9, H⟩ := bind_el H
  obtain ⟨t36, ht37, H⟩ := bind_el H
  refine c_draw (fun K hK => d_start (fun q => False) g [] 30 #[false, false, false, false, false, false, false, false, false, false, false, false, false, false, false, false, false, false, false, false, false, false, false, false, false, false, false, false, false, false] (by kernel_rfl) rfl rfl (fun w2 hw2 => ?_))
  have F2 : Fr (fun _ => False) w g w2 g := by rw [hw2]; exact Fr.drew _ _ _
  replace hb0 := hb0.fr F2 (fun h => h)
  replace hf0_at := OwS.fr hf0_at F2 (fun _ _ h => h)
  replace hf0_links := RdS.fr hf0_links F2 (by decide) (fun _ _ h => h)
  replace hf0_slots := OwS.fr hf0_slots F2 (fun _ _ h => h)
  replace hF := hF.trans F2 (fun _ h => h.elim)
  have hC : Fr (fun q => False) w2 g w2 g := Fr.refl _ _ _
  refine d_pure hS 0 #[true, false, false, false, false, false, false, false, false, false, false, false, false, false, false, false, false, false, false, false, false, false, false, false, false, false, false, false, false, false] rfl rfl rfl rfl (by kernel_rfl) (fun _ _ _ h => h) (fun _ => (r_move hS rfl rfl)) fun a3 hS3 => d_pure hS3 1 #[true, true, false, false, false, false, false, false, false, false, false, false, false, false, false, false, false, false, false, false, false, false, false, false, false, false, false, false, false, false] rfl rfl rfl rfl (by kernel_rfl) (fun _ _ _ h => h) (fun _ => (r_nil hS3 rfl rfl)) fun a4 hS4 => d_pure hS4 2 #[true, true, true, false, false, false, false, false, false, false, false, false, false, false, false, false, false, false, false, false, false, false, false, false, false, false, false, false, false, false] rfl rfl rfl rfl (by kernel_rfl) (fun _ _ _ h => h) (fun _ => (r_fieldB (off := 2) hS4 rfl rfl (by kernel_rfl))) fun a5 hS5 => d_take hS5 3 #[true, true, true, true, false, false, false, false, false, false, false, false, false, false, false, false, false, false, false, false, false, false, false, false, false, false, false, false, false, false] rfl rfl rfl rfl (by kernel_rfl) (fun _ _ _ h => h) ⟨_, hC⟩ (fun w' g' Fz => (r_load1 (n := 1) hS5 rfl rfl (by kernel_rfl) (Bx.cell (hb0.fr Fz (fun h => h)) rfl))) fun a6 hS6 => d_pure hS6 4 #[true, true, true, true, true, false, false, false, false, false, false, false, false, false, false, false, false, false, false, false, false, false, false, false, false, false, false, false, false, false] rfl rfl rfl rfl (by kernel_rfl) (fun _ _ _ h => h) (fun _ => (r_move hS6 rfl rfl)) fun a7 hS7 => d_pure hS7 5 #[true, true, true, true, true, true, false, false, false, false, false, false, false, false, false, false, false, false, false, false, false, false, false, false, false, false, false, false, false, false] rfl rfl rfl rfl (by kernel_rfl) (fun _ _ _ h => h) (fun _ => (r_index (e := 3) (sz := 1) (by_ := 8) hS7 rfl rfl rfl (by kernel_rfl) (RdS.some_ (OwS.rd hf0_at) hx9) (idx_lo hx9) (idx_hi hx9))) fun a10 hS10 => d_take hS10 6 #[true, true, true, true, true, true, true, false, false, false, false, false, false, false, false, false, false, false, false, false, false, false, false, false, false, false, false, false, false, false] rfl rfl rfl rfl (by kernel_rfl) (fun _ _ _ h => h) ⟨_, hC⟩ (fun w' g' Fz => (r_load1 (n := 1) hS10 rfl rfl (by kernel_rfl) (RdS.cell (i := p1) (sz := 1) (j := 0) (OwS.rd (OwS.fr hf0_at Fz (fun _ _ h => h))) hx9 rfl))) fun a11 hS11 => d_pure hS11 7 #[true, true, true, true, true, true, true, true, false, false, false, false, false, false, false, false, false, false, false, false, false, false, false, false, false, false, false, false, false, false] rfl rfl rfl rfl (by kernel_rfl) (fun _ _ _ h => h) (fun _ => (r_bin hS11 rfl rfl rfl b_geq)) fun a12 hS12 => d_pure hS12 8 #[true, true, true, true, true, true, true, true, true, false, false, false, false, false, false, false, false, false, false, false, false, false, false, false, false, false, false, false, false, false] rfl rfl rfl rfl (by kernel_rfl) (fun _ _ _ h => h) (fun _ => (r_move hS12 rfl rfl)) fun a13 hS13 => ?_
  refine d_join (N := 34) 1 #[true, true, true, true, true, true, true, true, true, true, true, true, true, true, true, true, true, true, true, true, true, true, true, true, true, true, true, true, true, false] [(33, .bool t36)] ?_ (fun hk => ?_)
  rotate_left
  · rcases Bool.eq_false_or_eq_true (decide (0 ≤ x8)) with hb14 | hb14
    · have H := ite_t hb14 ht37
      obtain ⟨x49, hx50, H⟩ := bind_el H
      have e59 := Option.some.inj H
      refine d_pureW hS13 9 #[true, true, true, true, true, true, true, true, true, true, false, false, false, false, false, false, false, false, false, false, false, false, false, false, false, false, false, false, false, false] rfl (want_on hS13 rfl rfl rfl hb14) rfl rfl (by kernel_rfl) (fun _ _ _ h => h) (fun _ => (r_move hS13 rfl rfl)) fun a38 hS38 => d_pureW hS38 10 #[true, true, true, true, true, true, true, true, true, true, true, false, false, false, false, false, false, false, false, false, false, false, false, false, false, false, false, false, false, false] rfl (want_on hS38 rfl rfl rfl hb14) rfl rfl (by kernel_rfl) (fun _ _ _ h => h) (fun _ => (r_nil hS38 rfl rfl)) fun a39 hS39 => d_pureW hS39 11 #[true, true, true, true, true, true, true, true, true, true, true, true, false, false, false, false, false, false, false, false, false, false, false, false, false, false, false, false, false, false] rfl (want_on hS39 rfl rfl rfl hb14) rfl rfl (by kernel_rfl) (fun _ _ _ h => h) (fun _ => (r_fieldB (off := 1) hS39 rfl rfl (by kernel_rfl))) fun a40 hS40 => d_takeW hS40 12 #[true, true, true, true, true, true, true, true, true, true, true, true, true, false, false, false, false, false, false, false, false, false, false, false, false, false, false, false, false, false] rfl (want_on hS40 rfl rfl rfl hb14) rfl rfl (by kernel_rfl) (fun _ _ _ h => h) ⟨_, hC⟩ (fun w' g' Fz => (r_load1 (n := 1) hS40 rfl rfl (by kernel_rfl) (Bx.cell (hb0.fr Fz (fun h => h)) rfl))) fun a41 hS41 => d_pureW hS41 13 #[true, true, true, true, true, true, true, true, true, true, true, true, true, true, false, false, false, false, false, false, false, false, false, false, false, false, false, false, false, false] rfl (want_on hS41 rfl rfl rfl hb14) rfl rfl (by kernel_rfl) (fun _ _ _ h => h) (fun _ => (r_move hS41 rfl rfl)) fun a42 hS42 => d_pureW hS42 14 #[true, true, true, true, true, true, true, true, true, true, true, true, true, true, true, false, false, false, false, false, false, false, false, false, false, false, false, false, false, false] rfl (want_on hS42 rfl rfl rfl hb14) rfl rfl (by kernel_rfl) (fun _ _ _ h => h) (fun _ => (r_nil hS42 rfl rfl)) fun a43 hS43 => d_pureW hS43 15 #[true, true, true, true, true, true, true, true, true, true, true, true, true, true, true, true, false, false, false, false, false, false, false, false, false, false, false, false, false, false] rfl (want_on hS43 rfl rfl rfl hb14) rfl rfl (by kernel_rfl) (fun _ _ _ h => h) (fun _ => (r_fieldB (off := 2) hS43 rfl rfl (by kernel_rfl))) fun a44 hS44 => d_takeW hS44 16 #[true, true, true, true, true, true, true, true, true, true, true, true, true, true, true, true, true, false, false, false, false, false, false, false, false, false, false, false, false, false] rfl (want_on hS44 rfl rfl rfl hb14) rfl rfl (by kernel_rfl) (fun _ _ _ h => h) ⟨_, hC⟩ (fun w' g' Fz => (r_load1 (n := 1) hS44 rfl rfl (by kernel_rfl) (Bx.cell (hb0.fr Fz (fun h => h)) rfl))) fun a45 hS45 => d_pureW hS45 17 #[true, true, true, true, true, true, true, true, true, true, true, true, true, true, true, true, true, true, false, false, false, false, false, false, false, false, false, false, false, false] rfl (want_on hS45 rfl rfl rfl hb14) rfl rfl (by kernel_rfl) (fun _ _ _ h => h) (fun _ => (r_move hS45 rfl rfl)) fun a46 hS46 => d_pureW hS46 18 #[true, true, true, true, true, true, true, true, true, true, true, true, true, true, true, true, true, true, true, false, false, false, false, false, false, false, false, false, false, false] rfl (want_on hS46 rfl rfl rfl hb14) rfl rfl (by kernel_rfl) (fun _ _ _ h => h) (fun _ => (r_index (e := 3) (sz := 1) (by_ := 8) hS46 rfl rfl rfl (by kernel_rfl) (RdS.some_ (OwS.rd hf0_at) hx9) (idx_lo hx9) (idx_hi hx9))) fun a47 hS47 => d_takeW hS47 19 #[true, true, true, true, true, true, true, true, true, true, true, true, true, true, true, true, true, true, true, true, false, false, false, false, false, false, false, false, false, false] rfl (want_on hS47 rfl rfl rfl hb14) rfl rfl (by kernel_rfl) (fun _ _ _ h => h) ⟨_, hC⟩ (fun w' g' Fz => (r_load1 (n := 1) hS47 rfl rfl (by kernel_rfl) (RdS.cell (i := p1) (sz := 1) (j := 0) (OwS.rd (OwS.fr hf0_at Fz (fun _ _ h => h))) hx9 rfl))) fun a48 hS48 => d_pureW hS48 20 #[true, true, true, true, true, true, true, true, true, true, true, true, true, true, true, true, true, true, true, true, true, false, false, false, false, false, false, false, false, false] rfl (want_on hS48 rfl rfl rfl hb14) rfl rfl (by kernel_rfl) (fun _ _ _ h => h) (fun _ => (r_index (e := 38) (sz := 4) (by_ := 32) hS48 rfl rfl rfl (by kernel_rfl) (RdS.some_ (OwS.rd hf0_slots) hx50) (idx_lo hx50) (idx_hi hx50))) fun a51 hS51 => d_pureW hS51 21 #[true, true, true, true, true, true, true, true, true, true, true, true, true, true, true, true, true, true, true, true, true, true, false, false, false, false, false, false, false, false] rfl (want_on hS51 rfl rfl rfl hb14) rfl rfl (by kernel_rfl) (fun _ _ _ h => h) (fun _ => (r_fieldE (off := 3) hS51 rfl rfl (by kernel_rfl))) fun a52 hS52 => d_takeW hS52 22 #[true, true, true, true, true, true, true, true, true, true, true, true, true, true, true, true, true, true, true, true, true, true, true, false, false, false, false, false, false, false] rfl (want_on hS52 rfl rfl rfl hb14) rfl rfl (by kernel_rfl) (fun _ _ _ h => h) ⟨_, hC⟩ (fun w' g' Fz => (r_load1 (n := 1) hS52 rfl rfl (by kernel_rfl) (RdS.cell (i := x8) (sz := 4) (j := 3) (OwS.rd (OwS.fr hf0_slots Fz (fun _ _ h => h))) hx50 rfl))) fun a53 hS53 => d_pureW hS53 23 #[true, true, true, true, true, true, true, true, true, true, true, true, true, true, true, true, true, true, true, true, true, true, true, true, false, false, false, false, false, false] rfl (want_on hS53 rfl rfl rfl hb14) rfl rfl (by kernel_rfl) (fun _ _ _ h => h) (fun _ => (r_move hS53 rfl rfl)) fun a54 hS54 => d_pureW hS54 24 #[true, true, true, true, true, true, true, true, true, true, true, true, true, true, true, true, true, true, true, true, true, true, true, true, true, false, false, false, false, false] rfl (want_on hS54 rfl rfl rfl hb14) rfl rfl (by kernel_rfl) (fun _ _ _ h => h) (fun _ => (r_nil hS54 rfl rfl)) fun a55 hS55 => d_pureW hS55 25 #[true, true, true, true, true, true, true, true, true, true, true, true, true, true, true, true, true, true, true, true, true, true, true, true, true, true, false, false, false, false] rfl (want_on hS55 rfl rfl rfl hb14) rfl rfl (by kernel_rfl) (fun _ _ _ h => h) (fun _ => (r_fieldB (off := 3) hS55 rfl rfl (by kernel_rfl))) fun a56 hS56 => d_takeW hS56 26 #[true, true, true, true, true, true, true, true, true, true, true, true, true, true, true, true, true, true, true, true, true, true, true, true, true, true, true, false, false, false] rfl (want_on hS56 rfl rfl rfl hb14) rfl rfl (by kernel_rfl) (fun _ _ _ h => h) ⟨_, hC⟩ (fun w' g' Fz => (r_load1 (n := 1) hS56 rfl rfl (by kernel_rfl) (Bx.cell (hb0.fr Fz (fun h => h)) rfl))) fun a57 hS57 => d_pureW hS57 27 #[true, true, true, true, true, true, true, true, true, true, true, true, true, true, true, true, true, true, true, true, true, true, true, true, true, true, true, true, false, false] rfl (want_on hS57 rfl rfl rfl hb14) rfl rfl (by kernel_rfl) (fun _ _ _ h => h) (fun _ => (r_bin hS57 rfl rfl rfl b_leq)) fun a58 hS58 => d_pure hS58 28 #[true, true, true, true, true, true, true, true, true, true, true, true, true, true, true, true, true, true, true, true, true, true, true, true, true, true, true, true, true, false] rfl rfl rfl rfl (by kernel_rfl) (fun _ _ _ h => h) (fun _ => (r_pickT hS58 rfl rfl rfl hb14)) fun a60 hS60 => hk _ (hS60.re ⟨(by rw [← e59]; rfl), trivial⟩)
    · have H := ite_f hb14 ht37
      have e61 := Option.some.inj H
      refine d_off hS13 9 #[true, true, true, true, true, true, true, true, true, true, false, false, false, false, false, false, false, false, false, false, false, false, false, false, false, false, false, false, false, false] rfl (want_off hS13 rfl rfl rfl hb14) rfl rfl (by kernel_rfl) (fun _ _ _ h => h) fun a62 hS62 => d_off hS62 10 #[true, true, true, true, true, true, true, true, true, true, true, false, false, false, false, false, false, false, false, false, false, false, false, false, false, false, false, false, false, false] rfl (want_off hS62 rfl rfl rfl hb14) rfl rfl (by kernel_rfl) (fun _ _ _ h => h) fun a63 hS63 => d_off hS63 11 #[true, true, true, true, true, true, true, true, true, true, true, true, false, false, false, false, false, false, false, false, false, false, false, false, false, false, false, false, false, false] rfl (want_off hS63 rfl rfl rfl hb14) rfl rfl (by kernel_rfl) (fun _ _ _ h => h) fun a64 hS64 => d_off hS64 12 #[true, true, true, true, true, true, true, true, true, true, true, true, true, false, false, false, false, false, false, false, false, false, false, false, false, false, false, false, false, false] rfl (want_off hS64 rfl rfl rfl hb14) rfl rfl (by kernel_rfl) (fun _ _ _ h => h) fun a65 hS65 => d_off hS65 13 #[true, true, true, true, true, true, true, true, true, true, true, true, true, true, false, false, false, false, false, false, false, false, false, false, false, false, false, false, false, false] rfl (want_off hS65 rfl rfl rfl hb14) rfl rfl (by kernel_rfl) (fun _ _ _ h => h) fun a66 hS66 => d_off hS66 14 #[true, true, true, true, true, true, true, true, true, true, true, true, true, true, true, false, false, false, false, false, false, false, false, false, false, false, false, false, false, false] rfl (want_off hS66 rfl rfl rfl hb14) rfl rfl (by kernel_rfl) (fun _ _ _ h => h) fun a67 hS67 => d_off hS67 15 #[true, true, true, true, true, true, true, true, true, true, true, true, true, true, true, true, false, false, false, false, false, false, false, false, false, false, false, false, false, false] rfl (want_off hS67 rfl rfl rfl hb14) rfl rfl (by kernel_rfl) (fun _ _ _ h => h) fun a68 hS68 => d_off hS68 16 #[true, true, true, true, true, true, true, true, true, true, true, true, true, true, true, true, true, false, false, false, false, false, false, false, false, false, false, false, false, false] rfl (want_off hS68 rfl rfl rfl hb14) rfl rfl (by kernel_rfl) (fun _ _ _ h => h) fun a69 hS69 => d_off hS69 17 #[true, true, true, true, true, true, true, true, true, true, true, true, true, true, true, true, true, true, false, false, false, false, false, false, false, false, false, false, false, false] rfl (want_off hS69 rfl rfl rfl hb14) rfl rfl (by kernel_rfl) (fun _ _ _ h => h) fun a70 hS70 => d_off hS70 18 #[true, true, true, true, true, true, true, true, true, true, true, true, true, true, true, true, true, true, true, false, false, false, false, false, false, false, false, false, false, false] rfl (want_off hS70 rfl rfl rfl hb14) rfl rfl (by kernel_rfl) (fun _ _ _ h => h) fun a71 hS71 => d_off hS71 19 #[true, true, true, true, true, true, true, true, true, true, true, true, true, true, true, true, true, true, true, true, false, false, false, false, false, false, false, false, false, false] rfl (want_off hS71 rfl rfl rfl hb14) rfl rfl (by kernel_rfl) (fun _ _ _ h => h) fun a72 hS72 => d_off hS72 20 #[true, true, true, true, true, true, true, true, true, true, true, true, true, true, true, true, true, true, true, true, true, false, false, false, false, false, false, false, false, false] rfl (want_off hS72 rfl rfl rfl hb14) rfl rfl (by kernel_rfl) (fun _ _ _ h => h) fun a73 hS73 => d_off hS73 21 #[true, true, true, true, true, true, true, true, true, true, true, true, true, true, true, true, true, true, true, true, true, true, false, false, false, false, false, false, false, false] rfl (want_off hS73 rfl rfl rfl hb14) rfl rfl (by kernel_rfl) (fun _ _ _ h => h) fun a74 hS74 => d_off hS74 22 #[true, true, true, true, true, true, true, true, true, true, true, true, true, true, true, true, true, true, true, true, true, true, true, false, false, false, false, false, false, false] rfl (want_off hS74 rfl rfl rfl hb14) rfl rfl (by kernel_rfl) (fun _ _ _ h => h) fun a75 hS75 => d_off hS75 23 #[true, true, true, true, true, true, true, true, true, true, true, true, true, true, true, true, true, true, true, true, true, true, true, true, false, false, false, false, false, false] rfl (want_off hS75 rfl rfl rfl hb14) rfl rfl (by kernel_rfl) (fun _ _ _ h => h) fun a76 hS76 => d_off hS76 24 #[true, true, true, true, true, true, true, true, true, true, true, true, true, true, true, true, true, true, true, true, true, true, true, true, true, false, false, false, false, false] rfl (want_off hS76 rfl rfl rfl hb14) rfl rfl (by kernel_rfl) (fun _ _ _ h => h) fun a77 hS77 => d_off hS77 25 #[true, true, true, true, true, true, true, true, true, true, true, true, true, true, true, true, true, true, true, true, true, true, true, true, true, true, false, false, false, false] rfl (want_off hS77 rfl rfl rfl hb14) rfl rfl (by kernel_rfl) (fun _ _ _ h => h) fun a78 hS78 => d_off hS78 26 #[true, true, true, true, true, true, true, true, true, true, true, true, true, true, true, true, true, true, true, true, true, true, true, true, true, true, true, false, false, false] rfl (want_off hS78 rfl rfl rfl hb14) rfl rfl (by kernel_rfl) (fun _ _ _ h => h) fun a79 hS79 => d_off hS79 27 #[true, true, true, true, true, true, true, true, true, true, true, true, true, true, true, true, true, true, true, true, true, true, true, true, true, true, true, true, false, false] rfl (want_off hS79 rfl rfl rfl hb14) rfl rfl (by kernel_rfl) (fun _ _ _ h => h) fun a80 hS80 => d_pure hS80 28 #[true, true, true, true, true, true, true, true, true, true, true, true, true, true, true, true, true, true, true, true, true, true, true, true, true, true, true, true, true, false] rfl rfl rfl rfl (by kernel_rfl) (fun _ _ _ h => h) (fun _ => (r_pickF hS80 rfl rfl rfl hb14)) fun a81 hS81 => hk _ (hS81.re ⟨(by rw [← e61]; rfl), trivial⟩)
  intro a82 hS82
  refine d_pure hS82 29 #[true, true, true, true, true, true, true, true, true, true, true, true, true, true, true, true, true, true, true, true, true, true, true, true, true, true, true, true, true, true] rfl rfl rfl rfl (by kernel_rfl) (fun _ _ _ h => h) (fun _ => (r_assign hS82 rfl rfl)) fun a83 hS83 => d_done (by kernel_rfl) (hK _ _ ?_)
  replace hS : Sl 34 _ [(4, .bool t36)] := hS83.re ⟨rfl, trivial⟩
  clear hK K hC
  try clear hS3 hS4 hS5 hS6 hS7 hS10 hS11 hS12 hS13 hS82 hS83
  obtain ⟨a, ha⟩ : ∃ a', a' = a83 := ⟨_, rfl⟩
  rw [← ha] at hS ⊢; clear ha
  refine wp_ret ?_
  have e := Option.some.inj H
  subst e
  repeat (with_reducible first | refine then_ret ?_ | refine inBlock_ret ?_)
  exact c_ret1 hS Try.results76 rfl ⟨_, rfl, g, rfl, hF⟩


end Go.Proofs.Ythmjgadmadlpkaa.Sim

namespace Go.Proofs.Ythmjgadmadlpkaa.Sim
open Go
set_option linter.unusedVariables false
set_option linter.unusedSimpArgs false

/-! ### ref31_plan_ready: function 40 -/
def ref31_plan_ready.l1 (p0 : ref31_plan) (m0_0 : Int) : Nat → Bool → Int → Option (Bool)
  | 0, _, _ => none
  | k38 + 1, m1_0, m1_1 => if ((decide (m1_1 < (p0.links.length : Int))) && m1_0) = true then ((idx p0.links m1_1).bind fun x60 => (if (x60.Consumer != m0_0) = true then some true else (ref31_plan_ended.f p0 x60.Supplier).bind fun r78 => some r78).bind fun t82 => ref31_plan_ready.l1 p0 m0_0 k38 t82 (wi (m1_1 + 1))) else (some m1_0)
def ref31_plan_ready.l0 (p0 : ref31_plan) : Nat → Int → Option (Fl (Int) (Unit))
  | 0, _ => none
  | k8 + 1, m0_0 => if decide (m0_0 < (p0.at_.length : Int)) = true then (((idx p0.at_ m0_0).bind fun x26 => (ref31_plan_ready.l1 p0 m0_0 FUEL (decide (x26 < 0)) 0 : Option (Bool)).bind fun v33 => if v33 = true then (some (.out (.out m0_0))) else (some (.nxt ())) : Option (Fl (Fl (Int) (Unit)) (Unit))).bind fun o19 => o19.go fun _ => ref31_plan_ready.l0 p0 k8 (wi (m0_0 + 1))) else (some (.nxt ()))
def ref31_plan_ready.f (p0 : ref31_plan) : Option (Int) := (ref31_plan_ready.l0 p0 FUEL 0 : Option (Fl (Int) (Unit))).bind fun o4 => o4.go fun _ => some (-1)
set_option maxRecDepth 100000 in
set_option maxHeartbeats 4000000 in
theorem ref31_plan_ready.calls {p0 : ref31_plan} {c0 : Nat} {C_links_p0 : Nat → Prop} {b_p0 : Nat} {A_links_p0 : Option Addr} {cap_links_p0 : Nat} {A_slots_p0 : Option Addr} {cap_slots_p0 : Nat} {A_at_p0 : Option Addr} {cap_at_p0 : Nat} {w : World} {g : Nat → Nat} {out : Int} (N : Nat) (hp0 : ref31_plan_At w g c0 C_links_p0 b_p0 A_links_p0 cap_links_p0 A_slots_p0 cap_slots_p0 A_at_p0 cap_at_p0 p0) (hc0 : c0 + 5 ≤ N) (hC_links_p0 : ∀ c, C_links_p0 c → c < N ∧ (c < c0 ∨ c0 + 5 ≤ c)) (H : ref31_plan_ready.f p0 = some out) :
    Calls Try.prog 40 #[.pointer (some ⟨b_p0, 0, none⟩)] w (fun e w' => ∃ v, e = .returned v ∧ ∃ (g' : Nat → Nat), v = .int .i64 out ∧ Fr (fun q => N ≤ q) w g w' g') := by
  unfold ref31_plan_ready.f at H
  refine calls_enter Try.func40 rfl Try.ntmps40 rfl (fun a hS => ?_)
  replace hS : Sl 59 a [(0, .pointer (some ⟨b_p0, 0, none⟩))] := hS
  have hF : Fr (fun q => N ≤ q) w g w g := Fr.refl _ _ _
  obtain ⟨hb0, hf0_links, hf0_slots, hf0_at⟩ := hp0
  refine c_pure [(0, .pointer (some ⟨b_p0, 0, none⟩))] (fun R hR => st_val hS rfl rfl rfl (r_assign hS rfl rfl) fun a1 hS1 => wpList_nil (hR _ (hS1.re ⟨rfl, trivial⟩))) ?_
  clear hS
  clear a
  intro a hS
  obtain ⟨o4, H, Hl5⟩ := bind_el H
  refine c_cut (fun a w2 => ∃ (g2 : Nat → Nat), o4 = .nxt () ∧ Sl 59 a [] ∧ Bx w2 g2 (c0) b_p0 80 [.slice A_links_p0 p0.links.length cap_links_p0, .slice A_slots_p0 p0.slots.length cap_slots_p0, .slice A_at_p0 p0.at_.length cap_at_p0, .int .u64 p0.now] ∧ OwS (kint .i64) 3 w2 g2 (c0 + 3) A_at_p0 cap_at_p0 p0.at_ ∧ RdS kd_api_Link w2 g2 C_links_p0 A_links_p0 cap_links_p0 p0.links ∧ OwS kd_api_Slot 38 w2 g2 (c0 + 1) A_slots_p0 cap_slots_p0 p0.slots ∧ Fr (fun q => N ≤ q) w g w2 g2) ?_ ?_
  · refine c_pure [(0, .pointer (some ⟨b_p0, 0, none⟩)), (3, .int .i64 0)] (fun R hR => st_val hS rfl rfl rfl (r_assign hS rfl rfl) fun a6 hS6 => wpList_nil (hR _ (hS6.re ⟨rfl, rfl, trivial⟩))) ?_
    clear hS
    clear a
    intro a hS
    refine wp_block ?_
    refine wp_loop_ghost (fun kq => fun a w7 => ∃ (m0_0 : Int), ∃ (g7 : Nat → Nat), ref31_plan_ready.l0 p0 kq m0_0 = some o4 ∧ Sl 59 a [(0, .pointer (some ⟨b_p0, 0, none⟩)), (3, .int .i64 m0_0)] ∧ Bx w7 g7 (c0) b_p0 80 [.slice A_links_p0 p0.links.length cap_links_p0, .slice A_slots_p0 p0.slots.length cap_slots_p0, .slice A_at_p0 p0.at_.length cap_at_p0, .int .u64 p0.now] ∧ OwS (kint .i64) 3 w7 g7 (c0 + 3) A_at_p0 cap_at_p0 p0.at_ ∧ RdS kd_api_Link w7 g7 C_links_p0 A_links_p0 cap_links_p0 p0.links ∧ OwS kd_api_Slot 38 w7 g7 (c0 + 1) A_slots_p0 cap_slots_p0 p0.slots ∧ Fr (fun q => N ≤ q) w g w7 g7) FUEL ?_ ?_
    · exact ⟨0, g, H, hS.re ⟨rfl, rfl, trivial⟩, hb0, hf0_at, hf0_links, hf0_slots, hF⟩
    · clear H
      clear hf0_links hf0_slots hf0_at hb0 hF
      clear hS
      rintro k8 a w7 ⟨m0_0, g7, hpre0, hS, hb0, hf0_at, hf0_links, hf0_slots, hF⟩
      have H := hpre0
      clear hpre0
      cases k8 with
      | zero => exact absurd H (by simp [ref31_plan_ready.l0])
      | succ k8 =>
        rw [ref31_plan_ready.l0] at H
        refine wp_seq ?_
        refine c_pure [(0, .pointer (some ⟨b_p0, 0, none⟩)), (3, .int .i64 m0_0), (12, .bool (decide (m0_0 < (p0.at_.length : Int))))] (fun R hR => st_val hS rfl rfl rfl (r_move hS rfl rfl) fun a9 hS9 => st_val hS9 rfl rfl rfl (r_move hS9 rfl rfl) fun a10 hS10 => st_val hS10 rfl rfl rfl (r_nil hS10 rfl rfl) fun a11 hS11 => st_val hS11 rfl rfl rfl (r_fieldB (off := 2) hS11 rfl rfl (by kernel_rfl)) fun a12 hS12 => st_val hS12 rfl rfl rfl (r_load1 (n := 1) hS12 rfl rfl (by kernel_rfl) (Bx.cell hb0 rfl)) fun a13 hS13 => st_val hS13 rfl rfl rfl (r_len (e := 3) (sz := 1) (by_ := 8) hS13 rfl rfl (by kernel_rfl)) fun a14 hS14 => st_val hS14 rfl rfl rfl (r_bin hS14 rfl rfl rfl b_lss) fun a15 hS15 => wpList_nil (hR _ (hS15.re ⟨rfl, rfl, rfl, trivial⟩))) ?_
        clear hS
        clear a
        intro a hS
        refine c_cond hS rfl (fun hb16 => ?_) (fun hb16 => ?_)
        · replace H := ite_t hb16 H
          refine wp_skip ?_
          change Code.wp _ _ _ _ _
          obtain ⟨o19, H, Hl20⟩ := bind_el H
          refine c_cut (fun a w17 => ∃ (g17 : Nat → Nat), o19 = .nxt () ∧ Sl 59 a [(0, .pointer (some ⟨b_p0, 0, none⟩)), (3, .int .i64 m0_0)] ∧ Bx w17 g17 (c0) b_p0 80 [.slice A_links_p0 p0.links.length cap_links_p0, .slice A_slots_p0 p0.slots.length cap_slots_p0, .slice A_at_p0 p0.at_.length cap_at_p0, .int .u64 p0.now] ∧ OwS (kint .i64) 3 w17 g17 (c0 + 3) A_at_p0 cap_at_p0 p0.at_ ∧ RdS kd_api_Link w17 g17 C_links_p0 A_links_p0 cap_links_p0 p0.links ∧ OwS kd_api_Slot 38 w17 g17 (c0 + 1) A_slots_p0 cap_slots_p0 p0.slots ∧ Fr (fun q => N ≤ q) w g w17 g17) ?_ ?_
          · refine wp_block ?_
            obtain ⟨x26, hx27, H⟩ := bind_el H
            refine c_pure [(0, .pointer (some ⟨b_p0, 0, none⟩)), (3, .int .i64 m0_0), (4, .bool (decide (x26 < 0)))] (fun R hR => st_val hS rfl rfl rfl (r_move hS rfl rfl) fun a21 hS21 => st_val hS21 rfl rfl rfl (r_nil hS21 rfl rfl) fun a22 hS22 => st_val hS22 rfl rfl rfl (r_fieldB (off := 2) hS22 rfl rfl (by kernel_rfl)) fun a23 hS23 => st_val hS23 rfl rfl rfl (r_load1 (n := 1) hS23 rfl rfl (by kernel_rfl) (Bx.cell hb0 rfl)) fun a24 hS24 => st_val hS24 rfl rfl rfl (r_move hS24 rfl rfl) fun a25 hS25 => st_val hS25 rfl rfl rfl (r_index (e := 3) (sz := 1) (by_ := 8) hS25 rfl rfl rfl (by kernel_rfl) (RdS.some_ (OwS.rd hf0_at) hx27) (idx_lo hx27) (idx_hi hx27)) fun a28 hS28 => st_val hS28 rfl rfl rfl (r_load1 (n := 1) hS28 rfl rfl (by kernel_rfl) (RdS.cell (i := m0_0) (sz := 1) (j := 0) (OwS.rd hf0_at) hx27 rfl)) fun a29 hS29 => st_val hS29 rfl rfl rfl (r_bin hS29 rfl rfl rfl b_lss) fun a30 hS30 => st_val hS30 rfl rfl rfl (r_assign hS30 rfl rfl) fun a31 hS31 => wpList_nil (hR _ (hS31.re ⟨rfl, rfl, rfl, trivial⟩))) ?_
            clear hS
            clear a
            intro a hS
            obtain ⟨v33, H, Hl35⟩ := bind_el H
            refine c_cut (fun a w32 => ∃ (g32 : Nat → Nat), Sl 59 a [(0, .pointer (some ⟨b_p0, 0, none⟩)), (3, .int .i64 m0_0), (4, .bool v33)] ∧ Bx w32 g32 (c0) b_p0 80 [.slice A_links_p0 p0.links.length cap_links_p0, .slice A_slots_p0 p0.slots.length cap_slots_p0, .slice A_at_p0 p0.at_.length cap_at_p0, .int .u64 p0.now] ∧ OwS (kint .i64) 3 w32 g32 (c0 + 3) A_at_p0 cap_at_p0 p0.at_ ∧ RdS kd_api_Link w32 g32 C_links_p0 A_links_p0 cap_links_p0 p0.links ∧ OwS kd_api_Slot 38 w32 g32 (c0 + 1) A_slots_p0 cap_slots_p0 p0.slots ∧ Fr (fun q => N ≤ q) w g w32 g32) ?_ ?_
            · refine c_pure [(0, .pointer (some ⟨b_p0, 0, none⟩)), (3, .int .i64 m0_0), (4, .bool (decide (x26 < 0))), (5, .int .i64 0)] (fun R hR => st_val hS rfl rfl rfl (r_assign hS rfl rfl) fun a36 hS36 => wpList_nil (hR _ (hS36.re ⟨rfl, rfl, rfl, rfl, trivial⟩))) ?_
              clear hS
              clear a
              intro a hS
              refine wp_block ?_
              refine wp_loop_ghost (fun kq => fun a w37 => ∃ (m1_0 : Bool), ∃ (m1_1 : Int), ∃ (g37 : Nat → Nat), ref31_plan_ready.l1 p0 m0_0 kq m1_0 m1_1 = some v33 ∧ Sl 59 a [(0, .pointer (some ⟨b_p0, 0, none⟩)), (3, .int .i64 m0_0), (4, .bool m1_0), (5, .int .i64 m1_1)] ∧ Bx w37 g37 (c0) b_p0 80 [.slice A_links_p0 p0.links.length cap_links_p0, .slice A_slots_p0 p0.slots.length cap_slots_p0, .slice A_at_p0 p0.at_.length cap_at_p0, .int .u64 p0.now] ∧ OwS (kint .i64) 3 w37 g37 (c0 + 3) A_at_p0 cap_at_p0 p0.at_ ∧ RdS kd_api_Link w37 g37 C_links_p0 A_links_p0 cap_links_p0 p0.links ∧ OwS kd_api_Slot 38 w37 g37 (c0 + 1) A_slots_p0 cap_slots_p0 p0.slots ∧ Fr (fun q => N ≤ q) w g w37 g37) FUEL ?_ ?_
              · exact ⟨decide (x26 < 0), 0, g7, H, hS.re ⟨rfl, rfl, rfl, rfl, trivial⟩, hb0, hf0_at, hf0_links, hf0_slots, hF⟩
              · clear H
                clear hf0_links hf0_slots hf0_at hb0 hF
                clear hS
                rintro k38 a w37 ⟨m1_0, m1_1, g37, hpre0, hS, hb0, hf0_at, hf0_links, hf0_slots, hF⟩
                have H := hpre0
                clear hpre0
                cases k38 with
                | zero => exact absurd H (by simp [ref31_plan_ready.l1])
                | succ k38 =>
                  rw [ref31_plan_ready.l1] at H
                  refine wp_seq ?_
                  refine c_region (fun K hK => ?_)
                  refine st_val hS rfl rfl rfl (r_move hS rfl rfl) fun a39 hS39 => st_val hS39 rfl rfl rfl (r_move hS39 rfl rfl) fun a40 hS40 => st_val hS40 rfl rfl rfl (r_nil hS40 rfl rfl) fun a41 hS41 => st_val hS41 rfl rfl rfl (r_fieldB (off := 0) hS41 rfl rfl (by kernel_rfl)) fun a42 hS42 => st_val hS42 rfl rfl rfl (r_load1 (n := 1) hS42 rfl rfl (by kernel_rfl) (Bx.cell hb0 rfl)) fun a43 hS43 => st_val hS43 rfl rfl rfl (r_len (e := 43) (sz := 2) (by_ := 16) hS43 rfl rfl (by kernel_rfl)) fun a44 hS44 => st_val hS44 rfl rfl rfl (r_bin hS44 rfl rfl rfl b_lss) fun a45 hS45 => st_val hS45 rfl rfl rfl (r_move hS45 rfl rfl) fun a46 hS46 => ?_
                  refine g_join (N := 59) 2 [(0, .pointer (some ⟨b_p0, 0, none⟩)), (3, .int .i64 m0_0), (4, .bool m1_0), (5, .int .i64 m1_1), (32, .bool ((decide (m1_1 < (p0.links.length : Int))) && m1_0))] ?_ (fun hk => ?_)
                  rotate_left
                  · rcases Bool.eq_false_or_eq_true (decide (m1_1 < (p0.links.length : Int))) with hb47 | hb47
                    · refine st_valW hS46 (want_on hS46 rfl rfl rfl hb47) rfl rfl (r_move hS46 rfl rfl) fun a49 hS49 => st_val hS49 rfl rfl rfl (r_pickT hS49 rfl rfl rfl hb47) fun a50 hS50 => hk _ (hS50.re ⟨rfl, rfl, rfl, rfl, (by rw [hb47]; rfl), trivial⟩)
                    · refine st_off hS46 (want_off hS46 rfl rfl rfl hb47) rfl rfl fun a51 hS51 => st_val hS51 rfl rfl rfl (r_pickF hS51 rfl rfl rfl hb47) fun a52 hS52 => hk _ (hS52.re ⟨rfl, rfl, rfl, rfl, (by rw [hb47]; rfl), trivial⟩)
                  intro a53 hS53
                  refine wpList_nil (hK _ _ ?_)
                  replace hS : Sl 59 _ [(0, .pointer (some ⟨b_p0, 0, none⟩)), (3, .int .i64 m0_0), (4, .bool m1_0), (5, .int .i64 m1_1), (32, .bool ((decide (m1_1 < (p0.links.length : Int))) && m1_0))] := hS53.re ⟨rfl, rfl, rfl, rfl, rfl, trivial⟩
                  clear hK K
                  try clear hS39 hS40 hS41 hS42 hS43 hS44 hS45 hS46 hS53
                  obtain ⟨a, ha⟩ : ∃ a', a' = a53 := ⟨_, rfl⟩
                  rw [← ha] at hS ⊢; clear ha
                  refine c_cond hS rfl (fun hb54 => ?_) (fun hb54 => ?_)
                  · replace H := ite_t hb54 H
                    refine wp_skip ?_
                    change Code.wp _ _ _ _ _
                    refine wp_seq ?_
                    refine wp_block ?_
                    obtain ⟨x60, hx61, H⟩ := bind_el H
                    obtain ⟨t82, ht83, H⟩ := bind_el H
                    refine c_region1 (fun K hK => ?_)
                    refine st_val hS rfl rfl rfl (r_move hS rfl rfl) fun a55 hS55 => st_val hS55 rfl rfl rfl (r_nil hS55 rfl rfl) fun a56 hS56 => st_val hS56 rfl rfl rfl (r_fieldB (off := 0) hS56 rfl rfl (by kernel_rfl)) fun a57 hS57 => st_val hS57 rfl rfl rfl (r_load1 (n := 1) hS57 rfl rfl (by kernel_rfl) (Bx.cell hb0 rfl)) fun a58 hS58 => st_val hS58 rfl rfl rfl (r_move hS58 rfl rfl) fun a59 hS59 => st_val hS59 rfl rfl rfl (r_index (e := 43) (sz := 2) (by_ := 16) hS59 rfl rfl rfl (by kernel_rfl) (RdS.some_ hf0_links hx61) (idx_lo hx61) (idx_hi hx61)) fun a62 hS62 => st_val hS62 rfl rfl rfl (r_fieldE (off := 0) hS62 rfl rfl (by kernel_rfl)) fun a63 hS63 => st_val hS63 rfl rfl rfl (r_load1 (n := 1) hS63 rfl rfl (by kernel_rfl) (RdS.cell (i := m1_1) (sz := 2) (j := 0) hf0_links hx61 rfl)) fun a64 hS64 => st_val hS64 rfl rfl rfl (r_move hS64 rfl rfl) fun a65 hS65 => st_val hS65 rfl rfl rfl (r_bin hS65 rfl rfl rfl b_neq) fun a66 hS66 => st_val hS66 rfl rfl rfl (r_move hS66 rfl rfl) fun a67 hS67 => ?_
                    refine g_joinR 11 (fun a w84 => ∃ (g84 : Nat → Nat), Sl 59 a [(0, .pointer (some ⟨b_p0, 0, none⟩)), (3, .int .i64 m0_0), (4, .bool m1_0), (5, .int .i64 m1_1), (56, .bool t82)] ∧ Bx w84 g84 (c0) b_p0 80 [.slice A_links_p0 p0.links.length cap_links_p0, .slice A_slots_p0 p0.slots.length cap_slots_p0, .slice A_at_p0 p0.at_.length cap_at_p0, .int .u64 p0.now] ∧ OwS (kint .i64) 3 w84 g84 (c0 + 3) A_at_p0 cap_at_p0 p0.at_ ∧ RdS kd_api_Link w84 g84 C_links_p0 A_links_p0 cap_links_p0 p0.links ∧ OwS kd_api_Slot 38 w84 g84 (c0 + 1) A_slots_p0 cap_slots_p0 p0.slots ∧ Fr (fun q => N ≤ q) w g w84 g84) ?_ (fun hk => ?_)
                    rotate_left
                    · rcases Bool.eq_false_or_eq_true ((x60.Consumer != m0_0)) with hb68 | hb68
                      · have H := ite_t hb68 ht83
                        have e85 := Option.some.inj H
                        refine st_off hS67 (want_off hS67 rfl rfl rfl hb68) rfl rfl fun a86 hS86 => st_off hS86 (want_off hS86 rfl rfl rfl hb68) rfl rfl fun a87 hS87 => st_off hS87 (want_off hS87 rfl rfl rfl hb68) rfl rfl fun a88 hS88 => st_off hS88 (want_off hS88 rfl rfl rfl hb68) rfl rfl fun a89 hS89 => st_off hS89 (want_off hS89 rfl rfl rfl hb68) rfl rfl fun a90 hS90 => st_off hS90 (want_off hS90 rfl rfl rfl hb68) rfl rfl fun a91 hS91 => st_off hS91 (want_off hS91 rfl rfl rfl hb68) rfl rfl fun a92 hS92 => st_off hS92 (want_off hS92 rfl rfl rfl hb68) rfl rfl fun a93 hS93 => st_off hS93 (want_off hS93 rfl rfl rfl hb68) rfl rfl fun a94 hS94 => st_off hS94 (want_off hS94 rfl rfl rfl hb68) rfl rfl fun a95 hS95 => st_val hS95 rfl rfl rfl (r_pickT hS95 rfl rfl rfl hb68) fun a96 hS96 => hk _ _ ?_
                        exact ⟨g37, hS96.re ⟨rfl, rfl, rfl, rfl, (by rw [← e85]; rfl), trivial⟩, hb0, hf0_at, hf0_links, hf0_slots, hF⟩
                      · have H := ite_f hb68 ht83
                        obtain ⟨r106, hr107, H⟩ := bind_el H
                        have e110 := Option.some.inj H
                        refine st_valW hS67 (want_on hS67 rfl rfl rfl hb68) rfl rfl (r_move hS67 rfl rfl) fun a97 hS97 => st_valW hS97 (want_on hS97 rfl rfl rfl hb68) rfl rfl (r_move hS97 rfl rfl) fun a98 hS98 => st_valW hS98 (want_on hS98 rfl rfl rfl hb68) rfl rfl (r_nil hS98 rfl rfl) fun a99 hS99 => st_valW hS99 (want_on hS99 rfl rfl rfl hb68) rfl rfl (r_fieldB (off := 0) hS99 rfl rfl (by kernel_rfl)) fun a100 hS100 => st_valW hS100 (want_on hS100 rfl rfl rfl hb68) rfl rfl (r_load1 (n := 1) hS100 rfl rfl (by kernel_rfl) (Bx.cell hb0 rfl)) fun a101 hS101 => st_valW hS101 (want_on hS101 rfl rfl rfl hb68) rfl rfl (r_move hS101 rfl rfl) fun a102 hS102 => st_valW hS102 (want_on hS102 rfl rfl rfl hb68) rfl rfl (r_index (e := 43) (sz := 2) (by_ := 16) hS102 rfl rfl rfl (by kernel_rfl) (RdS.some_ hf0_links hx61) (idx_lo hx61) (idx_hi hx61)) fun a103 hS103 => st_valW hS103 (want_on hS103 rfl rfl rfl hb68) rfl rfl (r_fieldE (off := 1) hS103 rfl rfl (by kernel_rfl)) fun a104 hS104 => st_valW hS104 (want_on hS104 rfl rfl rfl hb68) rfl rfl (r_load1 (n := 1) hS104 rfl rfl (by kernel_rfl) (RdS.cell (i := m1_1) (sz := 2) (j := 1) hf0_links hx61 rfl)) fun a105 hS105 => ?_
                        refine st_enterW hS105 (want_on hS105 rfl rfl rfl hb68) rfl rfl (r_call hS105 rfl rfl (by kernel_rfl)) (ref31_plan_ended.calls (c0 := c0) (b_p0 := b_p0) (A_links_p0 := A_links_p0) (cap_links_p0 := cap_links_p0) (C_links_p0 := C_links_p0) (A_slots_p0 := A_slots_p0) (cap_slots_p0 := cap_slots_p0) (A_at_p0 := A_at_p0) (cap_at_p0 := cap_at_p0) (p0 := p0) (p1 := x60.Supplier) (g := g37) (N + 0)  ⟨hb0, hf0_links, hf0_slots, hf0_at⟩ (by omega) (fun q (hq : C_links_p0 q) => by have := hC_links_p0 q hq; omega) hr107) ?_
                        rintro _ a108 w109 ⟨g109, rfl, F109⟩ hS108
                        replace hb0 := hb0.fr F109 (fun (hm : N + 0 ≤ c0) => by omega)
                        replace hf0_at := OwS.fr hf0_at F109 (fun c' hc (hm : N + 0 ≤ c') => by omega)
                        replace hf0_links := RdS.fr hf0_links F109 (by decide) (fun q (hq : C_links_p0 q) (hm : N + 0 ≤ q) => by have := hC_links_p0 q hq; omega)
                        replace hf0_slots := OwS.fr hf0_slots F109 (fun c' hc (hm : N + 0 ≤ c') => by omega)
                        replace hF := hF.trans F109 (fun c' (hm : N + 0 ≤ c') => by show N ≤ c'; omega)
                        refine st_val hS108 rfl rfl rfl (r_pickF hS108 rfl rfl rfl hb68) fun a111 hS111 => hk _ _ ?_
                        exact ⟨g109, hS111.re ⟨rfl, rfl, rfl, rfl, (by rw [← e110]; rfl), trivial⟩, hb0, hf0_at, hf0_links, hf0_slots, hF⟩
                    rintro a112 w84 ⟨g84, hS112, hb0, hf0_at, hf0_links, hf0_slots, hF⟩
                    refine st_val hS112 rfl rfl rfl (r_assign hS112 rfl rfl) fun a113 hS113 => wpList_nil (hK _ _ ?_)
                    replace hS : Sl 59 _ [(0, .pointer (some ⟨b_p0, 0, none⟩)), (3, .int .i64 m0_0), (4, .bool t82), (5, .int .i64 m1_1)] := hS113.re ⟨rfl, rfl, rfl, rfl, trivial⟩
                    clear hK K
                    try clear hS55 hS56 hS57 hS58 hS59 hS62 hS63 hS64 hS65 hS66 hS67 hS112 hS113
                    obtain ⟨a, ha⟩ : ∃ a', a' = a113 := ⟨_, rfl⟩
                    rw [← ha] at hS ⊢; clear ha
                    change Code.wp _ _ _ _ _
                    refine c_pure1 [(0, .pointer (some ⟨b_p0, 0, none⟩)), (3, .int .i64 m0_0), (4, .bool t82), (5, .int .i64 (wi (m1_1 + 1)))] (fun R hR => st_val hS rfl rfl rfl (r_move hS rfl rfl) fun a114 hS114 => st_val hS114 rfl rfl rfl (r_bin hS114 rfl rfl rfl b_add) fun a115 hS115 => st_val hS115 rfl rfl rfl (r_assign hS115 rfl rfl) fun a116 hS116 => wpList_nil (hR _ (hS116.re ⟨rfl, rfl, rfl, rfl, trivial⟩))) ?_
                    clear hS
                    clear a
                    intro a hS
                    refine ⟨k38, Nat.lt_succ_self _, ?_⟩
                    exact ⟨t82, wi (m1_1 + 1), g84, H, hS.re ⟨rfl, rfl, rfl, rfl, trivial⟩, hb0, hf0_at, hf0_links, hf0_slots, hF⟩
                  · replace H := ite_f hb54 H
                    refine wp_exit ?_
                    have e := Option.some.inj H
                    subst e
                    exact ⟨g37, hS.re ⟨rfl, rfl, rfl, trivial⟩, hb0, hf0_at, hf0_links, hf0_slots, hF⟩
            · clear H
              clear hf0_links hf0_slots hf0_at hb0 hF
              clear hS
              rintro a w32 ⟨g32, hS, hb0, hf0_at, hf0_links, hf0_slots, hF⟩
              have H := Hl35
              clear Hl35
              refine c_pure [(0, .pointer (some ⟨b_p0, 0, none⟩)), (3, .int .i64 m0_0), (57, .bool v33)] (fun R hR => st_val hS rfl rfl rfl (r_move hS rfl rfl) fun a117 hS117 => wpList_nil (hR _ (hS117.re ⟨rfl, rfl, rfl, trivial⟩))) ?_
              clear hS
              clear a
              intro a hS
              refine c_cond hS rfl (fun hb118 => ?_) (fun hb118 => ?_)
              · replace H := ite_t hb118 H
                refine c_pure [(2, .int .i64 m0_0)] (fun R hR => st_val hS rfl rfl rfl (r_move hS rfl rfl) fun a119 hS119 => st_val hS119 rfl rfl rfl (r_assign hS119 rfl rfl) fun a120 hS120 => wpList_nil (hR _ (hS120.re ⟨rfl, trivial⟩))) ?_
                clear hS
                clear a
                intro a hS
                refine wp_ret ?_
                have e := Option.some.inj H
                subst e
                replace H := Fl.go_out Hl20
                have e := Option.some.inj H
                subst e
                replace H := Fl.go_out Hl5
                have e := Option.some.inj H
                subst e
                repeat (with_reducible first | refine then_ret ?_ | refine inBlock_ret ?_)
                exact c_ret1 hS Try.results40 rfl ⟨_, rfl, g32, rfl, hF⟩
              · replace H := ite_f hb118 H
                refine wp_skip ?_
                have e := Option.some.inj H
                exact ⟨g32, e.symm, hS.re ⟨rfl, rfl, trivial⟩, hb0, hf0_at, hf0_links, hf0_slots, hF⟩
          · clear H
            clear hf0_links hf0_slots hf0_at hb0 hF
            clear hS
            rintro a w17 ⟨g17, hpre0, hS, hb0, hf0_at, hf0_links, hf0_slots, hF⟩
            subst hpre0
            have H := Fl.go_nxt Hl20
            clear Hl20
            refine c_pure1 [(0, .pointer (some ⟨b_p0, 0, none⟩)), (3, .int .i64 (wi (m0_0 + 1)))] (fun R hR => st_val hS rfl rfl rfl (r_move hS rfl rfl) fun a121 hS121 => st_val hS121 rfl rfl rfl (r_bin hS121 rfl rfl rfl b_add) fun a122 hS122 => st_val hS122 rfl rfl rfl (r_assign hS122 rfl rfl) fun a123 hS123 => wpList_nil (hR _ (hS123.re ⟨rfl, rfl, trivial⟩))) ?_
            clear hS
            clear a
            intro a hS
            refine ⟨k8, Nat.lt_succ_self _, ?_⟩
            exact ⟨wi (m0_0 + 1), g17, H, hS.re ⟨rfl, rfl, trivial⟩, hb0, hf0_at, hf0_links, hf0_slots, hF⟩
        · replace H := ite_f hb16 H
          refine wp_exit ?_
          have e := Option.some.inj H
          exact ⟨g7, e.symm, hS.re trivial, hb0, hf0_at, hf0_links, hf0_slots, hF⟩
  · clear H
    clear hf0_links hf0_slots hf0_at hb0 hF
    clear hS
    rintro a w2 ⟨g2, hpre0, hS, hb0, hf0_at, hf0_links, hf0_slots, hF⟩
    subst hpre0
    have H := Fl.go_nxt Hl5
    clear Hl5
    refine c_pure [(2, .int .i64 (-1))] (fun R hR => st_val hS rfl rfl rfl (r_assign hS rfl rfl) fun a124 hS124 => wpList_nil (hR _ (hS124.re ⟨rfl, trivial⟩))) ?_
    clear hS
    clear a
    intro a hS
    refine wp_ret ?_
    have e := Option.some.inj H
    subst e
    repeat (with_reducible first | refine then_ret ?_ | refine inBlock_ret ?_)
    exact c_ret1 hS Try.results40 rfl ⟨_, rfl, g2, rfl, hF⟩


end Go.Proofs.Ythmjgadmadlpkaa.Sim

namespace Go.Proofs.Ythmjgadmadlpkaa.Sim
open Go
set_option linter.unusedVariables false
set_option linter.unusedSimpArgs false

/-! ### ref31_Schedule: function 19 -/
def ref31_Schedule.l0 (p0 : Int) : Nat → ref31_plan → Int → Option (ref31_plan)
  | 0, _, _ => none
  | k43 + 1, m0_0, m0_1 => if decide (m0_1 < p0) = true then ((app m0_0.at_ [(-1)]).bind fun y58 => ref31_Schedule.l0 p0 k43 (ref31_plan.mk m0_0.links ([] : List api_Slot) y58 m0_0.now) (wi (m0_1 + 1))) else (some (ref31_plan.mk m0_0.links ([] : List api_Slot) m0_0.at_ m0_0.now))
def ref31_Schedule.l2 (m1_0 : ref31_plan) : Nat → Int → Int → Option (Int)
  | 0, _, _ => none
  | k183 + 1, m2_0, m2_1 => if decide (m2_1 < (m1_0.slots.length : Int)) = true then (((idx m1_0.slots m2_1).bind fun x200 => if ((decide (m1_0.now < x200.End)) && ((m2_0 == 0) || (decide (x200.End < m2_0)))) = true then (some x200.End) else (some m2_0) : Option (Int)).bind fun v192 => ref31_Schedule.l2 m1_0 k183 v192 (wi (m2_1 + 1))) else (some m2_0)
def ref31_Schedule.l1 (p2 : List Int) (p3 : Int) : Nat → ref31_plan → Option ((List api_Slot) × Int)
  | 0, _ => none
  | k77 + 1, m1_0 => ((ref31_plan_ready.f m1_0).bind fun r87 => (ref31_plan_free.f m1_0 p3).bind fun r93 => if ((decide (0 ≤ r87)) && (decide (0 ≤ r93))) = true then ((idx m1_0.at_ r87).bind fun x113 => (idx p2 r87).bind fun x129 => (app m1_0.slots [(api_Slot.mk r87 r93 m1_0.now (wu (m1_0.now + x129)))]).bind fun y134 => some (.nxt (ref31_plan.mk m1_0.links y134 (upd m1_0.at_ r87 (m1_0.slots.length : Int)) m1_0.now))) else ((ref31_Schedule.l2 m1_0 FUEL 0 0 : Option (Int)).bind fun v179 => if (v179 == 0) = true then (some (.out (m1_0.slots, 0))) else (some (.nxt (ref31_plan.mk m1_0.links m1_0.slots m1_0.at_ v179)))) : Option (Fl ((List api_Slot) × Int) (ref31_plan))).bind fun o83 => o83.go fun v82 => ref31_Schedule.l1 p2 p3 k77 v82
def ref31_Schedule.f (p0 : Int) (p1 : List api_Link) (p2 : List Int) (p3 : Int) : Option ((List api_Slot) × Int) := (ref31_input.f p0 p1 p2 p3).bind fun r7 => if (r7 != 0) = true then (some ([], r7)) else (if (p3 == 0) = true then (some ([], 1)) else ((ref31_Schedule.l0 p0 FUEL (ref31_plan.mk p1 ([] : List api_Slot) ([] : List Int) 0) 0 : Option (ref31_plan)).bind fun v35 => ref31_Schedule.l1 p2 p3 FUEL (ref31_plan.mk v35.links ([] : List api_Slot) v35.at_ v35.now)))
set_option maxRecDepth 100000 in
set_option maxHeartbeats 4000000 in
theorem ref31_Schedule.calls {p0 : Int} {p1 : List api_Link} {A1 : Option Addr} {cap1 : Nat} {C1 : Nat → Prop} {p2 : List Int} {A2 : Option Addr} {cap2 : Nat} {C2 : Nat → Prop} {p3 : Int} {w : World} {g : Nat → Nat} {out : (List api_Slot) × Int} (N : Nat) (r0 : Nat) (hp1 : RdS kd_api_Link w g C1 A1 cap1 p1) (hC1 : ∀ c, C1 c → c < N) (hp2 : RdS (kint .u64) w g C2 A2 cap2 p2) (hC2 : ∀ c, C2 c → c < N) (hr0 : r0 + 2 ≤ N) (H : ref31_Schedule.f p0 p1 p2 p3 = some out) :
    Calls Try.prog 19 #[.int .i64 p0, .slice A1 p1.length cap1, .slice A2 p2.length cap2, .int .i64 p3] w (fun e w' => ∃ v, e = .returned v ∧ ∃ (g' : Nat → Nat) (A_r0 : Option Addr) (cap_r0 : Nat), v = .tuple #[.slice A_r0 out.1.length cap_r0, .int .i64 out.2] ∧ OwS kd_api_Slot 38 w' g' r0 A_r0 cap_r0 out.1 ∧ Fr (fun q => (r0 ≤ q ∧ q < r0 + 2) ∨ N ≤ q) w g w' g') := by
  unfold ref31_Schedule.f at H
  refine calls_enter Try.func19 rfl Try.ntmps19 rfl (fun a hS => ?_)
  replace hS : Sl 135 a [(0, .int .i64 p0), (1, .slice A1 p1.length cap1), (2, .slice A2 p2.length cap2), (3, .int .i64 p3)] := hS
  have hF : Fr (fun q => (r0 ≤ q ∧ q < r0 + 2) ∨ N ≤ q) w g w g := Fr.refl _ _ _
  refine c_pure [(0, .int .i64 p0), (1, .slice A1 p1.length cap1), (2, .slice A2 p2.length cap2), (3, .int .i64 p3)] (fun R hR => st_val hS rfl rfl rfl (r_assign hS rfl rfl) fun a1 hS1 => st_val hS1 rfl rfl rfl (r_assign hS1 rfl rfl) fun a2 hS2 => wpList_nil (hR _ (hS2.re ⟨rfl, rfl, rfl, rfl, trivial⟩))) ?_
  clear hS
  clear a
  intro a hS
  refine wp_seq ?_
  obtain ⟨r7, hr8, H⟩ := bind_el H
  refine c_region (fun K hK => ?_)
  refine st_val hS rfl rfl rfl (r_move hS rfl rfl) fun a3 hS3 => st_val hS3 rfl rfl rfl (r_move hS3 rfl rfl) fun a4 hS4 => st_val hS4 rfl rfl rfl (r_move hS4 rfl rfl) fun a5 hS5 => st_val hS5 rfl rfl rfl (r_move hS5 rfl rfl) fun a6 hS6 => ?_
  refine st_enter hS6 rfl rfl rfl (r_call hS6 rfl rfl (by kernel_rfl)) (ref31_input.calls (C1 := C1) (C2 := C2) (p0 := p0) (p1 := p1) (p2 := p2) (p3 := p3) (g := g) (N + 11)  hp1 (fun q (hq : C1 q) => by have := hC1 q hq; omega) hp2 (fun q (hq : C2 q) => by have := hC2 q hq; omega) hr8) ?_
  rintro _ a9 w10 ⟨g10, rfl, F10⟩ hS9
  replace hp1 := RdS.fr hp1 F10 (by decide) (fun q (hq : C1 q) (hm : N + 11 ≤ q) => by have := hC1 q hq; omega)
  replace hp2 := RdS.fr hp2 F10 (by decide) (fun q (hq : C2 q) (hm : N + 11 ≤ q) => by have := hC2 q hq; omega)
  replace hF := hF.trans F10 (fun c' (hm : N + 11 ≤ c') => by show (r0 ≤ c' ∧ c' < r0 + 2) ∨ N ≤ c'; omega)
  refine st_val hS9 rfl rfl rfl (r_assign hS9 rfl rfl) fun a11 hS11 => wpList_nil (hK _ _ ?_)
  replace hS : Sl 135 _ [(0, .int .i64 p0), (1, .slice A1 p1.length cap1), (2, .slice A2 p2.length cap2), (3, .int .i64 p3), (10, .int .i64 r7)] := hS11.re ⟨rfl, rfl, rfl, rfl, rfl, trivial⟩
  clear hK K
  try clear hS3 hS4 hS5 hS6 hS9 hS11
  obtain ⟨a, ha⟩ : ∃ a', a' = a11 := ⟨_, rfl⟩
  rw [← ha] at hS ⊢; clear ha
  refine c_pure [(0, .int .i64 p0), (1, .slice A1 p1.length cap1), (2, .slice A2 p2.length cap2), (3, .int .i64 p3), (10, .int .i64 r7), (24, .bool (r7 != 0))] (fun R hR => st_val hS rfl rfl rfl (r_move hS rfl rfl) fun a12 hS12 => st_val hS12 rfl rfl rfl (r_bin hS12 rfl rfl rfl b_neq) fun a13 hS13 => wpList_nil (hR _ (hS13.re ⟨rfl, rfl, rfl, rfl, rfl, rfl, trivial⟩))) ?_
  clear hS
  clear a
  intro a hS
  refine c_cond hS rfl (fun hb14 => ?_) (fun hb14 => ?_)
  · replace H := ite_t hb14 H
    refine c_pure [(8, .slice none 0 0), (9, .int .i64 r7)] (fun R hR => st_val hS rfl rfl rfl (r_move hS rfl rfl) fun a15 hS15 => st_val hS15 rfl rfl rfl (r_assign hS15 rfl rfl) fun a16 hS16 => st_val hS16 rfl rfl rfl (r_assign hS16 rfl rfl) fun a17 hS17 => wpList_nil (hR _ (hS17.re ⟨rfl, rfl, trivial⟩))) ?_
    clear hS
    clear a
    intro a hS
    refine wp_ret ?_
    have e := Option.some.inj H
    subst e
    repeat (with_reducible first | refine then_ret ?_ | refine inBlock_ret ?_)
    exact c_ret2 hS Try.results19 rfl rfl ⟨_, rfl, g10, none, 0, rfl, OwS.nil kd_api_Slot 38 w10 g10 r0, hF⟩
  · replace H := ite_f hb14 H
    refine wp_skip ?_
    change Code.wp _ _ _ _ _
    refine wp_seq ?_
    refine c_pure [(0, .int .i64 p0), (1, .slice A1 p1.length cap1), (2, .slice A2 p2.length cap2), (3, .int .i64 p3), (27, .bool (p3 == 0))] (fun R hR => st_val hS rfl rfl rfl (r_move hS rfl rfl) fun a18 hS18 => st_val hS18 rfl rfl rfl (r_bin hS18 rfl rfl rfl b_eql) fun a19 hS19 => wpList_nil (hR _ (hS19.re ⟨rfl, rfl, rfl, rfl, rfl, trivial⟩))) ?_
    clear hS
    clear a
    intro a hS
    refine c_cond hS rfl (fun hb20 => ?_) (fun hb20 => ?_)
    · replace H := ite_t hb20 H
      refine c_pure [(8, .slice none 0 0), (9, .int .i64 1)] (fun R hR => st_val hS rfl rfl rfl (r_assign hS rfl rfl) fun a21 hS21 => st_val hS21 rfl rfl rfl (r_assign hS21 rfl rfl) fun a22 hS22 => wpList_nil (hR _ (hS22.re ⟨rfl, rfl, trivial⟩))) ?_
      clear hS
      clear a
      intro a hS
      refine wp_ret ?_
      have e := Option.some.inj H
      subst e
      repeat (with_reducible first | refine then_ret ?_ | refine inBlock_ret ?_)
      exact c_ret2 hS Try.results19 rfl rfl ⟨_, rfl, g10, none, 0, rfl, OwS.nil kd_api_Slot 38 w10 g10 r0, hF⟩
    · replace H := ite_f hb20 H
      refine wp_skip ?_
      change Code.wp _ _ _ _ _
      refine c_region (fun K hK => ?_)
      refine st_val hS rfl rfl rfl (r_move hS rfl rfl) fun a23 hS23 => st_val hS23 rfl rfl rfl (r_build (parts := [(0, .slice A1 p1.length cap1)]) (u := .agg #[.slice A1 p1.length cap1, .slice none 0 0, .slice none 0 0, .int .u64 0]) hS23 rfl rfl (fun _ => by kernel_rfl)) fun a24 hS24 => ?_
      refine st_eff hS24 rfl rfl rfl (e_box (cs := [.slice A1 p1.length cap1, .slice none 0 0, .slice none 0 0, .int .u64 0]) (N + 0) g10 hS24 rfl rfl rfl) ?_
      rintro _ a28 w29 g29 ⟨⟨b25, rfl, h26⟩, F29⟩ hS28
      replace hp1 := RdS.fr hp1 F29 (by decide) (fun _ _ h => h)
      replace hp2 := RdS.fr hp2 F29 (by decide) (fun _ _ h => h)
      replace hF := hF.trans F29 (fun _ h => h.elim)
      refine st_val hS28 rfl rfl rfl (r_assign hS28 rfl rfl) fun a30 hS30 => wpList_nil (hK _ _ ?_)
      replace hS : Sl 135 _ [(0, .int .i64 p0), (2, .slice A2 p2.length cap2), (3, .int .i64 p3), (11, .pointer (some ⟨b25, 0, none⟩))] := hS30.re ⟨rfl, rfl, rfl, rfl, trivial⟩
      clear hK K
      try clear hS23 hS24 hS28 hS30
      obtain ⟨a, ha⟩ : ∃ a', a' = a30 := ⟨_, rfl⟩
      rw [← ha] at hS ⊢; clear ha
      obtain ⟨v35, H, Hl37⟩ := bind_el H
      refine c_cut (fun a w31 => ∃ (g31 : Nat → Nat), ∃ (A32 : Option Addr), ∃ (cap33 : Nat), Sl 135 a [(2, .slice A2 p2.length cap2), (3, .int .i64 p3), (11, .pointer (some ⟨b25, 0, none⟩))] ∧ Bx w31 g31 (N + 0) b25 80 [.slice A1 v35.links.length cap1, .slice none 0 0, .slice A32 v35.at_.length cap33, .int .u64 v35.now] ∧ OwS (kint .i64) 3 w31 g31 (N + 7) A32 cap33 v35.at_ ∧ RdS kd_api_Link w31 g31 C1 A1 cap1 v35.links ∧ RdS (kint .u64) w31 g31 C2 A2 cap2 p2 ∧ Fr (fun q => (r0 ≤ q ∧ q < r0 + 2) ∨ N ≤ q) w g w31 g31) ?_ ?_
      · refine c_pure [(0, .int .i64 p0), (2, .slice A2 p2.length cap2), (3, .int .i64 p3), (11, .pointer (some ⟨b25, 0, none⟩)), (12, .int .i64 0)] (fun R hR => st_val hS rfl rfl rfl (r_assign hS rfl rfl) fun a38 hS38 => wpList_nil (hR _ (hS38.re ⟨rfl, rfl, rfl, rfl, rfl, trivial⟩))) ?_
        clear hS
        clear a
        intro a hS
        refine wp_block ?_
        refine wp_loop_ghost (fun kq => fun a w39 => ∃ (m0_0 : ref31_plan), ∃ (m0_1 : Int), ∃ (g39 : Nat → Nat), ∃ (A40 : Option Addr), ∃ (cap41 : Nat), ref31_Schedule.l0 p0 kq m0_0 m0_1 = some v35 ∧ Sl 135 a [(0, .int .i64 p0), (2, .slice A2 p2.length cap2), (3, .int .i64 p3), (11, .pointer (some ⟨b25, 0, none⟩)), (12, .int .i64 m0_1)] ∧ Bx w39 g39 (N + 0) b25 80 [.slice A1 m0_0.links.length cap1, .slice none 0 0, .slice A40 m0_0.at_.length cap41, .int .u64 m0_0.now] ∧ OwS (kint .i64) 3 w39 g39 (N + 7) A40 cap41 m0_0.at_ ∧ RdS kd_api_Link w39 g39 C1 A1 cap1 m0_0.links ∧ RdS (kint .u64) w39 g39 C2 A2 cap2 p2 ∧ Fr (fun q => (r0 ≤ q ∧ q < r0 + 2) ∨ N ≤ q) w g w39 g39) FUEL ?_ ?_
        · exact ⟨(ref31_plan.mk p1 ([] : List api_Slot) ([] : List Int) 0), 0, g29, none, 0, H, hS.re ⟨rfl, rfl, rfl, rfl, rfl, trivial⟩, h26, OwS.nil (kint .i64) 3 w29 g29 (N + 7), hp1, hp2, hF⟩
        · clear H
          clear hp1 hp2 h26 hF
          clear hS
          rintro k43 a w39 ⟨m0_0, m0_1, g39, A40, cap41, hpre0, hS, h26, h42, hp1, hp2, hF⟩
          have H := hpre0
          clear hpre0
          cases k43 with
          | zero => exact absurd H (by simp [ref31_Schedule.l0])
          | succ k43 =>
            rw [ref31_Schedule.l0] at H
            refine wp_seq ?_
            refine c_pure [(0, .int .i64 p0), (2, .slice A2 p2.length cap2), (3, .int .i64 p3), (11, .pointer (some ⟨b25, 0, none⟩)), (12, .int .i64 m0_1), (33, .bool (decide (m0_1 < p0)))] (fun R hR => st_val hS rfl rfl rfl (r_move hS rfl rfl) fun a44 hS44 => st_val hS44 rfl rfl rfl (r_move hS44 rfl rfl) fun a45 hS45 => st_val hS45 rfl rfl rfl (r_bin hS45 rfl rfl rfl b_lss) fun a46 hS46 => wpList_nil (hR _ (hS46.re ⟨rfl, rfl, rfl, rfl, rfl, rfl, trivial⟩))) ?_
            clear hS
            clear a
            intro a hS
            refine c_cond hS rfl (fun hb47 => ?_) (fun hb47 => ?_)
            · replace H := ite_t hb47 H
              refine wp_skip ?_
              change Code.wp _ _ _ _ _
              refine wp_seq ?_
              refine wp_block ?_
              obtain ⟨y58, hy59, H⟩ := bind_el H
              refine c_region1 (fun K hK => ?_)
              refine st_val hS rfl rfl rfl (r_move hS rfl rfl) fun a48 hS48 => st_val hS48 rfl rfl rfl (r_move hS48 rfl rfl) fun a49 hS49 => st_val hS49 rfl rfl rfl (r_nil hS49 rfl rfl) fun a50 hS50 => st_val hS50 rfl rfl rfl (r_fieldB (off := 2) hS50 rfl rfl (by kernel_rfl)) fun a51 hS51 => st_val hS51 rfl rfl rfl (r_load1 (n := 1) hS51 rfl rfl (by kernel_rfl) (Bx.cell h26 rfl)) fun a52 hS52 => ?_
              refine st_eff hS52 rfl rfl rfl (e_lit (e := 3) (parts := [(0, .int .i64 (-1))]) (cs := [.int .i64 (-1)]) (kint .i64) [(-1)] (N + 5) g39 hS52 rfl rfl (fun _ => by kernel_rfl) rfl (by decide) (Rows.cons (cs := [.int .i64 (-1)]) rfl Rows.nil)) ?_
              rintro _ a56 w57 g57 ⟨⟨A53, rfl, h54⟩, F57⟩ hS56
              replace h26 := h26.fr F57 (fun h => h)
              replace h42 := OwS.fr h42 F57 (fun _ _ h => h)
              replace hp1 := RdS.fr hp1 F57 (by decide) (fun _ _ h => h)
              replace hp2 := RdS.fr hp2 F57 (by decide) (fun _ _ h => h)
              replace hF := hF.trans F57 (fun _ h => h.elim)
              refine st_eff hS56 rfl rfl rfl (e_append (e := 3) (sz := 1) (by_ := 8) (z := [.int .i64 0]) (kd := (kint .i64)) g57 hS56 rfl rfl rfl rfl (by kernel_rfl) (by kernel_rfl) rfl rfl rfl rfl h42 (OwD.rdx h54) (fun _ _ _ h => h) hy59) ?_
              rintro _ a64 w65 g65 ⟨⟨A60, cap61, rfl, h62⟩, F65⟩ hS64
              replace h26 := h26.fr F65 (fun (hm : N + 0 = N + 7) => by omega)
              replace h54 := OwS.fr h54 F65 (fun c' hc (hm : c' = N + 7) => by omega)
              replace hp1 := RdS.fr hp1 F65 (by decide) (fun q (hq : C1 q) (hm : q = N + 7) => by have := hC1 q hq; omega)
              replace hp2 := RdS.fr hp2 F65 (by decide) (fun q (hq : C2 q) (hm : q = N + 7) => by have := hC2 q hq; omega)
              replace hF := hF.trans F65 (fun c' (hm : c' = N + 7) => by show (r0 ≤ c' ∧ c' < r0 + 2) ∨ N ≤ c'; omega)
              refine st_val hS64 rfl rfl rfl (r_nil hS64 rfl rfl) fun a66 hS66 => st_val hS66 rfl rfl rfl (r_fieldB (off := 2) hS66 rfl rfl (by kernel_rfl)) fun a67 hS67 => ?_
              refine st_effS hS67 rfl rfl (e_storeB (n := 1) (bb := false) (cs' := [.slice A1 m0_0.links.length cap1, .slice none 0 0, .slice A60 y58.length cap61, .int .u64 m0_0.now]) g65 hS67 rfl rfl rfl (by kernel_rfl) rfl rfl rfl h26 rfl rfl) ?_
              rintro a68 w69 g69 ⟨h26, F69⟩ hS68
              replace h54 := OwS.fr h54 F69 (fun c' hc (hm : c' = N + 0) => by omega)
              replace h62 := OwS.fr h62 F69 (fun c' hc (hm : c' = N + 0) => by omega)
              replace hp1 := RdS.fr hp1 F69 (by decide) (fun q (hq : C1 q) (hm : q = N + 0) => by have := hC1 q hq; omega)
              replace hp2 := RdS.fr hp2 F69 (by decide) (fun q (hq : C2 q) (hm : q = N + 0) => by have := hC2 q hq; omega)
              replace hF := hF.trans F69 (fun c' (hm : c' = N + 0) => by show (r0 ≤ c' ∧ c' < r0 + 2) ∨ N ≤ c'; omega)
              refine wpList_nil (hK _ _ ?_)
              replace hS : Sl 135 _ [(0, .int .i64 p0), (2, .slice A2 p2.length cap2), (3, .int .i64 p3), (11, .pointer (some ⟨b25, 0, none⟩)), (12, .int .i64 m0_1)] := hS68.re ⟨rfl, rfl, rfl, rfl, rfl, trivial⟩
              clear hK K
              try clear hS48 hS49 hS50 hS51 hS52 hS56 hS64 hS66 hS67 hS68
              obtain ⟨a, ha⟩ : ∃ a', a' = a68 := ⟨_, rfl⟩
              rw [← ha] at hS ⊢; clear ha
              change Code.wp _ _ _ _ _
              refine c_pure1 [(0, .int .i64 p0), (2, .slice A2 p2.length cap2), (3, .int .i64 p3), (11, .pointer (some ⟨b25, 0, none⟩)), (12, .int .i64 (wi (m0_1 + 1)))] (fun R hR => st_val hS rfl rfl rfl (r_move hS rfl rfl) fun a70 hS70 => st_val hS70 rfl rfl rfl (r_bin hS70 rfl rfl rfl b_add) fun a71 hS71 => st_val hS71 rfl rfl rfl (r_assign hS71 rfl rfl) fun a72 hS72 => wpList_nil (hR _ (hS72.re ⟨rfl, rfl, rfl, rfl, rfl, trivial⟩))) ?_
              clear hS
              clear a
              intro a hS
              refine ⟨k43, Nat.lt_succ_self _, ?_⟩
              exact ⟨(ref31_plan.mk m0_0.links ([] : List api_Slot) y58 m0_0.now), wi (m0_1 + 1), g69, A60, cap61, H, hS.re ⟨rfl, rfl, rfl, rfl, rfl, trivial⟩, h26, h62, hp1, hp2, hF⟩
            · replace H := ite_f hb47 H
              refine wp_exit ?_
              have e := Option.some.inj H
              subst e
              exact ⟨g39, A40, cap41, hS.re ⟨rfl, rfl, rfl, trivial⟩, h26, h42, hp1, hp2, hF⟩
      · clear H
        clear hp1 hp2 h26 hF
        clear hS
        rintro a w31 ⟨g31, A32, cap33, hS, h26, h34, hp1, hp2, hF⟩
        have H := Hl37
        clear Hl37
        refine wp_block ?_
        refine wp_loop_ghost (fun kq => fun a w73 => ∃ (m1_0 : ref31_plan), ∃ (g73 : Nat → Nat), ∃ (A74 : Option Addr), ∃ (cap75 : Nat), ref31_Schedule.l1 p2 p3 kq m1_0 = some out ∧ Sl 135 a [(2, .slice A2 p2.length cap2), (3, .int .i64 p3), (11, .pointer (some ⟨b25, 0, none⟩))] ∧ Bx w73 g73 (N + 0) b25 80 [.slice A1 m1_0.links.length cap1, .slice A74 m1_0.slots.length cap75, .slice A32 m1_0.at_.length cap33, .int .u64 m1_0.now] ∧ OwS (kint .i64) 3 w73 g73 (N + 7) A32 cap33 m1_0.at_ ∧ OwS kd_api_Slot 38 w73 g73 (N + 0 + 1) A74 cap75 m1_0.slots ∧ RdS kd_api_Link w73 g73 C1 A1 cap1 m1_0.links ∧ RdS (kint .u64) w73 g73 C2 A2 cap2 p2 ∧ Fr (fun q => (r0 ≤ q ∧ q < r0 + 2) ∨ N ≤ q) w g w73 g73) FUEL ?_ ?_
        · exact ⟨(ref31_plan.mk v35.links ([] : List api_Slot) v35.at_ v35.now), g31, none, 0, H, hS.re ⟨rfl, rfl, rfl, trivial⟩, h26, h34, OwS.nil kd_api_Slot 38 w31 g31 (N + 0 + 1), hp1, hp2, hF⟩
        · clear H
          clear hp1 hp2 h26 h34 hF
          clear hS
          rintro k77 a w73 ⟨m1_0, g73, A74, cap75, hpre0, hS, h26, h34, h76, hp1, hp2, hF⟩
          have H := hpre0
          clear hpre0
          cases k77 with
          | zero => exact absurd H (by simp [ref31_Schedule.l1])
          | succ k77 =>
            rw [ref31_Schedule.l1] at H
            obtain ⟨o83, H, Hl84⟩ := bind_el H
            refine c_cut1 (fun a w78 => ∃ (v82 : ref31_plan), ∃ (g78 : Nat → Nat), ∃ (A79 : Option Addr), ∃ (cap80 : Nat), o83 = .nxt v82 ∧ Sl 135 a [(2, .slice A2 p2.length cap2), (3, .int .i64 p3), (11, .pointer (some ⟨b25, 0, none⟩))] ∧ Bx w78 g78 (N + 0) b25 80 [.slice A1 v82.links.length cap1, .slice A79 v82.slots.length cap80, .slice A32 v82.at_.length cap33, .int .u64 v82.now] ∧ OwS (kint .i64) 3 w78 g78 (N + 7) A32 cap33 v82.at_ ∧ OwS kd_api_Slot 38 w78 g78 (N + 0 + 1) A79 cap80 v82.slots ∧ RdS kd_api_Link w78 g78 C1 A1 cap1 v82.links ∧ RdS (kint .u64) w78 g78 C2 A2 cap2 p2 ∧ Fr (fun q => (r0 ≤ q ∧ q < r0 + 2) ∨ N ≤ q) w g w78 g78) ?_ ?_
            · refine wp_block ?_
              obtain ⟨r87, hr88, H⟩ := bind_el H
              obtain ⟨r93, hr94, H⟩ := bind_el H
              refine c_region (fun K hK => ?_)
              refine st_val hS rfl rfl rfl (r_move hS rfl rfl) fun a85 hS85 => ?_
              have F86 := Fr.recol2 w73 g73 (N + 7) (N + 0 + 3)
              replace h34 := h34.recol2 (N + 0 + 3)
              replace h26 := h26.fr F86 (fun (hm : N + 0 = N + 7 ∨ N + 0 = N + 7 + 1) => by omega)
              replace h76 := OwS.fr h76 F86 (fun c' hc (hm : c' = N + 7 ∨ c' = N + 7 + 1) => by omega)
              replace hp1 := RdS.fr hp1 F86 (by decide) (fun q (hq : C1 q) (hm : q = N + 7 ∨ q = N + 7 + 1) => by have := hC1 q hq; omega)
              replace hp2 := RdS.fr hp2 F86 (by decide) (fun q (hq : C2 q) (hm : q = N + 7 ∨ q = N + 7 + 1) => by have := hC2 q hq; omega)
              replace hF := hF.trans F86 (fun c' (hm : c' = N + 7 ∨ c' = N + 7 + 1) => by show (r0 ≤ c' ∧ c' < r0 + 2) ∨ N ≤ c'; omega)
              refine st_enter hS85 rfl rfl rfl (r_call hS85 rfl rfl (by kernel_rfl)) (ref31_plan_ready.calls (c0 := N + 0) (b_p0 := b25) (A_links_p0 := A1) (cap_links_p0 := cap1) (C_links_p0 := C1) (A_slots_p0 := A74) (cap_slots_p0 := cap75) (A_at_p0 := A32) (cap_at_p0 := cap33) (p0 := m1_0) (g := (recol2 g73 (N + 7) (N + 0 + 3))) (N + 11)  ⟨h26, hp1, h76, h34⟩ (by omega) (fun q (hq : C1 q) => by have := hC1 q hq; omega) hr88) ?_
              rintro _ a89 w90 ⟨g90, rfl, F90⟩ hS89
              replace h26 := h26.fr F90 (fun (hm : N + 11 ≤ N + 0) => by omega)
              replace h34 := OwS.fr h34 F90 (fun c' hc (hm : N + 11 ≤ c') => by omega)
              replace h76 := OwS.fr h76 F90 (fun c' hc (hm : N + 11 ≤ c') => by omega)
              replace hp1 := RdS.fr hp1 F90 (by decide) (fun q (hq : C1 q) (hm : N + 11 ≤ q) => by have := hC1 q hq; omega)
              replace hp2 := RdS.fr hp2 F90 (by decide) (fun q (hq : C2 q) (hm : N + 11 ≤ q) => by have := hC2 q hq; omega)
              replace hF := hF.trans F90 (fun c' (hm : N + 11 ≤ c') => by show (r0 ≤ c' ∧ c' < r0 + 2) ∨ N ≤ c'; omega)
              refine st_val hS89 rfl rfl rfl (r_move hS89 rfl rfl) fun a91 hS91 => st_val hS91 rfl rfl rfl (r_move hS91 rfl rfl) fun a92 hS92 => ?_
              refine st_enter hS92 rfl rfl rfl (r_call hS92 rfl rfl (by kernel_rfl)) (ref31_plan_free.calls (c0 := N + 0) (b_p0 := b25) (A_links_p0 := A1) (cap_links_p0 := cap1) (C_links_p0 := C1) (A_slots_p0 := A74) (cap_slots_p0 := cap75) (A_at_p0 := A32) (cap_at_p0 := cap33) (p0 := m1_0) (p1 := p3) (g := g90) (N + 11)  ⟨h26, hp1, h76, h34⟩ (by omega) (fun q (hq : C1 q) => by have := hC1 q hq; omega) hr94) ?_
              rintro _ a95 w96 ⟨g96, rfl, F96⟩ hS95
              replace h26 := h26.fr F96 (fun (hm : N + 11 ≤ N + 0) => by omega)
              replace h34 := OwS.fr h34 F96 (fun c' hc (hm : N + 11 ≤ c') => by omega)
              replace h76 := OwS.fr h76 F96 (fun c' hc (hm : N + 11 ≤ c') => by omega)
              replace hp1 := RdS.fr hp1 F96 (by decide) (fun q (hq : C1 q) (hm : N + 11 ≤ q) => by have := hC1 q hq; omega)
              replace hp2 := RdS.fr hp2 F96 (by decide) (fun q (hq : C2 q) (hm : N + 11 ≤ q) => by have := hC2 q hq; omega)
              replace hF := hF.trans F96 (fun c' (hm : N + 11 ≤ c') => by show (r0 ≤ c' ∧ c' < r0 + 2) ∨ N ≤ c'; omega)
              refine st_val hS95 rfl rfl rfl (r_assign hS95 rfl rfl) fun a97 hS97 => st_val hS97 rfl rfl rfl (r_assign hS97 rfl rfl) fun a98 hS98 => wpList_nil (hK _ _ ?_)
              replace hS : Sl 135 _ [(2, .slice A2 p2.length cap2), (3, .int .i64 p3), (11, .pointer (some ⟨b25, 0, none⟩)), (13, .int .i64 r87), (14, .int .i64 r93)] := hS98.re ⟨rfl, rfl, rfl, rfl, rfl, trivial⟩
              clear hK K
              try clear hS85 hS89 hS91 hS92 hS95 hS97 hS98
              obtain ⟨a, ha⟩ : ∃ a', a' = a98 := ⟨_, rfl⟩
              rw [← ha] at hS ⊢; clear ha
              refine wp_seq ?_
              refine c_region (fun K hK => ?_)
              refine st_val hS rfl rfl rfl (r_move hS rfl rfl) fun a99 hS99 => st_val hS99 rfl rfl rfl (r_bin hS99 rfl rfl rfl b_geq) fun a100 hS100 => st_val hS100 rfl rfl rfl (r_move hS100 rfl rfl) fun a101 hS101 => ?_
              refine g_join (N := 135) 3 [(2, .slice A2 p2.length cap2), (3, .int .i64 p3), (11, .pointer (some ⟨b25, 0, none⟩)), (13, .int .i64 r87), (14, .int .i64 r93), (55, .bool ((decide (0 ≤ r87)) && (decide (0 ≤ r93))))] ?_ (fun hk => ?_)
              rotate_left
              · rcases Bool.eq_false_or_eq_true (decide (0 ≤ r87)) with hb102 | hb102
                · refine st_valW hS101 (want_on hS101 rfl rfl rfl hb102) rfl rfl (r_move hS101 rfl rfl) fun a105 hS105 => st_valW hS105 (want_on hS105 rfl rfl rfl hb102) rfl rfl (r_bin hS105 rfl rfl rfl b_geq) fun a106 hS106 => st_val hS106 rfl rfl rfl (r_pickT hS106 rfl rfl rfl hb102) fun a107 hS107 => hk _ (hS107.re ⟨rfl, rfl, rfl, rfl, rfl, (by rw [hb102]; rfl), trivial⟩)
                · refine st_off hS101 (want_off hS101 rfl rfl rfl hb102) rfl rfl fun a108 hS108 => st_off hS108 (want_off hS108 rfl rfl rfl hb102) rfl rfl fun a109 hS109 => st_val hS109 rfl rfl rfl (r_pickF hS109 rfl rfl rfl hb102) fun a110 hS110 => hk _ (hS110.re ⟨rfl, rfl, rfl, rfl, rfl, (by rw [hb102]; rfl), trivial⟩)
              intro a111 hS111
              refine wpList_nil (hK _ _ ?_)
              replace hS : Sl 135 _ [(2, .slice A2 p2.length cap2), (3, .int .i64 p3), (11, .pointer (some ⟨b25, 0, none⟩)), (13, .int .i64 r87), (14, .int .i64 r93), (55, .bool ((decide (0 ≤ r87)) && (decide (0 ≤ r93))))] := hS111.re ⟨rfl, rfl, rfl, rfl, rfl, rfl, trivial⟩
              clear hK K
              try clear hS99 hS100 hS101 hS111
              obtain ⟨a, ha⟩ : ∃ a', a' = a111 := ⟨_, rfl⟩
              rw [← ha] at hS ⊢; clear ha
              refine c_cond hS rfl (fun hb112 => ?_) (fun hb112 => ?_)
              · replace H := ite_t hb112 H
                obtain ⟨x113, hx114, H⟩ := bind_el H
                refine c_draw (fun K hK => d_start (fun q => False) g96 [11] 12 #[false, false, false, false, false, false, false, false, false, false, false, false] (by kernel_rfl) rfl rfl (fun w115 hw115 => ?_))
                have F115 : Fr (fun _ => False) w96 g96 w115 g96 := by rw [hw115]; exact Fr.drew _ _ _
                replace h26 := h26.fr F115 (fun h => h)
                replace h34 := OwS.fr h34 F115 (fun _ _ h => h)
                replace h76 := OwS.fr h76 F115 (fun _ _ h => h)
                replace hp1 := RdS.fr hp1 F115 (by decide) (fun _ _ h => h)
                replace hp2 := RdS.fr hp2 F115 (by decide) (fun _ _ h => h)
                replace hF := hF.trans F115 (fun _ h => h.elim)
                have hC : Fr (fun q => False) w115 g96 w115 g96 := Fr.refl _ _ _
                refine d_pure hS 0 #[true, false, false, false, false, false, false, false, false, false, false, false] rfl rfl rfl rfl (by kernel_rfl) (fun _ _ _ h => h) (fun _ => (r_move hS rfl rfl)) fun a116 hS116 => d_pure hS116 1 #[true, true, false, false, false, false, false, false, false, false, false, false] rfl rfl rfl rfl (by kernel_rfl) (fun _ _ _ h => h) (fun _ => (r_nil hS116 rfl rfl)) fun a117 hS117 => d_pure hS117 2 #[true, true, true, false, false, false, false, false, false, false, false, false] rfl rfl rfl rfl (by kernel_rfl) (fun _ _ _ h => h) (fun _ => (r_fieldB (off := 2) hS117 rfl rfl (by kernel_rfl))) fun a118 hS118 => d_take hS118 3 #[true, true, true, true, false, false, false, false, false, false, false, false] rfl rfl rfl rfl (by kernel_rfl) (fun _ _ _ h => h) ⟨_, hC⟩ (fun w' g' Fz => (r_load1 (n := 1) hS118 rfl rfl (by kernel_rfl) (Bx.cell (h26.fr Fz (fun h => h)) rfl))) fun a119 hS119 => d_pure hS119 4 #[true, true, true, true, true, false, false, false, false, false, false, false] rfl rfl rfl rfl (by kernel_rfl) (fun _ _ _ h => h) (fun _ => (r_move hS119 rfl rfl)) fun a120 hS120 => d_pure hS120 5 #[true, true, true, true, true, true, false, false, false, false, false, false] rfl rfl rfl rfl (by kernel_rfl) (fun _ _ _ h => h) (fun _ => (r_move hS120 rfl rfl)) fun a121 hS121 => d_pure hS121 6 #[true, true, true, true, true, true, true, false, false, false, false, false] rfl rfl rfl rfl (by kernel_rfl) (fun _ _ _ h => h) (fun _ => (r_nil hS121 rfl rfl)) fun a122 hS122 => d_pure hS122 7 #[true, true, true, true, true, true, true, true, false, false, false, false] rfl rfl rfl rfl (by kernel_rfl) (fun _ _ _ h => h) (fun _ => (r_fieldB (off := 1) hS122 rfl rfl (by kernel_rfl))) fun a123 hS123 => d_take hS123 8 #[true, true, true, true, true, true, true, true, true, false, false, false] rfl rfl rfl rfl (by kernel_rfl) (fun _ _ _ h => h) ⟨_, hC⟩ (fun w' g' Fz => (r_load1 (n := 1) hS123 rfl rfl (by kernel_rfl) (Bx.cell (h26.fr Fz (fun h => h)) rfl))) fun a124 hS124 => d_pure hS124 9 #[true, true, true, true, true, true, true, true, true, true, false, false] rfl rfl rfl rfl (by kernel_rfl) (fun _ _ _ h => h) (fun _ => (r_len (e := 38) (sz := 4) (by_ := 32) hS124 rfl rfl (by kernel_rfl))) fun a125 hS125 => d_pure hS125 10 #[true, true, true, true, true, true, true, true, true, true, true, false] rfl rfl rfl rfl (by kernel_rfl) (fun _ _ _ h => h) (fun _ => (r_index (e := 3) (sz := 1) (by_ := 8) hS125 rfl rfl rfl (by kernel_rfl) (RdS.some_ (OwS.rd h34) hx114) (idx_lo hx114) (idx_hi hx114))) fun a126 hS126 => ?_
                refine d_one 11 #[true, true, true, true, true, true, true, true, true, true, true, true] rfl (by kernel_rfl) (arm_effS hS126 rfl rfl (e_storeE (n := 1) (bb := false) (kd := (kint .i64)) (j := 0) (x' := (m1_0.slots.length : Int)) (us := [.int .i64 (m1_0.slots.length : Int)]) g96 hS126 rfl rfl rfl rfl (by kernel_rfl) rfl rfl (by intro v hv; simp only [List.mem_cons, List.not_mem_nil, or_false] at hv; rcases hv with rfl <;> rfl) h34 hx114 rfl (fun _ _ cs hR => by rw [show cs = _ from hR]; rfl)) (.inl (by decide)) ?_)
                rintro a127 w128 g128 ⟨h34, F128⟩ hS127
                replace h26 := h26.fr F128 (fun (hm : N + 0 = N + 0 + 3) => by omega)
                replace h76 := OwS.fr h76 F128 (fun c' hc (hm : c' = N + 0 + 3) => by omega)
                replace hp1 := RdS.fr hp1 F128 (by decide) (fun q (hq : C1 q) (hm : q = N + 0 + 3) => by have := hC1 q hq; omega)
                replace hp2 := RdS.fr hp2 F128 (by decide) (fun q (hq : C2 q) (hm : q = N + 0 + 3) => by have := hC2 q hq; omega)
                replace hF := hF.trans F128 (fun c' (hm : c' = N + 0 + 3) => by show (r0 ≤ c' ∧ c' < r0 + 2) ∨ N ≤ c'; omega)
                replace h26 : Bx w128 g128 (N + 0) b25 80 [.slice A1 m1_0.links.length cap1, .slice A74 m1_0.slots.length cap75, .slice A32 (upd m1_0.at_ r87 (m1_0.slots.length : Int)).length cap33, .int .u64 m1_0.now] := by simpa only [upd_length] using h26
                refine d_done (by kernel_rfl) (hK _ _ ?_)
                replace hS : Sl 135 _ [(2, .slice A2 p2.length cap2), (3, .int .i64 p3), (11, .pointer (some ⟨b25, 0, none⟩)), (13, .int .i64 r87), (14, .int .i64 r93)] := hS127.re ⟨rfl, rfl, rfl, rfl, rfl, trivial⟩
                clear hK K hC
                try clear hS116 hS117 hS118 hS119 hS120 hS121 hS122 hS123 hS124 hS125 hS126 hS127
                obtain ⟨a, ha⟩ : ∃ a', a' = a127 := ⟨_, rfl⟩
                rw [← ha] at hS ⊢; clear ha
                obtain ⟨x129, hx130, H⟩ := bind_el H
                obtain ⟨y134, hy135, H⟩ := bind_el H
                refine c_draw (fun K hK => d_start (fun q => q = N + 0 + 1) g128 [25] 26 #[false, false, false, false, false, false, false, false, false, false, false, false, false, false, false, false, false, false, false, false, false, false, false, false, false, false] (by kernel_rfl) rfl rfl (fun w140 hw140 => ?_))
                have F140 : Fr (fun _ => False) w128 g128 w140 g128 := by rw [hw140]; exact Fr.drew _ _ _
                replace h26 := h26.fr F140 (fun h => h)
                replace h34 := OwS.fr h34 F140 (fun _ _ h => h)
                replace h76 := OwS.fr h76 F140 (fun _ _ h => h)
                replace hp1 := RdS.fr hp1 F140 (by decide) (fun _ _ h => h)
                replace hp2 := RdS.fr hp2 F140 (by decide) (fun _ _ h => h)
                replace hF := hF.trans F140 (fun _ h => h.elim)
                have hC : Fr (fun q => q = N + 0 + 1) w140 g128 w140 g128 := Fr.refl _ _ _
                refine d_pure hS 0 #[true, false, false, false, false, false, false, false, false, false, false, false, false, false, false, false, false, false, false, false, false, false, false, false, false, false] rfl rfl rfl rfl (by kernel_rfl) (fun _ _ _ h => h) (fun _ => (r_move hS rfl rfl)) fun a141 hS141 => d_pure hS141 1 #[true, true, false, false, false, false, false, false, false, false, false, false, false, false, false, false, false, false, false, false, false, false, false, false, false, false] rfl rfl rfl rfl (by kernel_rfl) (fun _ _ _ h => h) (fun _ => (r_move hS141 rfl rfl)) fun a142 hS142 => d_pure hS142 2 #[true, true, true, false, false, false, false, false, false, false, false, false, false, false, false, false, false, false, false, false, false, false, false, false, false, false] rfl rfl rfl rfl (by kernel_rfl) (fun _ _ _ h => h) (fun _ => (r_nil hS142 rfl rfl)) fun a143 hS143 => d_pure hS143 3 #[true, true, true, true, false, false, false, false, false, false, false, false, false, false, false, false, false, false, false, false, false, false, false, false, false, false] rfl rfl rfl rfl (by kernel_rfl) (fun _ _ _ h => h) (fun _ => (r_fieldB (off := 1) hS143 rfl rfl (by kernel_rfl))) fun a144 hS144 => d_take hS144 4 #[true, true, true, true, true, false, false, false, false, false, false, false, false, false, false, false, false, false, false, false, false, false, false, false, false, false] rfl rfl rfl rfl (by kernel_rfl) (fun _ _ _ h => h) ⟨_, hC⟩ (fun w' g' Fz => (r_load1 (n := 1) hS144 rfl rfl (by kernel_rfl) (Bx.cell (h26.fr Fz (fun (hm : N + 0 = N + 0 + 1) => by omega)) rfl))) fun a145 hS145 => d_pure hS145 5 #[true, true, true, true, true, true, false, false, false, false, false, false, false, false, false, false, false, false, false, false, false, false, false, false, false, false] rfl rfl rfl rfl (by kernel_rfl) (fun _ _ _ h => h) (fun _ => (r_move hS145 rfl rfl)) fun a146 hS146 => d_pure hS146 6 #[true, true, true, true, true, true, true, false, false, false, false, false, false, false, false, false, false, false, false, false, false, false, false, false, false, false] rfl rfl rfl rfl (by kernel_rfl) (fun _ _ _ h => h) (fun _ => (r_move hS146 rfl rfl)) fun a147 hS147 => d_pure hS147 7 #[true, true, true, true, true, true, true, true, false, false, false, false, false, false, false, false, false, false, false, false, false, false, false, false, false, false] rfl rfl rfl rfl (by kernel_rfl) (fun _ _ _ h => h) (fun _ => (r_move hS147 rfl rfl)) fun a148 hS148 => d_pure hS148 8 #[true, true, true, true, true, true, true, true, true, false, false, false, false, false, false, false, false, false, false, false, false, false, false, false, false, false] rfl rfl rfl rfl (by kernel_rfl) (fun _ _ _ h => h) (fun _ => (r_nil hS148 rfl rfl)) fun a149 hS149 => d_pure hS149 9 #[true, true, true, true, true, true, true, true, true, true, false, false, false, false, false, false, false, false, false, false, false, false, false, false, false, false] rfl rfl rfl rfl (by kernel_rfl) (fun _ _ _ h => h) (fun _ => (r_fieldB (off := 3) hS149 rfl rfl (by kernel_rfl))) fun a150 hS150 => d_take hS150 10 #[true, true, true, true, true, true, true, true, true, true, true, false, false, false, false, false, false, false, false, false, false, false, false, false, false, false] rfl rfl rfl rfl (by kernel_rfl) (fun _ _ _ h => h) ⟨_, hC⟩ (fun w' g' Fz => (r_load1 (n := 1) hS150 rfl rfl (by kernel_rfl) (Bx.cell (h26.fr Fz (fun (hm : N + 0 = N + 0 + 1) => by omega)) rfl))) fun a151 hS151 => d_pure hS151 11 #[true, true, true, true, true, true, true, true, true, true, true, true, false, false, false, false, false, false, false, false, false, false, false, false, false, false] rfl rfl rfl rfl (by kernel_rfl) (fun _ _ _ h => h) (fun _ => (r_move hS151 rfl rfl)) fun a152 hS152 => d_pure hS152 12 #[true, true, true, true, true, true, true, true, true, true, true, true, true, false, false, false, false, false, false, false, false, false, false, false, false, false] rfl rfl rfl rfl (by kernel_rfl) (fun _ _ _ h => h) (fun _ => (r_nil hS152 rfl rfl)) fun a153 hS153 => d_pure hS153 13 #[true, true, true, true, true, true, true, true, true, true, true, true, true, true, false, false, false, false, false, false, false, false, false, false, false, false] rfl rfl rfl rfl (by kernel_rfl) (fun _ _ _ h => h) (fun _ => (r_fieldB (off := 3) hS153 rfl rfl (by kernel_rfl))) fun a154 hS154 => d_take hS154 14 #[true, true, true, true, true, true, true, true, true, true, true, true, true, true, true, false, false, false, false, false, false, false, false, false, false, false] rfl rfl rfl rfl (by kernel_rfl) (fun _ _ _ h => h) ⟨_, hC⟩ (fun w' g' Fz => (r_load1 (n := 1) hS154 rfl rfl (by kernel_rfl) (Bx.cell (h26.fr Fz (fun (hm : N + 0 = N + 0 + 1) => by omega)) rfl))) fun a155 hS155 => d_pure hS155 15 #[true, true, true, true, true, true, true, true, true, true, true, true, true, true, true, true, false, false, false, false, false, false, false, false, false, false] rfl rfl rfl rfl (by kernel_rfl) (fun _ _ _ h => h) (fun _ => (r_move hS155 rfl rfl)) fun a156 hS156 => d_pure hS156 16 #[true, true, true, true, true, true, true, true, true, true, true, true, true, true, true, true, true, false, false, false, false, false, false, false, false, false] rfl rfl rfl rfl (by kernel_rfl) (fun _ _ _ h => h) (fun _ => (r_move hS156 rfl rfl)) fun a157 hS157 => d_pure hS157 17 #[true, true, true, true, true, true, true, true, true, true, true, true, true, true, true, true, true, true, false, false, false, false, false, false, false, false] rfl rfl rfl rfl (by kernel_rfl) (fun _ _ _ h => h) (fun _ => (r_index (e := 33) (sz := 1) (by_ := 8) hS157 rfl rfl rfl (by kernel_rfl) (RdS.some_ hp2 hx130) (idx_lo hx130) (idx_hi hx130))) fun a158 hS158 => d_take hS158 18 #[true, true, true, true, true, true, true, true, true, true, true, true, true, true, true, true, true, true, true, false, false, false, false, false, false, false] rfl rfl rfl rfl (by kernel_rfl) (fun _ _ _ h => h) ⟨_, hC⟩ (fun w' g' Fz => (r_load1 (n := 1) hS158 rfl rfl (by kernel_rfl) (RdS.cell (i := r87) (sz := 1) (j := 0) (RdS.fr hp2 Fz (by decide) (fun q (hq : C2 q) (hm : q = N + 0 + 1) => by have := hC2 q hq; omega)) hx130 rfl))) fun a159 hS159 => d_pure hS159 19 #[true, true, true, true, true, true, true, true, true, true, true, true, true, true, true, true, true, true, true, true, false, false, false, false, false, false] rfl rfl rfl rfl (by kernel_rfl) (fun _ _ _ h => h) (fun _ => (r_bin hS159 rfl rfl rfl b_add)) fun a160 hS160 => d_pure hS160 20 #[true, true, true, true, true, true, true, true, true, true, true, true, true, true, true, true, true, true, true, true, true, false, false, false, false, false] rfl rfl rfl rfl (by kernel_rfl) (fun _ _ _ h => h) (fun _ => (r_build (parts := [(0, .int .i64 r87), (1, .int .i64 r93), (2, .int .u64 m1_0.now), (3, .int .u64 (wu (m1_0.now + x129)))]) (u := .agg #[.int .i64 r87, .int .i64 r93, .int .u64 m1_0.now, .int .u64 (wu (m1_0.now + x129))]) hS160 rfl rfl (fun _ => by kernel_rfl))) fun a161 hS161 => ?_
                refine d_one 21 #[true, true, true, true, true, true, true, true, true, true, true, true, true, true, true, true, true, true, true, true, true, true, false, false, false, false] rfl (by kernel_rfl) (arm_eff hS161 rfl rfl rfl (e_lit (e := 38) (parts := [(0, .agg #[.int .i64 r87, .int .i64 r93, .int .u64 m1_0.now, .int .u64 (wu (m1_0.now + x129))])]) (cs := [.int .i64 r87, .int .i64 r93, .int .u64 m1_0.now, .int .u64 (wu (m1_0.now + x129))]) kd_api_Slot [(api_Slot.mk r87 r93 m1_0.now (wu (m1_0.now + x129)))] (N + 9) g128 hS161 rfl rfl (fun _ => by kernel_rfl) rfl (by decide) (Rows.cons (cs := [.int .i64 r87, .int .i64 r93, .int .u64 m1_0.now, .int .u64 (wu (m1_0.now + x129))]) rfl Rows.nil)) (fun _ _ g' hR _ => ⟨g', hC.trans hR.2 (fun _ h => h.elim)⟩) ?_)
                rintro _ a165 w166 g166 ⟨⟨A162, rfl, h163⟩, F166⟩ hS165
                have hC166 := hC.trans F166 (fun _ h => h.elim)
                replace h26 := h26.fr F166 (fun h => h)
                replace h34 := OwS.fr h34 F166 (fun _ _ h => h)
                replace h76 := OwS.fr h76 F166 (fun _ _ h => h)
                replace hp1 := RdS.fr hp1 F166 (by decide) (fun _ _ h => h)
                replace hp2 := RdS.fr hp2 F166 (by decide) (fun _ _ h => h)
                replace hF := hF.trans F166 (fun _ h => h.elim)
                refine d_one 22 #[true, true, true, true, true, true, true, true, true, true, true, true, true, true, true, true, true, true, true, true, true, true, true, false, false, false] rfl (by kernel_rfl) (arm_eff hS165 rfl rfl rfl (e_append (e := 38) (sz := 4) (by_ := 32) (z := [.int .i64 0, .int .i64 0, .int .u64 0, .int .u64 0]) (kd := kd_api_Slot) g166 hS165 rfl rfl rfl rfl (by kernel_rfl) (by kernel_rfl) rfl rfl rfl rfl h76 (OwD.rdx h163) (fun _ _ _ h => h) hy135) (fun _ _ g' hR _ => ⟨g', hC166.trans hR.2 (fun c' (hm : c' = N + 0 + 1) => by show c' = N + 0 + 1; omega)⟩) ?_)
                rintro _ a171 w172 g172 ⟨⟨A167, cap168, rfl, h169⟩, F172⟩ hS171
                have hC172 := hC166.trans F172 (fun c' (hm : c' = N + 0 + 1) => by show c' = N + 0 + 1; omega)
                replace h163 := OwS.fr h163 F172 (fun c' hc (hm : c' = N + 0 + 1) => by omega)
                replace h26 := h26.fr F172 (fun (hm : N + 0 = N + 0 + 1) => by omega)
                replace h34 := OwS.fr h34 F172 (fun c' hc (hm : c' = N + 0 + 1) => by omega)
                replace hp1 := RdS.fr hp1 F172 (by decide) (fun q (hq : C1 q) (hm : q = N + 0 + 1) => by have := hC1 q hq; omega)
                replace hp2 := RdS.fr hp2 F172 (by decide) (fun q (hq : C2 q) (hm : q = N + 0 + 1) => by have := hC2 q hq; omega)
                replace hF := hF.trans F172 (fun c' (hm : c' = N + 0 + 1) => by show (r0 ≤ c' ∧ c' < r0 + 2) ∨ N ≤ c'; omega)
                refine d_pure hS171 23 #[true, true, true, true, true, true, true, true, true, true, true, true, true, true, true, true, true, true, true, true, true, true, true, true, false, false] rfl rfl rfl rfl (by kernel_rfl) (fun _ _ _ h => h) (fun _ => (r_nil hS171 rfl rfl)) fun a173 hS173 => d_pure hS173 24 #[true, true, true, true, true, true, true, true, true, true, true, true, true, true, true, true, true, true, true, true, true, true, true, true, true, false] rfl rfl rfl rfl (by kernel_rfl) (fun _ _ _ h => h) (fun _ => (r_fieldB (off := 1) hS173 rfl rfl (by kernel_rfl))) fun a174 hS174 => ?_
                refine d_one 25 #[true, true, true, true, true, true, true, true, true, true, true, true, true, true, true, true, true, true, true, true, true, true, true, true, true, true] rfl (by kernel_rfl) (arm_effS hS174 rfl rfl (e_storeB (n := 1) (bb := false) (cs' := [.slice A1 m1_0.links.length cap1, .slice A167 y134.length cap168, .slice A32 (upd m1_0.at_ r87 (m1_0.slots.length : Int)).length cap33, .int .u64 m1_0.now]) g172 hS174 rfl rfl rfl (by kernel_rfl) rfl rfl rfl h26 rfl rfl) (.inl (by decide)) ?_)
                rintro a175 w176 g176 ⟨h26, F176⟩ hS175
                replace h163 := OwS.fr h163 F176 (fun c' hc (hm : c' = N + 0) => by omega)
                replace h169 := OwS.fr h169 F176 (fun c' hc (hm : c' = N + 0) => by omega)
                replace h34 := OwS.fr h34 F176 (fun c' hc (hm : c' = N + 0) => by omega)
                replace hp1 := RdS.fr hp1 F176 (by decide) (fun q (hq : C1 q) (hm : q = N + 0) => by have := hC1 q hq; omega)
                replace hp2 := RdS.fr hp2 F176 (by decide) (fun q (hq : C2 q) (hm : q = N + 0) => by have := hC2 q hq; omega)
                replace hF := hF.trans F176 (fun c' (hm : c' = N + 0) => by show (r0 ≤ c' ∧ c' < r0 + 2) ∨ N ≤ c'; omega)
                refine d_done (by kernel_rfl) (hK _ _ ?_)
                replace hS : Sl 135 _ [(2, .slice A2 p2.length cap2), (3, .int .i64 p3), (11, .pointer (some ⟨b25, 0, none⟩))] := hS175.re ⟨rfl, rfl, rfl, trivial⟩
                clear hK K hC
                try clear hS141 hS142 hS143 hS144 hS145 hS146 hS147 hS148 hS149 hS150 hS151 hS152 hS153 hS154 hS155 hS156 hS157 hS158 hS159 hS160 hS161 hS165 hS171 hS173 hS174 hS175
                obtain ⟨a, ha⟩ : ∃ a', a' = a175 := ⟨_, rfl⟩
                rw [← ha] at hS ⊢; clear ha
                refine wp_exit ?_
                have e := Option.some.inj H
                have F177 := Fr.recol2 w176 g176 (N + 0 + 3) (N + 7)
                replace h34 := h34.recol2 (N + 7)
                replace h169 := OwS.fr h169 F177 (fun c' hc (hm : c' = N + 0 + 3 ∨ c' = N + 0 + 3 + 1) => by omega)
                replace h26 := h26.fr F177 (fun (hm : N + 0 = N + 0 + 3 ∨ N + 0 = N + 0 + 3 + 1) => by omega)
                replace hp1 := RdS.fr hp1 F177 (by decide) (fun q (hq : C1 q) (hm : q = N + 0 + 3 ∨ q = N + 0 + 3 + 1) => by have := hC1 q hq; omega)
                replace hp2 := RdS.fr hp2 F177 (by decide) (fun q (hq : C2 q) (hm : q = N + 0 + 3 ∨ q = N + 0 + 3 + 1) => by have := hC2 q hq; omega)
                replace hF := hF.trans F177 (fun c' (hm : c' = N + 0 + 3 ∨ c' = N + 0 + 3 + 1) => by show (r0 ≤ c' ∧ c' < r0 + 2) ∨ N ≤ c'; omega)
                exact ⟨(ref31_plan.mk m1_0.links y134 (upd m1_0.at_ r87 (m1_0.slots.length : Int)) m1_0.now), (recol2 g176 (N + 0 + 3) (N + 7)), A167, cap168, e.symm, hS.re ⟨rfl, rfl, rfl, trivial⟩, h26, h34, h169, hp1, hp2, hF⟩
              · replace H := ite_f hb112 H
                refine wp_skip ?_
                change Code.wp _ _ _ _ _
                refine c_pure [(2, .slice A2 p2.length cap2), (3, .int .i64 p3), (11, .pointer (some ⟨b25, 0, none⟩)), (15, .int .u64 0)] (fun R hR => st_val hS rfl rfl rfl (r_assign hS rfl rfl) fun a178 hS178 => wpList_nil (hR _ (hS178.re ⟨rfl, rfl, rfl, rfl, trivial⟩))) ?_
                clear hS
                clear a
                intro a hS
                obtain ⟨v179, H, Hl181⟩ := bind_el H
                refine c_cut (fun a w' => w96 = w' ∧ Sl 135 a [(2, .slice A2 p2.length cap2), (3, .int .i64 p3), (11, .pointer (some ⟨b25, 0, none⟩)), (15, .int .u64 v179)]) ?_ ?_
                · refine c_pure [(2, .slice A2 p2.length cap2), (3, .int .i64 p3), (11, .pointer (some ⟨b25, 0, none⟩)), (15, .int .u64 0), (16, .int .i64 0)] (fun R hR => st_val hS rfl rfl rfl (r_assign hS rfl rfl) fun a182 hS182 => wpList_nil (hR _ (hS182.re ⟨rfl, rfl, rfl, rfl, rfl, trivial⟩))) ?_
                  clear hS
                  clear a
                  intro a hS
                  refine wp_block ?_
                  refine wp_loop_ghost (fun kq => fun a w' => ∃ (m2_0 : Int), ∃ (m2_1 : Int), ref31_Schedule.l2 m1_0 kq m2_0 m2_1 = some v179 ∧ w96 = w' ∧ Sl 135 a [(2, .slice A2 p2.length cap2), (3, .int .i64 p3), (11, .pointer (some ⟨b25, 0, none⟩)), (15, .int .u64 m2_0), (16, .int .i64 m2_1)]) FUEL ?_ ?_
                  · exact ⟨0, 0, H, rfl, hS.re ⟨rfl, rfl, rfl, rfl, rfl, trivial⟩⟩
                  · clear H
                    clear hS
                    rintro k183 a w' ⟨m2_0, m2_1, hpre0, hw, hS⟩
                    subst hw
                    have H := hpre0
                    clear hpre0
                    cases k183 with
                    | zero => exact absurd H (by simp [ref31_Schedule.l2])
                    | succ k183 =>
                      rw [ref31_Schedule.l2] at H
                      refine wp_seq ?_
                      refine c_pure [(2, .slice A2 p2.length cap2), (3, .int .i64 p3), (11, .pointer (some ⟨b25, 0, none⟩)), (15, .int .u64 m2_0), (16, .int .i64 m2_1), (98, .bool (decide (m2_1 < (m1_0.slots.length : Int))))] (fun R hR => st_val hS rfl rfl rfl (r_move hS rfl rfl) fun a184 hS184 => st_val hS184 rfl rfl rfl (r_move hS184 rfl rfl) fun a185 hS185 => st_val hS185 rfl rfl rfl (r_nil hS185 rfl rfl) fun a186 hS186 => st_val hS186 rfl rfl rfl (r_fieldB (off := 1) hS186 rfl rfl (by kernel_rfl)) fun a187 hS187 => st_val hS187 rfl rfl rfl (r_load1 (n := 1) hS187 rfl rfl (by kernel_rfl) (Bx.cell h26 rfl)) fun a188 hS188 => st_val hS188 rfl rfl rfl (r_len (e := 38) (sz := 4) (by_ := 32) hS188 rfl rfl (by kernel_rfl)) fun a189 hS189 => st_val hS189 rfl rfl rfl (r_bin hS189 rfl rfl rfl b_lss) fun a190 hS190 => wpList_nil (hR _ (hS190.re ⟨rfl, rfl, rfl, rfl, rfl, rfl, trivial⟩))) ?_
                      clear hS
                      clear a
                      intro a hS
                      refine c_cond hS rfl (fun hb191 => ?_) (fun hb191 => ?_)
                      · replace H := ite_t hb191 H
                        refine wp_skip ?_
                        change Code.wp _ _ _ _ _
                        obtain ⟨v192, H, Hl194⟩ := bind_el H
                        refine c_cut (fun a w' => w96 = w' ∧ Sl 135 a [(2, .slice A2 p2.length cap2), (3, .int .i64 p3), (11, .pointer (some ⟨b25, 0, none⟩)), (15, .int .u64 v192), (16, .int .i64 m2_1)]) ?_ ?_
                        · refine wp_block ?_
                          obtain ⟨x200, hx201, H⟩ := bind_el H
                          refine c_pure [(2, .slice A2 p2.length cap2), (3, .int .i64 p3), (11, .pointer (some ⟨b25, 0, none⟩)), (15, .int .u64 m2_0), (16, .int .i64 m2_1), (17, .int .u64 x200.End)] (fun R hR => st_val hS rfl rfl rfl (r_move hS rfl rfl) fun a195 hS195 => st_val hS195 rfl rfl rfl (r_nil hS195 rfl rfl) fun a196 hS196 => st_val hS196 rfl rfl rfl (r_fieldB (off := 1) hS196 rfl rfl (by kernel_rfl)) fun a197 hS197 => st_val hS197 rfl rfl rfl (r_load1 (n := 1) hS197 rfl rfl (by kernel_rfl) (Bx.cell h26 rfl)) fun a198 hS198 => st_val hS198 rfl rfl rfl (r_move hS198 rfl rfl) fun a199 hS199 => st_val hS199 rfl rfl rfl (r_index (e := 38) (sz := 4) (by_ := 32) hS199 rfl rfl rfl (by kernel_rfl) (RdS.some_ (OwS.rd h76) hx201) (idx_lo hx201) (idx_hi hx201)) fun a202 hS202 => st_val hS202 rfl rfl rfl (r_fieldE (off := 3) hS202 rfl rfl (by kernel_rfl)) fun a203 hS203 => st_val hS203 rfl rfl rfl (r_load1 (n := 1) hS203 rfl rfl (by kernel_rfl) (RdS.cell (i := m2_1) (sz := 4) (j := 3) (OwS.rd h76) hx201 rfl)) fun a204 hS204 => st_val hS204 rfl rfl rfl (r_assign hS204 rfl rfl) fun a205 hS205 => wpList_nil (hR _ (hS205.re ⟨rfl, rfl, rfl, rfl, rfl, rfl, trivial⟩))) ?_
                          clear hS
                          clear a
                          intro a hS
                          refine c_region (fun K hK => ?_)
                          refine st_val hS rfl rfl rfl (r_move hS rfl rfl) fun a206 hS206 => st_val hS206 rfl rfl rfl (r_move hS206 rfl rfl) fun a207 hS207 => st_val hS207 rfl rfl rfl (r_nil hS207 rfl rfl) fun a208 hS208 => st_val hS208 rfl rfl rfl (r_fieldB (off := 3) hS208 rfl rfl (by kernel_rfl)) fun a209 hS209 => st_val hS209 rfl rfl rfl (r_load1 (n := 1) hS209 rfl rfl (by kernel_rfl) (Bx.cell h26 rfl)) fun a210 hS210 => st_val hS210 rfl rfl rfl (r_bin hS210 rfl rfl rfl b_gtr) fun a211 hS211 => st_val hS211 rfl rfl rfl (r_move hS211 rfl rfl) fun a212 hS212 => ?_
                          refine g_join (N := 135) 8 [(2, .slice A2 p2.length cap2), (3, .int .i64 p3), (11, .pointer (some ⟨b25, 0, none⟩)), (15, .int .u64 m2_0), (16, .int .i64 m2_1), (17, .int .u64 x200.End), (123, .bool ((decide (m1_0.now < x200.End)) && ((m2_0 == 0) || (decide (x200.End < m2_0)))))] ?_ (fun hk => ?_)
                          rotate_left
                          · rcases Bool.eq_false_or_eq_true (decide (m1_0.now < x200.End)) with hb213 | hb213
                            · refine st_valW hS212 (want_on hS212 rfl rfl rfl hb213) rfl rfl (r_move hS212 rfl rfl) fun a230 hS230 => st_valW hS230 (want_on hS230 rfl rfl rfl hb213) rfl rfl (r_bin hS230 rfl rfl rfl b_eql) fun a231 hS231 => st_valW hS231 (want_on hS231 rfl rfl rfl hb213) rfl rfl (r_move hS231 rfl rfl) fun a232 hS232 => ?_
                              refine g_join (N := 135) 4 [(2, .slice A2 p2.length cap2), (3, .int .i64 p3), (11, .pointer (some ⟨b25, 0, none⟩)), (15, .int .u64 m2_0), (16, .int .i64 m2_1), (17, .int .u64 x200.End), (115, .bool (decide (m1_0.now < x200.End))), (116, .int .u64 m2_0), (117, .bool (m2_0 == 0)), (118, .bool (m2_0 == 0)), (122, .bool ((m2_0 == 0) || (decide (x200.End < m2_0))))] ?_ (fun hk => ?_)
                              rotate_left
                              · rcases Bool.eq_false_or_eq_true ((m2_0 == 0)) with hb233 | hb233
                                · refine st_off hS232 (want_off hS232 rfl rfl rfl hb233) rfl rfl fun a237 hS237 => st_off hS237 (want_off hS237 rfl rfl rfl hb233) rfl rfl fun a238 hS238 => st_off hS238 (want_off hS238 rfl rfl rfl hb233) rfl rfl fun a239 hS239 => st_valW hS239 (want_on hS239 rfl rfl rfl hb213) rfl rfl (r_pickT hS239 rfl rfl rfl hb233) fun a240 hS240 => hk _ (hS240.re ⟨rfl, rfl, rfl, rfl, rfl, rfl, rfl, rfl, rfl, rfl, (by rw [hb233]; rfl), trivial⟩)
                                · refine st_valW hS232 (want_on hS232 rfl rfl rfl hb233) rfl rfl (r_move hS232 rfl rfl) fun a241 hS241 => st_valW hS241 (want_on hS241 rfl rfl rfl hb233) rfl rfl (r_move hS241 rfl rfl) fun a242 hS242 => st_valW hS242 (want_on hS242 rfl rfl rfl hb233) rfl rfl (r_bin hS242 rfl rfl rfl b_lss) fun a243 hS243 => st_valW hS243 (want_on hS243 rfl rfl rfl hb213) rfl rfl (r_pickF hS243 rfl rfl rfl hb233) fun a244 hS244 => hk _ (hS244.re ⟨rfl, rfl, rfl, rfl, rfl, rfl, rfl, rfl, rfl, rfl, (by rw [hb233]; rfl), trivial⟩)
                              intro a245 hS245
                              refine st_val hS245 rfl rfl rfl (r_pickT hS245 rfl rfl rfl hb213) fun a246 hS246 => hk _ (hS246.re ⟨rfl, rfl, rfl, rfl, rfl, rfl, (by rw [hb213]; rfl), trivial⟩)
                            · refine st_off hS212 (want_off hS212 rfl rfl rfl hb213) rfl rfl fun a247 hS247 => st_off hS247 (want_off hS247 rfl rfl rfl hb213) rfl rfl fun a248 hS248 => st_off hS248 (want_off hS248 rfl rfl rfl hb213) rfl rfl fun a249 hS249 => st_off hS249 (want_un hS249 rfl rfl rfl) rfl rfl fun a250 hS250 => st_off hS250 (want_un hS250 rfl rfl rfl) rfl rfl fun a251 hS251 => st_off hS251 (want_un hS251 rfl rfl rfl) rfl rfl fun a252 hS252 => st_off hS252 (want_off hS252 rfl rfl rfl hb213) rfl rfl fun a253 hS253 => st_val hS253 rfl rfl rfl (r_pickF hS253 rfl rfl rfl hb213) fun a254 hS254 => hk _ (hS254.re ⟨rfl, rfl, rfl, rfl, rfl, rfl, (by rw [hb213]; rfl), trivial⟩)
                          intro a255 hS255
                          refine wpList_nil (hK _ _ ?_)
                          replace hS : Sl 135 _ [(2, .slice A2 p2.length cap2), (3, .int .i64 p3), (11, .pointer (some ⟨b25, 0, none⟩)), (15, .int .u64 m2_0), (16, .int .i64 m2_1), (17, .int .u64 x200.End), (123, .bool ((decide (m1_0.now < x200.End)) && ((m2_0 == 0) || (decide (x200.End < m2_0)))))] := hS255.re ⟨rfl, rfl, rfl, rfl, rfl, rfl, rfl, trivial⟩
                          clear hK K
                          try clear hS206 hS207 hS208 hS209 hS210 hS211 hS212 hS255
                          obtain ⟨a, ha⟩ : ∃ a', a' = a255 := ⟨_, rfl⟩
                          rw [← ha] at hS ⊢; clear ha
                          refine c_cond hS rfl (fun hb256 => ?_) (fun hb256 => ?_)
                          · replace H := ite_t hb256 H
                            refine c_pure1 [(2, .slice A2 p2.length cap2), (3, .int .i64 p3), (11, .pointer (some ⟨b25, 0, none⟩)), (15, .int .u64 x200.End), (16, .int .i64 m2_1)] (fun R hR => st_val hS rfl rfl rfl (r_move hS rfl rfl) fun a257 hS257 => st_val hS257 rfl rfl rfl (r_assign hS257 rfl rfl) fun a258 hS258 => wpList_nil (hR _ (hS258.re ⟨rfl, rfl, rfl, rfl, rfl, trivial⟩))) ?_
                            clear hS
                            clear a
                            intro a hS
                            have e := Option.some.inj H
                            subst e
                            exact ⟨rfl, hS.re ⟨rfl, rfl, rfl, rfl, rfl, trivial⟩⟩
                          · replace H := ite_f hb256 H
                            refine wp_skip ?_
                            have e := Option.some.inj H
                            subst e
                            exact ⟨rfl, hS.re ⟨rfl, rfl, rfl, rfl, rfl, trivial⟩⟩
                        · clear H
                          clear hS
                          rintro a w' ⟨hw, hS⟩
                          subst hw
                          have H := Hl194
                          clear Hl194
                          refine c_pure1 [(2, .slice A2 p2.length cap2), (3, .int .i64 p3), (11, .pointer (some ⟨b25, 0, none⟩)), (15, .int .u64 v192), (16, .int .i64 (wi (m2_1 + 1)))] (fun R hR => st_val hS rfl rfl rfl (r_move hS rfl rfl) fun a259 hS259 => st_val hS259 rfl rfl rfl (r_bin hS259 rfl rfl rfl b_add) fun a260 hS260 => st_val hS260 rfl rfl rfl (r_assign hS260 rfl rfl) fun a261 hS261 => wpList_nil (hR _ (hS261.re ⟨rfl, rfl, rfl, rfl, rfl, trivial⟩))) ?_
                          clear hS
                          clear a
                          intro a hS
                          refine ⟨k183, Nat.lt_succ_self _, ?_⟩
                          exact ⟨v192, wi (m2_1 + 1), H, rfl, hS.re ⟨rfl, rfl, rfl, rfl, rfl, trivial⟩⟩
                      · replace H := ite_f hb191 H
                        refine wp_exit ?_
                        have e := Option.some.inj H
                        subst e
                        exact ⟨rfl, hS.re ⟨rfl, rfl, rfl, rfl, trivial⟩⟩
                · clear H
                  clear hS
                  rintro a w' ⟨hw, hS⟩
                  subst hw
                  have H := Hl181
                  clear Hl181
                  refine wp_seq ?_
                  refine c_pure [(2, .slice A2 p2.length cap2), (3, .int .i64 p3), (11, .pointer (some ⟨b25, 0, none⟩)), (15, .int .u64 v179), (126, .bool (v179 == 0))] (fun R hR => st_val hS rfl rfl rfl (r_move hS rfl rfl) fun a262 hS262 => st_val hS262 rfl rfl rfl (r_bin hS262 rfl rfl rfl b_eql) fun a263 hS263 => wpList_nil (hR _ (hS263.re ⟨rfl, rfl, rfl, rfl, rfl, trivial⟩))) ?_
                  clear hS
                  clear a
                  intro a hS
                  refine c_cond hS rfl (fun hb264 => ?_) (fun hb264 => ?_)
                  · replace H := ite_t hb264 H
                    refine c_pure [(8, .slice A74 m1_0.slots.length cap75), (9, .int .i64 0)] (fun R hR => st_val hS rfl rfl rfl (r_move hS rfl rfl) fun a265 hS265 => st_val hS265 rfl rfl rfl (r_nil hS265 rfl rfl) fun a266 hS266 => st_val hS266 rfl rfl rfl (r_fieldB (off := 1) hS266 rfl rfl (by kernel_rfl)) fun a267 hS267 => st_val hS267 rfl rfl rfl (r_load1 (n := 1) hS267 rfl rfl (by kernel_rfl) (Bx.cell h26 rfl)) fun a268 hS268 => st_val hS268 rfl rfl rfl (r_assign hS268 rfl rfl) fun a269 hS269 => st_val hS269 rfl rfl rfl (r_assign hS269 rfl rfl) fun a270 hS270 => wpList_nil (hR _ (hS270.re ⟨rfl, rfl, trivial⟩))) ?_
                    clear hS
                    clear a
                    intro a hS
                    refine wp_ret ?_
                    have e := Option.some.inj H
                    subst e
                    replace H := Fl.go_out Hl84
                    have e := Option.some.inj H
                    subst e
                    have F271 := Fr.recol2 w96 g96 (N + 0 + 1) r0
                    replace h76 := h76.recol2 r0
                    replace hF := hF.trans F271 (fun c' (hm : c' = N + 0 + 1 ∨ c' = N + 0 + 1 + 1) => by show (r0 ≤ c' ∧ c' < r0 + 2) ∨ N ≤ c'; omega)
                    repeat (with_reducible first | refine then_ret ?_ | refine inBlock_ret ?_)
                    exact c_ret2 hS Try.results19 rfl rfl ⟨_, rfl, (recol2 g96 (N + 0 + 1) r0), A74, cap75, rfl, h76, hF⟩
                  · replace H := ite_f hb264 H
                    refine wp_skip ?_
                    change Code.wp _ _ _ _ _
                    refine c_region1 (fun K hK => ?_)
                    refine st_val hS rfl rfl rfl (r_move hS rfl rfl) fun a272 hS272 => st_val hS272 rfl rfl rfl (r_move hS272 rfl rfl) fun a273 hS273 => st_val hS273 rfl rfl rfl (r_nil hS273 rfl rfl) fun a274 hS274 => st_val hS274 rfl rfl rfl (r_fieldB (off := 3) hS274 rfl rfl (by kernel_rfl)) fun a275 hS275 => ?_
                    refine st_effS hS275 rfl rfl (e_storeB (n := 1) (bb := false) (cs' := [.slice A1 m1_0.links.length cap1, .slice A74 m1_0.slots.length cap75, .slice A32 m1_0.at_.length cap33, .int .u64 v179]) g96 hS275 rfl rfl rfl (by kernel_rfl) rfl rfl rfl h26 rfl rfl) ?_
                    rintro a276 w277 g277 ⟨h26, F277⟩ hS276
                    replace h34 := OwS.fr h34 F277 (fun c' hc (hm : c' = N + 0) => by omega)
                    replace h76 := OwS.fr h76 F277 (fun c' hc (hm : c' = N + 0) => by omega)
                    replace hp1 := RdS.fr hp1 F277 (by decide) (fun q (hq : C1 q) (hm : q = N + 0) => by have := hC1 q hq; omega)
                    replace hp2 := RdS.fr hp2 F277 (by decide) (fun q (hq : C2 q) (hm : q = N + 0) => by have := hC2 q hq; omega)
                    replace hF := hF.trans F277 (fun c' (hm : c' = N + 0) => by show (r0 ≤ c' ∧ c' < r0 + 2) ∨ N ≤ c'; omega)
                    refine wpList_nil (hK _ _ ?_)
                    replace hS : Sl 135 _ [(2, .slice A2 p2.length cap2), (3, .int .i64 p3), (11, .pointer (some ⟨b25, 0, none⟩))] := hS276.re ⟨rfl, rfl, rfl, trivial⟩
                    clear hK K
                    try clear hS272 hS273 hS274 hS275 hS276
                    obtain ⟨a, ha⟩ : ∃ a', a' = a276 := ⟨_, rfl⟩
                    rw [← ha] at hS ⊢; clear ha
                    have e := Option.some.inj H
                    have F278 := Fr.recol2 w277 g277 (N + 0 + 3) (N + 7)
                    replace h34 := h34.recol2 (N + 7)
                    replace h26 := h26.fr F278 (fun (hm : N + 0 = N + 0 + 3 ∨ N + 0 = N + 0 + 3 + 1) => by omega)
                    replace h76 := OwS.fr h76 F278 (fun c' hc (hm : c' = N + 0 + 3 ∨ c' = N + 0 + 3 + 1) => by omega)
                    replace hp1 := RdS.fr hp1 F278 (by decide) (fun q (hq : C1 q) (hm : q = N + 0 + 3 ∨ q = N + 0 + 3 + 1) => by have := hC1 q hq; omega)
                    replace hp2 := RdS.fr hp2 F278 (by decide) (fun q (hq : C2 q) (hm : q = N + 0 + 3 ∨ q = N + 0 + 3 + 1) => by have := hC2 q hq; omega)
                    replace hF := hF.trans F278 (fun c' (hm : c' = N + 0 + 3 ∨ c' = N + 0 + 3 + 1) => by show (r0 ≤ c' ∧ c' < r0 + 2) ∨ N ≤ c'; omega)
                    exact ⟨(ref31_plan.mk m1_0.links m1_0.slots m1_0.at_ v179), (recol2 g277 (N + 0 + 3) (N + 7)), A74, cap75, e.symm, hS.re ⟨rfl, rfl, rfl, trivial⟩, h26, h34, h76, hp1, hp2, hF⟩
            · clear H
              clear hp1 hp2 h26 h34 h76 hF
              clear hS
              rintro a w78 ⟨v82, g78, A79, cap80, hpre0, hS, h26, h34, h81, hp1, hp2, hF⟩
              subst hpre0
              have H := Fl.go_nxt Hl84
              clear Hl84
              refine ⟨k77, Nat.lt_succ_self _, ?_⟩
              exact ⟨v82, g78, A79, cap80, H, hS.re ⟨rfl, rfl, rfl, trivial⟩, h26, h34, h81, hp1, hp2, hF⟩


end Go.Proofs.Ythmjgadmadlpkaa.Sim

namespace Go.Proofs.Ythmjgadmadlpkaa.Sim
open Go
set_option linter.unusedVariables false
set_option linter.unusedSimpArgs false

def Wf_api_Link (x : api_Link) : Prop := (Lit.int .i64 x.Consumer).wf = true ∧ (Lit.int .i64 x.Supplier).wf = true
theorem opens_api_Link : Opens Try.prog 43 kd_api_Link Wf_api_Link := by
  intro H enc w held fuel cs x h
  have hl : cs.length = 2 := by
    obtain ⟨_, _, _, _, hl, _⟩ := DataW.trod_struct Try.underlying43 h
    rw [hl]; kernel_rfl
  match cs, hl with
  | [c0, c1], _ =>
    obtain ⟨ys0, m0, _, _, _, hlen0, hf0⟩ := DataW.trod_struct Try.underlying43 h
    obtain ⟨y0_0, h0_0⟩ := trod_field hf0 hlen0 0 rfl (n := 1) (by kernel_rfl)
    obtain ⟨n1, r1, w1⟩ := (Opens.int Try.underlying3) enc w held _ _ _ h0_0
    injection (show [c0] = [.int .i64 n1] from r1) with e1; subst e1
    obtain ⟨y0_1, h0_1⟩ := trod_field hf0 hlen0 1 rfl (n := 1) (by kernel_rfl)
    obtain ⟨n2, r2, w2⟩ := (Opens.int Try.underlying3) enc w held _ _ _ h0_1
    injection (show [c1] = [.int .i64 n2] from r2) with e2; subst e2
    exact ⟨(api_Link.mk n1 n2), rfl, ⟨w1, w2⟩⟩

def Wf_api_Slot (x : api_Slot) : Prop := (Lit.int .i64 x.Device).wf = true ∧ (Lit.int .i64 x.Worker).wf = true ∧ (Lit.int .u64 x.Start).wf = true ∧ (Lit.int .u64 x.End).wf = true
theorem opens_api_Slot : Opens Try.prog 38 kd_api_Slot Wf_api_Slot := by
  intro H enc w held fuel cs x h
  have hl : cs.length = 4 := by
    obtain ⟨_, _, _, _, hl, _⟩ := DataW.trod_struct Try.underlying38 h
    rw [hl]; kernel_rfl
  match cs, hl with
  | [c0, c1, c2, c3], _ =>
    obtain ⟨ys0, m0, _, _, _, hlen0, hf0⟩ := DataW.trod_struct Try.underlying38 h
    obtain ⟨y0_0, h0_0⟩ := trod_field hf0 hlen0 0 rfl (n := 1) (by kernel_rfl)
    obtain ⟨n1, r1, w1⟩ := (Opens.int Try.underlying3) enc w held _ _ _ h0_0
    injection (show [c0] = [.int .i64 n1] from r1) with e1; subst e1
    obtain ⟨y0_1, h0_1⟩ := trod_field hf0 hlen0 1 rfl (n := 1) (by kernel_rfl)
    obtain ⟨n2, r2, w2⟩ := (Opens.int Try.underlying3) enc w held _ _ _ h0_1
    injection (show [c1] = [.int .i64 n2] from r2) with e2; subst e2
    obtain ⟨y0_2, h0_2⟩ := trod_field hf0 hlen0 2 rfl (n := 1) (by kernel_rfl)
    obtain ⟨n3, r3, w3⟩ := (Opens.int Try.underlying33) enc w held _ _ _ h0_2
    injection (show [c2] = [.int .u64 n3] from r3) with e3; subst e3
    obtain ⟨y0_3, h0_3⟩ := trod_field hf0 hlen0 3 rfl (n := 1) (by kernel_rfl)
    obtain ⟨n4, r4, w4⟩ := (Opens.int Try.underlying33) enc w held _ _ _ h0_3
    injection (show [c3] = [.int .u64 n4] from r4) with e4; subst e4
    exact ⟨(api_Slot.mk n1 n2 n3 n4), rfl, ⟨w1, w2, w3, w4⟩⟩


end Go.Proofs.Ythmjgadmadlpkaa.Sim

namespace Go.Proofs.Ythmjgadmadlpkaa.Sim
open Go
set_option linter.unusedVariables false
set_option linter.unusedSimpArgs false

/-! ### law31_ResumeScheduleAgrees: function 3 -/
def law31_ResumeScheduleAgrees.f (p0 : Int) (p1 : List api_Link) (p2 : List Int) (p3 : Int) : Option (Bool) := if ((decide (40 < (p1.length : Int))) || (decide (20 < (p2.length : Int)))) = true then ((law31_awake.f ).bind fun r20 => some r20) else ((law24_Graph.f p0 p1 true).bind fun r27 => (help_Mod.f p3 5).bind fun r41 => (law31_durations.f r27.1 p2).bind fun r49 => (resume_Schedule.f r27.1 r27.2 r49 (wi (1 + r41))).bind fun r62 => (ref31_Schedule.f r27.1 r27.2 r49 (wi (1 + r41))).bind fun r79 => (resume_CriticalPath.f r27.1 r27.2 r49).bind fun r95 => (ref31_CriticalPath.f r27.1 r27.2 r49).bind fun r107 => (if (((r62.2 != r79.2) || (r95.2 != r107.2)) || (r95.1 != r107.1)) = true then some true else (help_Equal_api_Slot.f r62.1 r79.1).bind fun r151 => some (!r151)).bind fun t156 => (if t156 = true then some true else (resume_Makespan.f r62.1).bind fun r178 => (ref31_Makespan.f r79.1).bind fun r183 => some (r178 != r183)).bind fun t188 => if t188 = true then (some false) else ((resume_Schedule.f r27.1 r27.2 p2 p3).bind fun r218 => (ref31_Schedule.f r27.1 r27.2 p2 p3).bind fun r235 => (resume_CriticalPath.f p0 p1 p2).bind fun r251 => (ref31_CriticalPath.f p0 p1 p2).bind fun r263 => (if (((r218.2 == r235.2) && (r251.2 == r263.2)) && (r251.1 == r263.1)) = true then (help_Equal_api_Slot.f r218.1 r235.1).bind fun r307 => some r307 else some false).bind fun t311 => (if t311 = true then (law31_awake.f ).bind fun r330 => some r330 else some false).bind fun t334 => some t334))
set_option maxRecDepth 100000 in
set_option maxHeartbeats 4000000 in
theorem law31_ResumeScheduleAgrees.calls {p0 : Int} {p1 : List api_Link} {A1 : Option Addr} {cap1 : Nat} {C1 : Nat → Prop} {p2 : List Int} {A2 : Option Addr} {cap2 : Nat} {C2 : Nat → Prop} {p3 : Int} {w : World} {g : Nat → Nat} {out : Bool} (N : Nat) (hp1 : RdS kd_api_Link w g C1 A1 cap1 p1) (hC1 : ∀ c, C1 c → c < N) (hp2 : RdS (kint .u64) w g C2 A2 cap2 p2) (hC2 : ∀ c, C2 c → c < N) (H : law31_ResumeScheduleAgrees.f p0 p1 p2 p3 = some out) :
    Calls Try.prog 3 #[.int .i64 p0, .slice A1 p1.length cap1, .slice A2 p2.length cap2, .int .i64 p3] w (fun e w' => ∃ v, e = .returned v ∧ ∃ (g' : Nat → Nat), v = .bool out ∧ Fr (fun q => N ≤ q) w g w' g') := by
  unfold law31_ResumeScheduleAgrees.f at H
  refine calls_enter Try.func3 rfl Try.ntmps3 rfl (fun a hS => ?_)
  replace hS : Sl 149 a [(0, .int .i64 p0), (1, .slice A1 p1.length cap1), (2, .slice A2 p2.length cap2), (3, .int .i64 p3)] := hS
  have hF : Fr (fun q => N ≤ q) w g w g := Fr.refl _ _ _
  refine c_pure [(0, .int .i64 p0), (1, .slice A1 p1.length cap1), (2, .slice A2 p2.length cap2), (3, .int .i64 p3)] (fun R hR => st_val hS rfl rfl rfl (r_assign hS rfl rfl) fun a1 hS1 => wpList_nil (hR _ (hS1.re ⟨rfl, rfl, rfl, rfl, trivial⟩))) ?_
  clear hS
  clear a
  intro a hS
  refine wp_seq ?_
  refine c_region (fun K hK => ?_)
  refine st_val hS rfl rfl rfl (r_move hS rfl rfl) fun a2 hS2 => st_val hS2 rfl rfl rfl (r_len (e := 43) (sz := 2) (by_ := 16) hS2 rfl rfl (by kernel_rfl)) fun a3 hS3 => st_val hS3 rfl rfl rfl (r_bin hS3 rfl rfl rfl b_gtr) fun a4 hS4 => st_val hS4 rfl rfl rfl (r_move hS4 rfl rfl) fun a5 hS5 => ?_
  refine g_join (N := 149) 4 [(0, .int .i64 p0), (1, .slice A1 p1.length cap1), (2, .slice A2 p2.length cap2), (3, .int .i64 p3), (28, .bool ((decide (40 < (p1.length : Int))) || (decide (20 < (p2.length : Int)))))] ?_ (fun hk => ?_)
  rotate_left
  · rcases Bool.eq_false_or_eq_true (decide (40 < (p1.length : Int))) with hb6 | hb6
    · refine st_off hS5 (want_off hS5 rfl rfl rfl hb6) rfl rfl fun a10 hS10 => st_off hS10 (want_off hS10 rfl rfl rfl hb6) rfl rfl fun a11 hS11 => st_off hS11 (want_off hS11 rfl rfl rfl hb6) rfl rfl fun a12 hS12 => st_val hS12 rfl rfl rfl (r_pickT hS12 rfl rfl rfl hb6) fun a13 hS13 => hk _ (hS13.re ⟨rfl, rfl, rfl, rfl, (by rw [hb6]; rfl), trivial⟩)
    · refine st_valW hS5 (want_on hS5 rfl rfl rfl hb6) rfl rfl (r_move hS5 rfl rfl) fun a14 hS14 => st_valW hS14 (want_on hS14 rfl rfl rfl hb6) rfl rfl (r_len (e := 33) (sz := 1) (by_ := 8) hS14 rfl rfl (by kernel_rfl)) fun a15 hS15 => st_valW hS15 (want_on hS15 rfl rfl rfl hb6) rfl rfl (r_bin hS15 rfl rfl rfl b_gtr) fun a16 hS16 => st_val hS16 rfl rfl rfl (r_pickF hS16 rfl rfl rfl hb6) fun a17 hS17 => hk _ (hS17.re ⟨rfl, rfl, rfl, rfl, (by rw [hb6]; rfl), trivial⟩)
  intro a18 hS18
  refine wpList_nil (hK _ _ ?_)
  replace hS : Sl 149 _ [(0, .int .i64 p0), (1, .slice A1 p1.length cap1), (2, .slice A2 p2.length cap2), (3, .int .i64 p3), (28, .bool ((decide (40 < (p1.length : Int))) || (decide (20 < (p2.length : Int)))))] := hS18.re ⟨rfl, rfl, rfl, rfl, rfl, trivial⟩
  clear hK K
  try clear hS2 hS3 hS4 hS5 hS18
  obtain ⟨a, ha⟩ : ∃ a', a' = a18 := ⟨_, rfl⟩
  rw [← ha] at hS ⊢; clear ha
  refine c_cond hS rfl (fun hb19 => ?_) (fun hb19 => ?_)
  · replace H := ite_t hb19 H
    obtain ⟨r20, hr21, H⟩ := bind_el H
    refine c_region (fun K hK => ?_)
    refine st_enter hS rfl rfl rfl (r_call hS rfl rfl (by kernel_rfl)) (law31_awake.calls (g := g) (N + 12)   hr21) ?_
    rintro _ a22 w23 ⟨g23, rfl, F23⟩ hS22
    replace hp1 := RdS.fr hp1 F23 (by decide) (fun q (hq : C1 q) (hm : N + 12 ≤ q) => by have := hC1 q hq; omega)
    replace hp2 := RdS.fr hp2 F23 (by decide) (fun q (hq : C2 q) (hm : N + 12 ≤ q) => by have := hC2 q hq; omega)
    replace hF := hF.trans F23 (fun c' (hm : N + 12 ≤ c') => by show N ≤ c'; omega)
    refine st_val hS22 rfl rfl rfl (r_assign hS22 rfl rfl) fun a24 hS24 => wpList_nil (hK _ _ ?_)
    replace hS : Sl 149 _ [(8, .bool r20)] := hS24.re ⟨rfl, trivial⟩
    clear hK K
    try clear hS22 hS24
    obtain ⟨a, ha⟩ : ∃ a', a' = a24 := ⟨_, rfl⟩
    rw [← ha] at hS ⊢; clear ha
    refine wp_ret ?_
    have e := Option.some.inj H
    subst e
    repeat (with_reducible first | refine then_ret ?_ | refine inBlock_ret ?_)
    exact c_ret1 hS Try.results3 rfl ⟨_, rfl, g23, rfl, hF⟩
  · replace H := ite_f hb19 H
    refine wp_skip ?_
    change Code.wp _ _ _ _ _
    obtain ⟨r27, hr28, H⟩ := bind_el H
    refine c_region (fun K hK => ?_)
    refine st_val hS rfl rfl rfl (r_move hS rfl rfl) fun a25 hS25 => st_val hS25 rfl rfl rfl (r_move hS25 rfl rfl) fun a26 hS26 => ?_
    refine st_enter hS26 rfl rfl rfl (r_call hS26 rfl rfl (by kernel_rfl)) (law24_Graph.calls (C1 := C1) (p0 := p0) (p1 := p1) (p2 := true) (g := g) (N + 12) (N + 0) hp1 (fun q (hq : C1 q) => by have := hC1 q hq; omega) (by omega) hr28) ?_
    rintro _ a33 w34 ⟨g34, A29, cap30, rfl, h31, F34⟩ hS33
    replace hp1 := RdS.fr hp1 F34 (by decide) (fun q (hq : C1 q) (hm : (N + 0 ≤ q ∧ q < N + 0 + 2) ∨ N + 12 ≤ q) => by have := hC1 q hq; omega)
    replace hp2 := RdS.fr hp2 F34 (by decide) (fun q (hq : C2 q) (hm : (N + 0 ≤ q ∧ q < N + 0 + 2) ∨ N + 12 ≤ q) => by have := hC2 q hq; omega)
    replace hF := hF.trans F34 (fun c' (hm : (N + 0 ≤ c' ∧ c' < N + 0 + 2) ∨ N + 12 ≤ c') => by show N ≤ c'; omega)
    refine st_val hS33 rfl rfl rfl (r_move hS33 rfl rfl) fun a35 hS35 => st_val hS35 rfl rfl rfl (r_extract hS35 rfl rfl rfl) fun a36 hS36 => st_val hS36 rfl rfl rfl (r_extract hS36 rfl rfl rfl) fun a37 hS37 => st_val hS37 rfl rfl rfl (r_assign hS37 rfl rfl) fun a38 hS38 => st_val hS38 rfl rfl rfl (r_assign hS38 rfl rfl) fun a39 hS39 => wpList_nil (hK _ _ ?_)
    replace hS : Sl 149 _ [(0, .int .i64 p0), (1, .slice A1 p1.length cap1), (2, .slice A2 p2.length cap2), (3, .int .i64 p3), (9, .int .i64 r27.1), (10, .slice A29 r27.2.length cap30)] := hS39.re ⟨rfl, rfl, rfl, rfl, rfl, rfl, trivial⟩
    clear hK K
    try clear hS25 hS26 hS33 hS35 hS36 hS37 hS38 hS39
    obtain ⟨a, ha⟩ : ∃ a', a' = a39 := ⟨_, rfl⟩
    rw [← ha] at hS ⊢; clear ha
    obtain ⟨r41, hr42, H⟩ := bind_el H
    refine c_region (fun K hK => ?_)
    refine st_val hS rfl rfl rfl (r_move hS rfl rfl) fun a40 hS40 => ?_
    refine st_enter hS40 rfl rfl rfl (r_call hS40 rfl rfl (by kernel_rfl)) (help_Mod.calls (p0 := p3) (p1 := 5) (g := g34) (N + 12)   hr42) ?_
    rintro _ a43 w44 ⟨g44, rfl, F44⟩ hS43
    replace h31 := OwS.fr h31 F44 (fun c' hc (hm : N + 12 ≤ c') => by omega)
    replace hp1 := RdS.fr hp1 F44 (by decide) (fun q (hq : C1 q) (hm : N + 12 ≤ q) => by have := hC1 q hq; omega)
    replace hp2 := RdS.fr hp2 F44 (by decide) (fun q (hq : C2 q) (hm : N + 12 ≤ q) => by have := hC2 q hq; omega)
    replace hF := hF.trans F44 (fun c' (hm : N + 12 ≤ c') => by show N ≤ c'; omega)
    refine st_val hS43 rfl rfl rfl (r_bin hS43 rfl rfl rfl b_add) fun a45 hS45 => st_val hS45 rfl rfl rfl (r_assign hS45 rfl rfl) fun a46 hS46 => wpList_nil (hK _ _ ?_)
    replace hS : Sl 149 _ [(0, .int .i64 p0), (1, .slice A1 p1.length cap1), (2, .slice A2 p2.length cap2), (3, .int .i64 p3), (9, .int .i64 r27.1), (10, .slice A29 r27.2.length cap30), (11, .int .i64 (wi (1 + r41)))] := hS46.re ⟨rfl, rfl, rfl, rfl, rfl, rfl, rfl, trivial⟩
    clear hK K
    try clear hS40 hS43 hS45 hS46
    obtain ⟨a, ha⟩ : ∃ a', a' = a46 := ⟨_, rfl⟩
    rw [← ha] at hS ⊢; clear ha
    obtain ⟨r49, hr50, H⟩ := bind_el H
    refine c_region (fun K hK => ?_)
    refine st_val hS rfl rfl rfl (r_move hS rfl rfl) fun a47 hS47 => st_val hS47 rfl rfl rfl (r_move hS47 rfl rfl) fun a48 hS48 => ?_
    refine st_enter hS48 rfl rfl rfl (r_call hS48 rfl rfl (by kernel_rfl)) (law31_durations.calls (C1 := C2) (p0 := r27.1) (p1 := p2) (g := g44) (N + 12) (N + 2) hp2 (fun q (hq : C2 q) => by have := hC2 q hq; omega) (by omega) hr50) ?_
    rintro _ a55 w56 ⟨g56, A51, cap52, rfl, h53, F56⟩ hS55
    replace h31 := OwS.fr h31 F56 (fun c' hc (hm : (N + 2 ≤ c' ∧ c' < N + 2 + 2) ∨ N + 12 ≤ c') => by omega)
    replace hp1 := RdS.fr hp1 F56 (by decide) (fun q (hq : C1 q) (hm : (N + 2 ≤ q ∧ q < N + 2 + 2) ∨ N + 12 ≤ q) => by have := hC1 q hq; omega)
    replace hp2 := RdS.fr hp2 F56 (by decide) (fun q (hq : C2 q) (hm : (N + 2 ≤ q ∧ q < N + 2 + 2) ∨ N + 12 ≤ q) => by have := hC2 q hq; omega)
    replace hF := hF.trans F56 (fun c' (hm : (N + 2 ≤ c' ∧ c' < N + 2 + 2) ∨ N + 12 ≤ c') => by show N ≤ c'; omega)
    refine st_val hS55 rfl rfl rfl (r_assign hS55 rfl rfl) fun a57 hS57 => wpList_nil (hK _ _ ?_)
    replace hS : Sl 149 _ [(0, .int .i64 p0), (1, .slice A1 p1.length cap1), (2, .slice A2 p2.length cap2), (3, .int .i64 p3), (9, .int .i64 r27.1), (10, .slice A29 r27.2.length cap30), (11, .int .i64 (wi (1 + r41))), (12, .slice A51 r49.length cap52)] := hS57.re ⟨rfl, rfl, rfl, rfl, rfl, rfl, rfl, rfl, trivial⟩
    clear hK K
    try clear hS47 hS48 hS55 hS57
    obtain ⟨a, ha⟩ : ∃ a', a' = a57 := ⟨_, rfl⟩
    rw [← ha] at hS ⊢; clear ha
    obtain ⟨r62, hr63, H⟩ := bind_el H
    refine c_region (fun K hK => ?_)
    refine st_val hS rfl rfl rfl (r_move hS rfl rfl) fun a58 hS58 => st_val hS58 rfl rfl rfl (r_move hS58 rfl rfl) fun a59 hS59 => st_val hS59 rfl rfl rfl (r_move hS59 rfl rfl) fun a60 hS60 => st_val hS60 rfl rfl rfl (r_move hS60 rfl rfl) fun a61 hS61 => ?_
    refine st_enter hS61 rfl rfl rfl (r_call hS61 rfl rfl (by kernel_rfl)) (resume_Schedule.calls (C1 := (fun q => q = N + 0)) (C2 := (fun q => q = N + 2)) (p0 := r27.1) (p1 := r27.2) (p2 := r49) (p3 := (wi (1 + r41))) (g := g56) (N + 12) (N + 4) (OwD.rdf (fun _ _ _ _ _ _ h => h) h31) (fun q (hq : q = N + 0) => by omega) (OwD.rdf (fun _ _ _ _ _ _ h => h) h53) (fun q (hq : q = N + 2) => by omega) (by omega) hr63) ?_
    rintro _ a68 w69 ⟨g69, A64, cap65, rfl, h66, F69⟩ hS68
    replace h31 := OwS.fr h31 F69 (fun c' hc (hm : (N + 4 ≤ c' ∧ c' < N + 4 + 2) ∨ N + 12 ≤ c') => by omega)
    replace h53 := OwS.fr h53 F69 (fun c' hc (hm : (N + 4 ≤ c' ∧ c' < N + 4 + 2) ∨ N + 12 ≤ c') => by omega)
    replace hp1 := RdS.fr hp1 F69 (by decide) (fun q (hq : C1 q) (hm : (N + 4 ≤ q ∧ q < N + 4 + 2) ∨ N + 12 ≤ q) => by have := hC1 q hq; omega)
    replace hp2 := RdS.fr hp2 F69 (by decide) (fun q (hq : C2 q) (hm : (N + 4 ≤ q ∧ q < N + 4 + 2) ∨ N + 12 ≤ q) => by have := hC2 q hq; omega)
    replace hF := hF.trans F69 (fun c' (hm : (N + 4 ≤ c' ∧ c' < N + 4 + 2) ∨ N + 12 ≤ c') => by show N ≤ c'; omega)
    refine st_val hS68 rfl rfl rfl (r_move hS68 rfl rfl) fun a70 hS70 => st_val hS70 rfl rfl rfl (r_extract hS70 rfl rfl rfl) fun a71 hS71 => st_val hS71 rfl rfl rfl (r_extract hS71 rfl rfl rfl) fun a72 hS72 => st_val hS72 rfl rfl rfl (r_assign hS72 rfl rfl) fun a73 hS73 => st_val hS73 rfl rfl rfl (r_assign hS73 rfl rfl) fun a74 hS74 => wpList_nil (hK _ _ ?_)
    replace hS : Sl 149 _ [(0, .int .i64 p0), (1, .slice A1 p1.length cap1), (2, .slice A2 p2.length cap2), (3, .int .i64 p3), (9, .int .i64 r27.1), (10, .slice A29 r27.2.length cap30), (11, .int .i64 (wi (1 + r41))), (12, .slice A51 r49.length cap52), (13, .slice A64 r62.1.length cap65), (14, .int .i64 r62.2)] := hS74.re ⟨rfl, rfl, rfl, rfl, rfl, rfl, rfl, rfl, rfl, rfl, trivial⟩
    clear hK K
    try clear hS58 hS59 hS60 hS61 hS68 hS70 hS71 hS72 hS73 hS74
    obtain ⟨a, ha⟩ : ∃ a', a' = a74 := ⟨_, rfl⟩
    rw [← ha] at hS ⊢; clear ha
    obtain ⟨r79, hr80, H⟩ := bind_el H
    refine c_region (fun K hK => ?_)
    refine st_val hS rfl rfl rfl (r_move hS rfl rfl) fun a75 hS75 => st_val hS75 rfl rfl rfl (r_move hS75 rfl rfl) fun a76 hS76 => st_val hS76 rfl rfl rfl (r_move hS76 rfl rfl) fun a77 hS77 => st_val hS77 rfl rfl rfl (r_move hS77 rfl rfl) fun a78 hS78 => ?_
    refine st_enter hS78 rfl rfl rfl (r_call hS78 rfl rfl (by kernel_rfl)) (ref31_Schedule.calls (C1 := (fun q => q = N + 0)) (C2 := (fun q => q = N + 2)) (p0 := r27.1) (p1 := r27.2) (p2 := r49) (p3 := (wi (1 + r41))) (g := g69) (N + 12) (N + 6) (OwD.rdf (fun _ _ _ _ _ _ h => h) h31) (fun q (hq : q = N + 0) => by omega) (OwD.rdf (fun _ _ _ _ _ _ h => h) h53) (fun q (hq : q = N + 2) => by omega) (by omega) hr80) ?_
    rintro _ a85 w86 ⟨g86, A81, cap82, rfl, h83, F86⟩ hS85
    replace h31 := OwS.fr h31 F86 (fun c' hc (hm : (N + 6 ≤ c' ∧ c' < N + 6 + 2) ∨ N + 12 ≤ c') => by omega)
    replace h53 := OwS.fr h53 F86 (fun c' hc (hm : (N + 6 ≤ c' ∧ c' < N + 6 + 2) ∨ N + 12 ≤ c') => by omega)
    replace h66 := OwS.fr h66 F86 (fun c' hc (hm : (N + 6 ≤ c' ∧ c' < N + 6 + 2) ∨ N + 12 ≤ c') => by omega)
    replace hp1 := RdS.fr hp1 F86 (by decide) (fun q (hq : C1 q) (hm : (N + 6 ≤ q ∧ q < N + 6 + 2) ∨ N + 12 ≤ q) => by have := hC1 q hq; omega)
    replace hp2 := RdS.fr hp2 F86 (by decide) (fun q (hq : C2 q) (hm : (N + 6 ≤ q ∧ q < N + 6 + 2) ∨ N + 12 ≤ q) => by have := hC2 q hq; omega)
    replace hF := hF.trans F86 (fun c' (hm : (N + 6 ≤ c' ∧ c' < N + 6 + 2) ∨ N + 12 ≤ c') => by show N ≤ c'; omega)
    refine st_val hS85 rfl rfl rfl (r_move hS85 rfl rfl) fun a87 hS87 => st_val hS87 rfl rfl rfl (r_extract hS87 rfl rfl rfl) fun a88 hS88 => st_val hS88 rfl rfl rfl (r_extract hS88 rfl rfl rfl) fun a89 hS89 => st_val hS89 rfl rfl rfl (r_assign hS89 rfl rfl) fun a90 hS90 => st_val hS90 rfl rfl rfl (r_assign hS90 rfl rfl) fun a91 hS91 => wpList_nil (hK _ _ ?_)
    replace hS : Sl 149 _ [(0, .int .i64 p0), (1, .slice A1 p1.length cap1), (2, .slice A2 p2.length cap2), (3, .int .i64 p3), (9, .int .i64 r27.1), (10, .slice A29 r27.2.length cap30), (12, .slice A51 r49.length cap52), (13, .slice A64 r62.1.length cap65), (14, .int .i64 r62.2), (15, .slice A81 r79.1.length cap82), (16, .int .i64 r79.2)] := hS91.re ⟨rfl, rfl, rfl, rfl, rfl, rfl, rfl, rfl, rfl, rfl, rfl, trivial⟩
    clear hK K
    try clear hS75 hS76 hS77 hS78 hS85 hS87 hS88 hS89 hS90 hS91
    obtain ⟨a, ha⟩ : ∃ a', a' = a91 := ⟨_, rfl⟩
    rw [← ha] at hS ⊢; clear ha
    obtain ⟨r95, hr96, H⟩ := bind_el H
    refine c_region (fun K hK => ?_)
    refine st_val hS rfl rfl rfl (r_move hS rfl rfl) fun a92 hS92 => st_val hS92 rfl rfl rfl (r_move hS92 rfl rfl) fun a93 hS93 => st_val hS93 rfl rfl rfl (r_move hS93 rfl rfl) fun a94 hS94 => ?_
    refine st_enter hS94 rfl rfl rfl (r_call hS94 rfl rfl (by kernel_rfl)) (resume_CriticalPath.calls (C1 := (fun q => q = N + 0)) (C2 := (fun q => q = N + 2)) (p0 := r27.1) (p1 := r27.2) (p2 := r49) (g := g86) (N + 12)  (OwD.rdf (fun _ _ _ _ _ _ h => h) h31) (fun q (hq : q = N + 0) => by omega) (OwD.rdf (fun _ _ _ _ _ _ h => h) h53) (fun q (hq : q = N + 2) => by omega) hr96) ?_
    rintro _ a97 w98 ⟨g98, rfl, F98⟩ hS97
    replace h31 := OwS.fr h31 F98 (fun c' hc (hm : N + 12 ≤ c') => by omega)
    replace h53 := OwS.fr h53 F98 (fun c' hc (hm : N + 12 ≤ c') => by omega)
    replace h66 := OwS.fr h66 F98 (fun c' hc (hm : N + 12 ≤ c') => by omega)
    replace h83 := OwS.fr h83 F98 (fun c' hc (hm : N + 12 ≤ c') => by omega)
    replace hp1 := RdS.fr hp1 F98 (by decide) (fun q (hq : C1 q) (hm : N + 12 ≤ q) => by have := hC1 q hq; omega)
    replace hp2 := RdS.fr hp2 F98 (by decide) (fun q (hq : C2 q) (hm : N + 12 ≤ q) => by have := hC2 q hq; omega)
    replace hF := hF.trans F98 (fun c' (hm : N + 12 ≤ c') => by show N ≤ c'; omega)
    refine st_val hS97 rfl rfl rfl (r_move hS97 rfl rfl) fun a99 hS99 => st_val hS99 rfl rfl rfl (r_extract hS99 rfl rfl rfl) fun a100 hS100 => st_val hS100 rfl rfl rfl (r_extract hS100 rfl rfl rfl) fun a101 hS101 => st_val hS101 rfl rfl rfl (r_assign hS101 rfl rfl) fun a102 hS102 => st_val hS102 rfl rfl rfl (r_assign hS102 rfl rfl) fun a103 hS103 => wpList_nil (hK _ _ ?_)
    replace hS : Sl 149 _ [(0, .int .i64 p0), (1, .slice A1 p1.length cap1), (2, .slice A2 p2.length cap2), (3, .int .i64 p3), (9, .int .i64 r27.1), (10, .slice A29 r27.2.length cap30), (12, .slice A51 r49.length cap52), (13, .slice A64 r62.1.length cap65), (14, .int .i64 r62.2), (15, .slice A81 r79.1.length cap82), (16, .int .i64 r79.2), (17, .int .u64 r95.1), (18, .int .i64 r95.2)] := hS103.re ⟨rfl, rfl, rfl, rfl, rfl, rfl, rfl, rfl, rfl, rfl, rfl, rfl, rfl, trivial⟩
    clear hK K
    try clear hS92 hS93 hS94 hS97 hS99 hS100 hS101 hS102 hS103
    obtain ⟨a, ha⟩ : ∃ a', a' = a103 := ⟨_, rfl⟩
    rw [← ha] at hS ⊢; clear ha
    obtain ⟨r107, hr108, H⟩ := bind_el H
    refine c_region (fun K hK => ?_)
    refine st_val hS rfl rfl rfl (r_move hS rfl rfl) fun a104 hS104 => st_val hS104 rfl rfl rfl (r_move hS104 rfl rfl) fun a105 hS105 => st_val hS105 rfl rfl rfl (r_move hS105 rfl rfl) fun a106 hS106 => ?_
    refine st_enter hS106 rfl rfl rfl (r_call hS106 rfl rfl (by kernel_rfl)) (ref31_CriticalPath.calls (C1 := (fun q => q = N + 0)) (C2 := (fun q => q = N + 2)) (p0 := r27.1) (p1 := r27.2) (p2 := r49) (g := g98) (N + 12)  (OwD.rdf (fun _ _ _ _ _ _ h => h) h31) (fun q (hq : q = N + 0) => by omega) (OwD.rdf (fun _ _ _ _ _ _ h => h) h53) (fun q (hq : q = N + 2) => by omega) hr108) ?_
    rintro _ a109 w110 ⟨g110, rfl, F110⟩ hS109
    replace h31 := OwS.fr h31 F110 (fun c' hc (hm : N + 12 ≤ c') => by omega)
    replace h53 := OwS.fr h53 F110 (fun c' hc (hm : N + 12 ≤ c') => by omega)
    replace h66 := OwS.fr h66 F110 (fun c' hc (hm : N + 12 ≤ c') => by omega)
    replace h83 := OwS.fr h83 F110 (fun c' hc (hm : N + 12 ≤ c') => by omega)
    replace hp1 := RdS.fr hp1 F110 (by decide) (fun q (hq : C1 q) (hm : N + 12 ≤ q) => by have := hC1 q hq; omega)
    replace hp2 := RdS.fr hp2 F110 (by decide) (fun q (hq : C2 q) (hm : N + 12 ≤ q) => by have := hC2 q hq; omega)
    replace hF := hF.trans F110 (fun c' (hm : N + 12 ≤ c') => by show N ≤ c'; omega)
    refine st_val hS109 rfl rfl rfl (r_move hS109 rfl rfl) fun a111 hS111 => st_val hS111 rfl rfl rfl (r_extract hS111 rfl rfl rfl) fun a112 hS112 => st_val hS112 rfl rfl rfl (r_extract hS112 rfl rfl rfl) fun a113 hS113 => st_val hS113 rfl rfl rfl (r_assign hS113 rfl rfl) fun a114 hS114 => st_val hS114 rfl rfl rfl (r_assign hS114 rfl rfl) fun a115 hS115 => wpList_nil (hK _ _ ?_)
    replace hS : Sl 149 _ [(0, .int .i64 p0), (1, .slice A1 p1.length cap1), (2, .slice A2 p2.length cap2), (3, .int .i64 p3), (9, .int .i64 r27.1), (10, .slice A29 r27.2.length cap30), (13, .slice A64 r62.1.length cap65), (14, .int .i64 r62.2), (15, .slice A81 r79.1.length cap82), (16, .int .i64 r79.2), (17, .int .u64 r95.1), (18, .int .i64 r95.2), (19, .int .u64 r107.1), (20, .int .i64 r107.2)] := hS115.re ⟨rfl, rfl, rfl, rfl, rfl, rfl, rfl, rfl, rfl, rfl, rfl, rfl, rfl, rfl, trivial⟩
    clear hK K
    try clear hS104 hS105 hS106 hS109 hS111 hS112 hS113 hS114 hS115
    obtain ⟨a, ha⟩ : ∃ a', a' = a115 := ⟨_, rfl⟩
    rw [← ha] at hS ⊢; clear ha
    refine wp_seq ?_
    obtain ⟨t156, ht157, H⟩ := bind_el H
    obtain ⟨t188, ht189, H⟩ := bind_el H
    refine c_region (fun K hK => ?_)
    refine st_val hS rfl rfl rfl (r_move hS rfl rfl) fun a116 hS116 => st_val hS116 rfl rfl rfl (r_move hS116 rfl rfl) fun a117 hS117 => st_val hS117 rfl rfl rfl (r_bin hS117 rfl rfl rfl b_neq) fun a118 hS118 => st_val hS118 rfl rfl rfl (r_move hS118 rfl rfl) fun a119 hS119 => ?_
    refine g_join (N := 149) 4 [(0, .int .i64 p0), (1, .slice A1 p1.length cap1), (2, .slice A2 p2.length cap2), (3, .int .i64 p3), (9, .int .i64 r27.1), (10, .slice A29 r27.2.length cap30), (13, .slice A64 r62.1.length cap65), (15, .slice A81 r79.1.length cap82), (17, .int .u64 r95.1), (19, .int .u64 r107.1), (79, .bool ((r62.2 != r79.2) || (r95.2 != r107.2)))] ?_ (fun hk => ?_)
    rotate_left
    · rcases Bool.eq_false_or_eq_true ((r62.2 != r79.2)) with hb120 | hb120
      · refine st_off hS119 (want_off hS119 rfl rfl rfl hb120) rfl rfl fun a124 hS124 => st_off hS124 (want_off hS124 rfl rfl rfl hb120) rfl rfl fun a125 hS125 => st_off hS125 (want_off hS125 rfl rfl rfl hb120) rfl rfl fun a126 hS126 => st_val hS126 rfl rfl rfl (r_pickT hS126 rfl rfl rfl hb120) fun a127 hS127 => hk _ (hS127.re ⟨rfl, rfl, rfl, rfl, rfl, rfl, rfl, rfl, rfl, rfl, (by rw [hb120]; rfl), trivial⟩)
      · refine st_valW hS119 (want_on hS119 rfl rfl rfl hb120) rfl rfl (r_move hS119 rfl rfl) fun a128 hS128 => st_valW hS128 (want_on hS128 rfl rfl rfl hb120) rfl rfl (r_move hS128 rfl rfl) fun a129 hS129 => st_valW hS129 (want_on hS129 rfl rfl rfl hb120) rfl rfl (r_bin hS129 rfl rfl rfl b_neq) fun a130 hS130 => st_val hS130 rfl rfl rfl (r_pickF hS130 rfl rfl rfl hb120) fun a131 hS131 => hk _ (hS131.re ⟨rfl, rfl, rfl, rfl, rfl, rfl, rfl, rfl, rfl, rfl, (by rw [hb120]; rfl), trivial⟩)
    intro a132 hS132
    refine st_val hS132 rfl rfl rfl (r_move hS132 rfl rfl) fun a133 hS133 => ?_
    refine g_join (N := 149) 4 [(0, .int .i64 p0), (1, .slice A1 p1.length cap1), (2, .slice A2 p2.length cap2), (3, .int .i64 p3), (9, .int .i64 r27.1), (10, .slice A29 r27.2.length cap30), (13, .slice A64 r62.1.length cap65), (15, .slice A81 r79.1.length cap82), (84, .bool (((r62.2 != r79.2) || (r95.2 != r107.2)) || (r95.1 != r107.1)))] ?_ (fun hk => ?_)
    rotate_left
    · rcases Bool.eq_false_or_eq_true (((r62.2 != r79.2) || (r95.2 != r107.2))) with hb134 | hb134
      · refine st_off hS133 (want_off hS133 rfl rfl rfl hb134) rfl rfl fun a138 hS138 => st_off hS138 (want_off hS138 rfl rfl rfl hb134) rfl rfl fun a139 hS139 => st_off hS139 (want_off hS139 rfl rfl rfl hb134) rfl rfl fun a140 hS140 => st_val hS140 rfl rfl rfl (r_pickT hS140 rfl rfl rfl hb134) fun a141 hS141 => hk _ (hS141.re ⟨rfl, rfl, rfl, rfl, rfl, rfl, rfl, rfl, (by rw [hb134]; rfl), trivial⟩)
      · refine st_valW hS133 (want_on hS133 rfl rfl rfl hb134) rfl rfl (r_move hS133 rfl rfl) fun a142 hS142 => st_valW hS142 (want_on hS142 rfl rfl rfl hb134) rfl rfl (r_move hS142 rfl rfl) fun a143 hS143 => st_valW hS143 (want_on hS143 rfl rfl rfl hb134) rfl rfl (r_bin hS143 rfl rfl rfl b_neq) fun a144 hS144 => st_val hS144 rfl rfl rfl (r_pickF hS144 rfl rfl rfl hb134) fun a145 hS145 => hk _ (hS145.re ⟨rfl, rfl, rfl, rfl, rfl, rfl, rfl, rfl, (by rw [hb134]; rfl), trivial⟩)
    intro a146 hS146
    refine st_val hS146 rfl rfl rfl (r_move hS146 rfl rfl) fun a147 hS147 => ?_
    refine g_joinR 5 (fun a w158 => ∃ (g158 : Nat → Nat), Sl 149 a [(0, .int .i64 p0), (1, .slice A1 p1.length cap1), (2, .slice A2 p2.length cap2), (3, .int .i64 p3), (9, .int .i64 r27.1), (10, .slice A29 r27.2.length cap30), (13, .slice A64 r62.1.length cap65), (15, .slice A81 r79.1.length cap82), (90, .bool t156)] ∧ OwS kd_api_Link 43 w158 g158 (N + 0) A29 cap30 r27.2 ∧ OwS kd_api_Slot 38 w158 g158 (N + 4) A64 cap65 r62.1 ∧ OwS kd_api_Slot 38 w158 g158 (N + 6) A81 cap82 r79.1 ∧ RdS kd_api_Link w158 g158 C1 A1 cap1 p1 ∧ RdS (kint .u64) w158 g158 C2 A2 cap2 p2 ∧ Fr (fun q => N ≤ q) w g w158 g158) ?_ (fun hk => ?_)
    rotate_left
    · rcases Bool.eq_false_or_eq_true ((((r62.2 != r79.2) || (r95.2 != r107.2)) || (r95.1 != r107.1))) with hb148 | hb148
      · have H := ite_t hb148 ht157
        have e159 := Option.some.inj H
        refine st_off hS147 (want_off hS147 rfl rfl rfl hb148) rfl rfl fun a160 hS160 => st_off hS160 (want_off hS160 rfl rfl rfl hb148) rfl rfl fun a161 hS161 => st_off hS161 (want_off hS161 rfl rfl rfl hb148) rfl rfl fun a162 hS162 => st_off hS162 (want_off hS162 rfl rfl rfl hb148) rfl rfl fun a163 hS163 => st_val hS163 rfl rfl rfl (r_pickT hS163 rfl rfl rfl hb148) fun a164 hS164 => hk _ _ ?_
        exact ⟨g110, hS164.re ⟨rfl, rfl, rfl, rfl, rfl, rfl, rfl, rfl, (by rw [← e159]; rfl), trivial⟩, h31, h66, h83, hp1, hp2, hF⟩
      · have H := ite_f hb148 ht157
        obtain ⟨r167, hr168, H⟩ := bind_el H
        have e172 := Option.some.inj H
        refine st_valW hS147 (want_on hS147 rfl rfl rfl hb148) rfl rfl (r_move hS147 rfl rfl) fun a165 hS165 => st_valW hS165 (want_on hS165 rfl rfl rfl hb148) rfl rfl (r_move hS165 rfl rfl) fun a166 hS166 => ?_
        refine st_enterW hS166 (want_on hS166 rfl rfl rfl hb148) rfl rfl (r_call hS166 rfl rfl (by kernel_rfl)) (help_Equal_api_Slot.calls (C0 := (fun q => q = N + 4)) (C1 := (fun q => q = N + 6)) (p0 := r62.1) (p1 := r79.1) (g := g110) (N + 12)  (OwD.rdf (fun _ _ _ _ _ _ h => h) h66) (fun q (hq : q = N + 4) => by omega) (OwD.rdf (fun _ _ _ _ _ _ h => h) h83) (fun q (hq : q = N + 6) => by omega) hr168) ?_
        rintro _ a169 w170 ⟨g170, rfl, F170⟩ hS169
        replace h31 := OwS.fr h31 F170 (fun c' hc (hm : N + 12 ≤ c') => by omega)
        replace h66 := OwS.fr h66 F170 (fun c' hc (hm : N + 12 ≤ c') => by omega)
        replace h83 := OwS.fr h83 F170 (fun c' hc (hm : N + 12 ≤ c') => by omega)
        replace hp1 := RdS.fr hp1 F170 (by decide) (fun q (hq : C1 q) (hm : N + 12 ≤ q) => by have := hC1 q hq; omega)
        replace hp2 := RdS.fr hp2 F170 (by decide) (fun q (hq : C2 q) (hm : N + 12 ≤ q) => by have := hC2 q hq; omega)
        replace hF := hF.trans F170 (fun c' (hm : N + 12 ≤ c') => by show N ≤ c'; omega)
        refine st_valW hS169 (want_on hS169 rfl rfl rfl hb148) rfl rfl (r_not hS169 rfl rfl) fun a171 hS171 => ?_
        refine st_val hS171 rfl rfl rfl (r_pickF hS171 rfl rfl rfl hb148) fun a173 hS173 => hk _ _ ?_
        exact ⟨g170, hS173.re ⟨rfl, rfl, rfl, rfl, rfl, rfl, rfl, rfl, (by rw [← e172]; rfl), trivial⟩, h31, h66, h83, hp1, hp2, hF⟩
    rintro a174 w158 ⟨g158, hS174, h31, h66, h83, hp1, hp2, hF⟩
    refine st_val hS174 rfl rfl rfl (r_move hS174 rfl rfl) fun a175 hS175 => ?_
    refine g_joinR 6 (fun a w190 => ∃ (g190 : Nat → Nat), Sl 149 a [(0, .int .i64 p0), (1, .slice A1 p1.length cap1), (2, .slice A2 p2.length cap2), (3, .int .i64 p3), (9, .int .i64 r27.1), (10, .slice A29 r27.2.length cap30), (97, .bool t188)] ∧ OwS kd_api_Link 43 w190 g190 (N + 0) A29 cap30 r27.2 ∧ RdS kd_api_Link w190 g190 C1 A1 cap1 p1 ∧ RdS (kint .u64) w190 g190 C2 A2 cap2 p2 ∧ Fr (fun q => N ≤ q) w g w190 g190) ?_ (fun hk => ?_)
    rotate_left
    · rcases Bool.eq_false_or_eq_true (t156) with hb176 | hb176
      · have H := ite_t hb176 ht189
        have e191 := Option.some.inj H
        refine st_off hS175 (want_off hS175 rfl rfl rfl hb176) rfl rfl fun a192 hS192 => st_off hS192 (want_off hS192 rfl rfl rfl hb176) rfl rfl fun a193 hS193 => st_off hS193 (want_off hS193 rfl rfl rfl hb176) rfl rfl fun a194 hS194 => st_off hS194 (want_off hS194 rfl rfl rfl hb176) rfl rfl fun a195 hS195 => st_off hS195 (want_off hS195 rfl rfl rfl hb176) rfl rfl fun a196 hS196 => st_val hS196 rfl rfl rfl (r_pickT hS196 rfl rfl rfl hb176) fun a197 hS197 => hk _ _ ?_
        exact ⟨g158, hS197.re ⟨rfl, rfl, rfl, rfl, rfl, rfl, (by rw [← e191]; rfl), trivial⟩, h31, hp1, hp2, hF⟩
      · have H := ite_f hb176 ht189
        obtain ⟨r199, hr200, H⟩ := bind_el H
        obtain ⟨r204, hr205, H⟩ := bind_el H
        have e209 := Option.some.inj H
        refine st_valW hS175 (want_on hS175 rfl rfl rfl hb176) rfl rfl (r_move hS175 rfl rfl) fun a198 hS198 => ?_
        refine st_enterW hS198 (want_on hS198 rfl rfl rfl hb176) rfl rfl (r_call hS198 rfl rfl (by kernel_rfl)) (resume_Makespan.calls (C0 := (fun q => q = N + 4)) (p0 := r62.1) (g := g158) (N + 12)  (OwD.rdf (fun _ _ _ _ _ _ h => h) h66) (fun q (hq : q = N + 4) => by omega) hr200) ?_
        rintro _ a201 w202 ⟨g202, rfl, F202⟩ hS201
        replace h31 := OwS.fr h31 F202 (fun c' hc (hm : N + 12 ≤ c') => by omega)
        replace h66 := OwS.fr h66 F202 (fun c' hc (hm : N + 12 ≤ c') => by omega)
        replace h83 := OwS.fr h83 F202 (fun c' hc (hm : N + 12 ≤ c') => by omega)
        replace hp1 := RdS.fr hp1 F202 (by decide) (fun q (hq : C1 q) (hm : N + 12 ≤ q) => by have := hC1 q hq; omega)
        replace hp2 := RdS.fr hp2 F202 (by decide) (fun q (hq : C2 q) (hm : N + 12 ≤ q) => by have := hC2 q hq; omega)
        replace hF := hF.trans F202 (fun c' (hm : N + 12 ≤ c') => by show N ≤ c'; omega)
        refine st_valW hS201 (want_on hS201 rfl rfl rfl hb176) rfl rfl (r_move hS201 rfl rfl) fun a203 hS203 => ?_
        refine st_enterW hS203 (want_on hS203 rfl rfl rfl hb176) rfl rfl (r_call hS203 rfl rfl (by kernel_rfl)) (ref31_Makespan.calls (C0 := (fun q => q = N + 6)) (p0 := r79.1) (g := g202) (N + 12)  (OwD.rdf (fun _ _ _ _ _ _ h => h) h83) (fun q (hq : q = N + 6) => by omega) hr205) ?_
        rintro _ a206 w207 ⟨g207, rfl, F207⟩ hS206
        replace h31 := OwS.fr h31 F207 (fun c' hc (hm : N + 12 ≤ c') => by omega)
        replace h66 := OwS.fr h66 F207 (fun c' hc (hm : N + 12 ≤ c') => by omega)
        replace h83 := OwS.fr h83 F207 (fun c' hc (hm : N + 12 ≤ c') => by omega)
        replace hp1 := RdS.fr hp1 F207 (by decide) (fun q (hq : C1 q) (hm : N + 12 ≤ q) => by have := hC1 q hq; omega)
        replace hp2 := RdS.fr hp2 F207 (by decide) (fun q (hq : C2 q) (hm : N + 12 ≤ q) => by have := hC2 q hq; omega)
        replace hF := hF.trans F207 (fun c' (hm : N + 12 ≤ c') => by show N ≤ c'; omega)
        refine st_valW hS206 (want_on hS206 rfl rfl rfl hb176) rfl rfl (r_bin hS206 rfl rfl rfl b_neq) fun a208 hS208 => ?_
        refine st_val hS208 rfl rfl rfl (r_pickF hS208 rfl rfl rfl hb176) fun a210 hS210 => hk _ _ ?_
        exact ⟨g207, hS210.re ⟨rfl, rfl, rfl, rfl, rfl, rfl, (by rw [← e209]; rfl), trivial⟩, h31, hp1, hp2, hF⟩
    rintro a211 w190 ⟨g190, hS211, h31, hp1, hp2, hF⟩
    refine wpList_nil (hK _ _ ?_)
    replace hS : Sl 149 _ [(0, .int .i64 p0), (1, .slice A1 p1.length cap1), (2, .slice A2 p2.length cap2), (3, .int .i64 p3), (9, .int .i64 r27.1), (10, .slice A29 r27.2.length cap30), (97, .bool t188)] := hS211.re ⟨rfl, rfl, rfl, rfl, rfl, rfl, rfl, trivial⟩
    clear hK K
    try clear hS116 hS117 hS118 hS119 hS132 hS133 hS146 hS147 hS174 hS175 hS211
    obtain ⟨a, ha⟩ : ∃ a', a' = a211 := ⟨_, rfl⟩
    rw [← ha] at hS ⊢; clear ha
    refine c_cond hS rfl (fun hb212 => ?_) (fun hb212 => ?_)
    · replace H := ite_t hb212 H
      refine c_pure [(8, .bool false)] (fun R hR => st_val hS rfl rfl rfl (r_assign hS rfl rfl) fun a213 hS213 => wpList_nil (hR _ (hS213.re ⟨rfl, trivial⟩))) ?_
      clear hS
      clear a
      intro a hS
      refine wp_ret ?_
      have e := Option.some.inj H
      subst e
      repeat (with_reducible first | refine then_ret ?_ | refine inBlock_ret ?_)
      exact c_ret1 hS Try.results3 rfl ⟨_, rfl, g190, rfl, hF⟩
    · replace H := ite_f hb212 H
      refine wp_skip ?_
      change Code.wp _ _ _ _ _
      obtain ⟨r218, hr219, H⟩ := bind_el H
      refine c_region (fun K hK => ?_)
      refine st_val hS rfl rfl rfl (r_move hS rfl rfl) fun a214 hS214 => st_val hS214 rfl rfl rfl (r_move hS214 rfl rfl) fun a215 hS215 => st_val hS215 rfl rfl rfl (r_move hS215 rfl rfl) fun a216 hS216 => st_val hS216 rfl rfl rfl (r_move hS216 rfl rfl) fun a217 hS217 => ?_
      refine st_enter hS217 rfl rfl rfl (r_call hS217 rfl rfl (by kernel_rfl)) (resume_Schedule.calls (C1 := (fun q => q = N + 0)) (C2 := C2) (p0 := r27.1) (p1 := r27.2) (p2 := p2) (p3 := p3) (g := g190) (N + 12) (N + 8) (OwD.rdf (fun _ _ _ _ _ _ h => h) h31) (fun q (hq : q = N + 0) => by omega) hp2 (fun q (hq : C2 q) => by have := hC2 q hq; omega) (by omega) hr219) ?_
      rintro _ a224 w225 ⟨g225, A220, cap221, rfl, h222, F225⟩ hS224
      replace h31 := OwS.fr h31 F225 (fun c' hc (hm : (N + 8 ≤ c' ∧ c' < N + 8 + 2) ∨ N + 12 ≤ c') => by omega)
      replace hp1 := RdS.fr hp1 F225 (by decide) (fun q (hq : C1 q) (hm : (N + 8 ≤ q ∧ q < N + 8 + 2) ∨ N + 12 ≤ q) => by have := hC1 q hq; omega)
      replace hp2 := RdS.fr hp2 F225 (by decide) (fun q (hq : C2 q) (hm : (N + 8 ≤ q ∧ q < N + 8 + 2) ∨ N + 12 ≤ q) => by have := hC2 q hq; omega)
      replace hF := hF.trans F225 (fun c' (hm : (N + 8 ≤ c' ∧ c' < N + 8 + 2) ∨ N + 12 ≤ c') => by show N ≤ c'; omega)
      refine st_val hS224 rfl rfl rfl (r_move hS224 rfl rfl) fun a226 hS226 => st_val hS226 rfl rfl rfl (r_extract hS226 rfl rfl rfl) fun a227 hS227 => st_val hS227 rfl rfl rfl (r_extract hS227 rfl rfl rfl) fun a228 hS228 => st_val hS228 rfl rfl rfl (r_assign hS228 rfl rfl) fun a229 hS229 => st_val hS229 rfl rfl rfl (r_assign hS229 rfl rfl) fun a230 hS230 => wpList_nil (hK _ _ ?_)
      replace hS : Sl 149 _ [(0, .int .i64 p0), (1, .slice A1 p1.length cap1), (2, .slice A2 p2.length cap2), (3, .int .i64 p3), (9, .int .i64 r27.1), (10, .slice A29 r27.2.length cap30), (13, .slice A220 r218.1.length cap221), (14, .int .i64 r218.2)] := hS230.re ⟨rfl, rfl, rfl, rfl, rfl, rfl, rfl, rfl, trivial⟩
      clear hK K
      try clear hS214 hS215 hS216 hS217 hS224 hS226 hS227 hS228 hS229 hS230
      obtain ⟨a, ha⟩ : ∃ a', a' = a230 := ⟨_, rfl⟩
      rw [← ha] at hS ⊢; clear ha
      obtain ⟨r235, hr236, H⟩ := bind_el H
      refine c_region (fun K hK => ?_)
      refine st_val hS rfl rfl rfl (r_move hS rfl rfl) fun a231 hS231 => st_val hS231 rfl rfl rfl (r_move hS231 rfl rfl) fun a232 hS232 => st_val hS232 rfl rfl rfl (r_move hS232 rfl rfl) fun a233 hS233 => st_val hS233 rfl rfl rfl (r_move hS233 rfl rfl) fun a234 hS234 => ?_
      refine st_enter hS234 rfl rfl rfl (r_call hS234 rfl rfl (by kernel_rfl)) (ref31_Schedule.calls (C1 := (fun q => q = N + 0)) (C2 := C2) (p0 := r27.1) (p1 := r27.2) (p2 := p2) (p3 := p3) (g := g225) (N + 12) (N + 10) (OwD.rdf (fun _ _ _ _ _ _ h => h) h31) (fun q (hq : q = N + 0) => by omega) hp2 (fun q (hq : C2 q) => by have := hC2 q hq; omega) (by omega) hr236) ?_
      rintro _ a241 w242 ⟨g242, A237, cap238, rfl, h239, F242⟩ hS241
      replace h222 := OwS.fr h222 F242 (fun c' hc (hm : (N + 10 ≤ c' ∧ c' < N + 10 + 2) ∨ N + 12 ≤ c') => by omega)
      replace h31 := OwS.fr h31 F242 (fun c' hc (hm : (N + 10 ≤ c' ∧ c' < N + 10 + 2) ∨ N + 12 ≤ c') => by omega)
      replace hp1 := RdS.fr hp1 F242 (by decide) (fun q (hq : C1 q) (hm : (N + 10 ≤ q ∧ q < N + 10 + 2) ∨ N + 12 ≤ q) => by have := hC1 q hq; omega)
      replace hp2 := RdS.fr hp2 F242 (by decide) (fun q (hq : C2 q) (hm : (N + 10 ≤ q ∧ q < N + 10 + 2) ∨ N + 12 ≤ q) => by have := hC2 q hq; omega)
      replace hF := hF.trans F242 (fun c' (hm : (N + 10 ≤ c' ∧ c' < N + 10 + 2) ∨ N + 12 ≤ c') => by show N ≤ c'; omega)
      refine st_val hS241 rfl rfl rfl (r_move hS241 rfl rfl) fun a243 hS243 => st_val hS243 rfl rfl rfl (r_extract hS243 rfl rfl rfl) fun a244 hS244 => st_val hS244 rfl rfl rfl (r_extract hS244 rfl rfl rfl) fun a245 hS245 => st_val hS245 rfl rfl rfl (r_assign hS245 rfl rfl) fun a246 hS246 => st_val hS246 rfl rfl rfl (r_assign hS246 rfl rfl) fun a247 hS247 => wpList_nil (hK _ _ ?_)
      replace hS : Sl 149 _ [(0, .int .i64 p0), (1, .slice A1 p1.length cap1), (2, .slice A2 p2.length cap2), (13, .slice A220 r218.1.length cap221), (14, .int .i64 r218.2), (15, .slice A237 r235.1.length cap238), (16, .int .i64 r235.2)] := hS247.re ⟨rfl, rfl, rfl, rfl, rfl, rfl, rfl, trivial⟩
      clear hK K
      try clear hS231 hS232 hS233 hS234 hS241 hS243 hS244 hS245 hS246 hS247
      obtain ⟨a, ha⟩ : ∃ a', a' = a247 := ⟨_, rfl⟩
      rw [← ha] at hS ⊢; clear ha
      obtain ⟨r251, hr252, H⟩ := bind_el H
      refine c_region (fun K hK => ?_)
      refine st_val hS rfl rfl rfl (r_move hS rfl rfl) fun a248 hS248 => st_val hS248 rfl rfl rfl (r_move hS248 rfl rfl) fun a249 hS249 => st_val hS249 rfl rfl rfl (r_move hS249 rfl rfl) fun a250 hS250 => ?_
      refine st_enter hS250 rfl rfl rfl (r_call hS250 rfl rfl (by kernel_rfl)) (resume_CriticalPath.calls (C1 := C1) (C2 := C2) (p0 := p0) (p1 := p1) (p2 := p2) (g := g242) (N + 12)  hp1 (fun q (hq : C1 q) => by have := hC1 q hq; omega) hp2 (fun q (hq : C2 q) => by have := hC2 q hq; omega) hr252) ?_
      rintro _ a253 w254 ⟨g254, rfl, F254⟩ hS253
      replace h222 := OwS.fr h222 F254 (fun c' hc (hm : N + 12 ≤ c') => by omega)
      replace h239 := OwS.fr h239 F254 (fun c' hc (hm : N + 12 ≤ c') => by omega)
      replace hp1 := RdS.fr hp1 F254 (by decide) (fun q (hq : C1 q) (hm : N + 12 ≤ q) => by have := hC1 q hq; omega)
      replace hp2 := RdS.fr hp2 F254 (by decide) (fun q (hq : C2 q) (hm : N + 12 ≤ q) => by have := hC2 q hq; omega)
      replace hF := hF.trans F254 (fun c' (hm : N + 12 ≤ c') => by show N ≤ c'; omega)
      refine st_val hS253 rfl rfl rfl (r_move hS253 rfl rfl) fun a255 hS255 => st_val hS255 rfl rfl rfl (r_extract hS255 rfl rfl rfl) fun a256 hS256 => st_val hS256 rfl rfl rfl (r_extract hS256 rfl rfl rfl) fun a257 hS257 => st_val hS257 rfl rfl rfl (r_assign hS257 rfl rfl) fun a258 hS258 => st_val hS258 rfl rfl rfl (r_assign hS258 rfl rfl) fun a259 hS259 => wpList_nil (hK _ _ ?_)
      replace hS : Sl 149 _ [(0, .int .i64 p0), (1, .slice A1 p1.length cap1), (2, .slice A2 p2.length cap2), (13, .slice A220 r218.1.length cap221), (14, .int .i64 r218.2), (15, .slice A237 r235.1.length cap238), (16, .int .i64 r235.2), (17, .int .u64 r251.1), (18, .int .i64 r251.2)] := hS259.re ⟨rfl, rfl, rfl, rfl, rfl, rfl, rfl, rfl, rfl, trivial⟩
      clear hK K
      try clear hS248 hS249 hS250 hS253 hS255 hS256 hS257 hS258 hS259
      obtain ⟨a, ha⟩ : ∃ a', a' = a259 := ⟨_, rfl⟩
      rw [← ha] at hS ⊢; clear ha
      obtain ⟨r263, hr264, H⟩ := bind_el H
      refine c_region (fun K hK => ?_)
      refine st_val hS rfl rfl rfl (r_move hS rfl rfl) fun a260 hS260 => st_val hS260 rfl rfl rfl (r_move hS260 rfl rfl) fun a261 hS261 => st_val hS261 rfl rfl rfl (r_move hS261 rfl rfl) fun a262 hS262 => ?_
      refine st_enter hS262 rfl rfl rfl (r_call hS262 rfl rfl (by kernel_rfl)) (ref31_CriticalPath.calls (C1 := C1) (C2 := C2) (p0 := p0) (p1 := p1) (p2 := p2) (g := g254) (N + 12)  hp1 (fun q (hq : C1 q) => by have := hC1 q hq; omega) hp2 (fun q (hq : C2 q) => by have := hC2 q hq; omega) hr264) ?_
      rintro _ a265 w266 ⟨g266, rfl, F266⟩ hS265
      replace h222 := OwS.fr h222 F266 (fun c' hc (hm : N + 12 ≤ c') => by omega)
      replace h239 := OwS.fr h239 F266 (fun c' hc (hm : N + 12 ≤ c') => by omega)
      replace hp1 := RdS.fr hp1 F266 (by decide) (fun q (hq : C1 q) (hm : N + 12 ≤ q) => by have := hC1 q hq; omega)
      replace hp2 := RdS.fr hp2 F266 (by decide) (fun q (hq : C2 q) (hm : N + 12 ≤ q) => by have := hC2 q hq; omega)
      replace hF := hF.trans F266 (fun c' (hm : N + 12 ≤ c') => by show N ≤ c'; omega)
      refine st_val hS265 rfl rfl rfl (r_move hS265 rfl rfl) fun a267 hS267 => st_val hS267 rfl rfl rfl (r_extract hS267 rfl rfl rfl) fun a268 hS268 => st_val hS268 rfl rfl rfl (r_extract hS268 rfl rfl rfl) fun a269 hS269 => st_val hS269 rfl rfl rfl (r_assign hS269 rfl rfl) fun a270 hS270 => st_val hS270 rfl rfl rfl (r_assign hS270 rfl rfl) fun a271 hS271 => wpList_nil (hK _ _ ?_)
      replace hS : Sl 149 _ [(13, .slice A220 r218.1.length cap221), (14, .int .i64 r218.2), (15, .slice A237 r235.1.length cap238), (16, .int .i64 r235.2), (17, .int .u64 r251.1), (18, .int .i64 r251.2), (19, .int .u64 r263.1), (20, .int .i64 r263.2)] := hS271.re ⟨rfl, rfl, rfl, rfl, rfl, rfl, rfl, rfl, trivial⟩
      clear hK K
      try clear hS260 hS261 hS262 hS265 hS267 hS268 hS269 hS270 hS271
      obtain ⟨a, ha⟩ : ∃ a', a' = a271 := ⟨_, rfl⟩
      rw [← ha] at hS ⊢; clear ha
      obtain ⟨t311, ht312, H⟩ := bind_el H
      obtain ⟨t334, ht335, H⟩ := bind_el H
      refine c_region (fun K hK => ?_)
      refine st_val hS rfl rfl rfl (r_move hS rfl rfl) fun a272 hS272 => st_val hS272 rfl rfl rfl (r_move hS272 rfl rfl) fun a273 hS273 => st_val hS273 rfl rfl rfl (r_bin hS273 rfl rfl rfl b_eql) fun a274 hS274 => st_val hS274 rfl rfl rfl (r_move hS274 rfl rfl) fun a275 hS275 => ?_
      refine g_join (N := 149) 4 [(13, .slice A220 r218.1.length cap221), (15, .slice A237 r235.1.length cap238), (17, .int .u64 r251.1), (19, .int .u64 r263.1), (135, .bool ((r218.2 == r235.2) && (r251.2 == r263.2)))] ?_ (fun hk => ?_)
      rotate_left
      · rcases Bool.eq_false_or_eq_true ((r218.2 == r235.2)) with hb276 | hb276
        · refine st_valW hS275 (want_on hS275 rfl rfl rfl hb276) rfl rfl (r_move hS275 rfl rfl) fun a280 hS280 => st_valW hS280 (want_on hS280 rfl rfl rfl hb276) rfl rfl (r_move hS280 rfl rfl) fun a281 hS281 => st_valW hS281 (want_on hS281 rfl rfl rfl hb276) rfl rfl (r_bin hS281 rfl rfl rfl b_eql) fun a282 hS282 => st_val hS282 rfl rfl rfl (r_pickT hS282 rfl rfl rfl hb276) fun a283 hS283 => hk _ (hS283.re ⟨rfl, rfl, rfl, rfl, (by rw [hb276]; rfl), trivial⟩)
        · refine st_off hS275 (want_off hS275 rfl rfl rfl hb276) rfl rfl fun a284 hS284 => st_off hS284 (want_off hS284 rfl rfl rfl hb276) rfl rfl fun a285 hS285 => st_off hS285 (want_off hS285 rfl rfl rfl hb276) rfl rfl fun a286 hS286 => st_val hS286 rfl rfl rfl (r_pickF hS286 rfl rfl rfl hb276) fun a287 hS287 => hk _ (hS287.re ⟨rfl, rfl, rfl, rfl, (by rw [hb276]; rfl), trivial⟩)
      intro a288 hS288
      refine st_val hS288 rfl rfl rfl (r_move hS288 rfl rfl) fun a289 hS289 => ?_
      refine g_join (N := 149) 4 [(13, .slice A220 r218.1.length cap221), (15, .slice A237 r235.1.length cap238), (140, .bool (((r218.2 == r235.2) && (r251.2 == r263.2)) && (r251.1 == r263.1)))] ?_ (fun hk => ?_)
      rotate_left
      · rcases Bool.eq_false_or_eq_true (((r218.2 == r235.2) && (r251.2 == r263.2))) with hb290 | hb290
        · refine st_valW hS289 (want_on hS289 rfl rfl rfl hb290) rfl rfl (r_move hS289 rfl rfl) fun a294 hS294 => st_valW hS294 (want_on hS294 rfl rfl rfl hb290) rfl rfl (r_move hS294 rfl rfl) fun a295 hS295 => st_valW hS295 (want_on hS295 rfl rfl rfl hb290) rfl rfl (r_bin hS295 rfl rfl rfl b_eql) fun a296 hS296 => st_val hS296 rfl rfl rfl (r_pickT hS296 rfl rfl rfl hb290) fun a297 hS297 => hk _ (hS297.re ⟨rfl, rfl, (by rw [hb290]; rfl), trivial⟩)
        · refine st_off hS289 (want_off hS289 rfl rfl rfl hb290) rfl rfl fun a298 hS298 => st_off hS298 (want_off hS298 rfl rfl rfl hb290) rfl rfl fun a299 hS299 => st_off hS299 (want_off hS299 rfl rfl rfl hb290) rfl rfl fun a300 hS300 => st_val hS300 rfl rfl rfl (r_pickF hS300 rfl rfl rfl hb290) fun a301 hS301 => hk _ (hS301.re ⟨rfl, rfl, (by rw [hb290]; rfl), trivial⟩)
      intro a302 hS302
      refine st_val hS302 rfl rfl rfl (r_move hS302 rfl rfl) fun a303 hS303 => ?_
      refine g_joinR 4 (fun a w313 => ∃ (g313 : Nat → Nat), Sl 149 a [(145, .bool t311)] ∧ Fr (fun q => N ≤ q) w g w313 g313) ?_ (fun hk => ?_)
      rotate_left
      · rcases Bool.eq_false_or_eq_true ((((r218.2 == r235.2) && (r251.2 == r263.2)) && (r251.1 == r263.1))) with hb304 | hb304
        · have H := ite_t hb304 ht312
          obtain ⟨r316, hr317, H⟩ := bind_el H
          have e320 := Option.some.inj H
          refine st_valW hS303 (want_on hS303 rfl rfl rfl hb304) rfl rfl (r_move hS303 rfl rfl) fun a314 hS314 => st_valW hS314 (want_on hS314 rfl rfl rfl hb304) rfl rfl (r_move hS314 rfl rfl) fun a315 hS315 => ?_
          refine st_enterW hS315 (want_on hS315 rfl rfl rfl hb304) rfl rfl (r_call hS315 rfl rfl (by kernel_rfl)) (help_Equal_api_Slot.calls (C0 := (fun q => q = N + 8)) (C1 := (fun q => q = N + 10)) (p0 := r218.1) (p1 := r235.1) (g := g266) (N + 12)  (OwD.rdf (fun _ _ _ _ _ _ h => h) h222) (fun q (hq : q = N + 8) => by omega) (OwD.rdf (fun _ _ _ _ _ _ h => h) h239) (fun q (hq : q = N + 10) => by omega) hr317) ?_
          rintro _ a318 w319 ⟨g319, rfl, F319⟩ hS318
          replace h222 := OwS.fr h222 F319 (fun c' hc (hm : N + 12 ≤ c') => by omega)
          replace h239 := OwS.fr h239 F319 (fun c' hc (hm : N + 12 ≤ c') => by omega)
          replace hF := hF.trans F319 (fun c' (hm : N + 12 ≤ c') => by show N ≤ c'; omega)
          refine st_val hS318 rfl rfl rfl (r_pickT hS318 rfl rfl rfl hb304) fun a321 hS321 => hk _ _ ?_
          exact ⟨g319, hS321.re ⟨(by rw [← e320]; rfl), trivial⟩, hF⟩
        · have H := ite_f hb304 ht312
          have e322 := Option.some.inj H
          refine st_off hS303 (want_off hS303 rfl rfl rfl hb304) rfl rfl fun a323 hS323 => st_off hS323 (want_off hS323 rfl rfl rfl hb304) rfl rfl fun a324 hS324 => st_off hS324 (want_off hS324 rfl rfl rfl hb304) rfl rfl fun a325 hS325 => st_val hS325 rfl rfl rfl (r_pickF hS325 rfl rfl rfl hb304) fun a326 hS326 => hk _ _ ?_
          exact ⟨g266, hS326.re ⟨(by rw [← e322]; rfl), trivial⟩, hF⟩
      rintro a327 w313 ⟨g313, hS327, hF⟩
      refine st_val hS327 rfl rfl rfl (r_move hS327 rfl rfl) fun a328 hS328 => ?_
      refine g_joinR 2 (fun a w336 => ∃ (g336 : Nat → Nat), Sl 149 a [(148, .bool t334)] ∧ Fr (fun q => N ≤ q) w g w336 g336) ?_ (fun hk => ?_)
      rotate_left
      · rcases Bool.eq_false_or_eq_true (t311) with hb329 | hb329
        · have H := ite_t hb329 ht335
          obtain ⟨r337, hr338, H⟩ := bind_el H
          have e341 := Option.some.inj H
          refine st_enterW hS328 (want_on hS328 rfl rfl rfl hb329) rfl rfl (r_call hS328 rfl rfl (by kernel_rfl)) (law31_awake.calls (g := g313) (N + 12)   hr338) ?_
          rintro _ a339 w340 ⟨g340, rfl, F340⟩ hS339
          replace hF := hF.trans F340 (fun c' (hm : N + 12 ≤ c') => by show N ≤ c'; omega)
          refine st_val hS339 rfl rfl rfl (r_pickT hS339 rfl rfl rfl hb329) fun a342 hS342 => hk _ _ ?_
          exact ⟨g340, hS342.re ⟨(by rw [← e341]; rfl), trivial⟩, hF⟩
        · have H := ite_f hb329 ht335
          have e343 := Option.some.inj H
          refine st_off hS328 (want_off hS328 rfl rfl rfl hb329) rfl rfl fun a344 hS344 => st_val hS344 rfl rfl rfl (r_pickF hS344 rfl rfl rfl hb329) fun a345 hS345 => hk _ _ ?_
          exact ⟨g313, hS345.re ⟨(by rw [← e343]; rfl), trivial⟩, hF⟩
      rintro a346 w336 ⟨g336, hS346, hF⟩
      refine st_val hS346 rfl rfl rfl (r_assign hS346 rfl rfl) fun a347 hS347 => wpList_nil (hK _ _ ?_)
      replace hS : Sl 149 _ [(8, .bool t334)] := hS347.re ⟨rfl, trivial⟩
      clear hK K
      try clear hS272 hS273 hS274 hS275 hS288 hS289 hS302 hS303 hS327 hS328 hS346 hS347
      obtain ⟨a, ha⟩ : ∃ a', a' = a347 := ⟨_, rfl⟩
      rw [← ha] at hS ⊢; clear ha
      refine wp_ret ?_
      have e := Option.some.inj H
      subst e
      repeat (with_reducible first | refine then_ret ?_ | refine inBlock_ret ?_)
      exact c_ret1 hS Try.results3 rfl ⟨_, rfl, g336, rfl, hF⟩

/-- What is left of law31_ResumeScheduleAgrees: about plain values alone. -/
def law31_ResumeScheduleAgrees.Pure : Prop := ∀ (p0 : Int) (p1 : List api_Link) (p2 : List Int) (p3 : Int), (Lit.int .i64 p0).wf = true → (p1.length ≤ maxLen ∧ ∀ p1' ∈ p1, Wf_api_Link p1') → (p2.length ≤ maxLen ∧ ∀ p2' ∈ p2, (Lit.int .u64 p2').wf = true) → (Lit.int .i64 p3).wf = true → law31_ResumeScheduleAgrees.f p0 p1 p2 p3 = some true

end Go.Proofs.Ythmjgadmadlpkaa.Sim

namespace Go.Proofs.Ythmjgadmadlpkaa.Sim
open Go
set_option linter.unusedVariables false
set_option linter.unusedSimpArgs false

open Go.ChangeShapes Go.WideShapes Go.ChangeAt Go.RowKit
namespace RowResumeScheduleAgrees
theorem own : ownKnob Try.prog.godebug = none := by kernel_rfl
theorem laidOut : laidOutB Try.prog = true := by kernel_rfl
set_option maxRecDepth 100000 in
theorem lifted (PU : law31_ResumeScheduleAgrees.Pure) (os : Os) (started : os.Started) (H : Type) (enc : TypeId × Value → H) :
    ReturnsInHanded {} Try.checked os 3 .any (Rows.resumeScheduleAgreesSpec.pre6 enc Try.prog Try.f3 Rows.resumeScheduleAgreesRow.domain false) (Rows.resumeScheduleAgreesSpec.post enc Try.prog Try.f3 false true false false) := by
  refine returnsInHanded_of_change (C := Try.checked) own started (by kernel_rfl) Try.func3
    (ChangeSpec.witness6 (enc := enc) (C := Try.checked) false ⟨#[], #[.int .i64 0, .slice none 0 0, .slice none 0 0, .int .i64 0], []⟩ 8 (by kernel_rfl) (by kernel_rfl) (by kernel_rfl) (by kernel_rfl)) ?_
  intro W base args ds gs before hval0 hW hcnd _
  have hval : ∀ (j : Nat) t v, Try.f3.params[j]? = some t → args[j]? = some v → Value.okWide Try.prog W .any base t v := hval0
  have hW' := hW
  obtain ⟨p, q, hA0, hV, rfl, hfz, hnd⟩ := hW
  have hA : DataW.TrodAll enc Try.prog W 0 (fun _ => true) true Try.f3.params.toList args.toList ds p := hA0
  rw [Try.params3] at hA hval
  obtain ⟨v0, vs0, d0, ds0, q0, q0b, hargs, rfl, rfl, h0, r0⟩ := trodAll_cons hA
  obtain ⟨v1, vs1, d1, ds1, q1, q1b, rfl, rfl, rfl, h1, r1⟩ := trodAll_cons r0
  obtain ⟨v2, vs2, d2, ds2, q2, q2b, rfl, rfl, rfl, h2, r2⟩ := trodAll_cons r1
  obtain ⟨v3, vs3, d3, ds3, q3, q3b, rfl, rfl, rfl, h3, r3⟩ := trodAll_cons r2
  obtain ⟨rfl, rfl, rfl⟩ := trodAll_nil r3
  obtain rfl : args = #[v0, v1, v2, v3] := by cases args; simp_all
  obtain ⟨rfl, rfl⟩ := trodVars_none hV
  have k0 := h0
  have lt0 : ∀ x ∈ q0, x.block < W.heap.size := by obtain ⟨m, hm⟩ := k0; exact DataW.trod_lt m _ _ _ hm
  obtain ⟨a0, rfl, _, _, w0⟩ := open_int Try.underlying3 (hval 0 3 v0 rfl rfl) h0
  have k1 := h1
  have lt1 : ∀ x ∈ q1, x.block < W.heap.size := by obtain ⟨m, hm⟩ := k1; exact DataW.trod_lt m _ _ _ hm
  obtain ⟨b1, len1, cap1, rfl⟩ := okWide_slice Try.underlying22 (hval 1 22 v1 rfl rfl)
  obtain ⟨fu1, hf1⟩ := h1
  obtain ⟨a1, ⟨B1, c1, e1, R1⟩, w1⟩ := (Opens.slice Try.underlying22 (by decide) (by kernel_rfl) opens_api_Link) enc W true _ _ _ hf1
  injection e1 with e1; injection e1 with e1a e1b e1c; subst e1a; subst e1b; subst e1c
  have k2 := h2
  have lt2 : ∀ x ∈ q2, x.block < W.heap.size := by obtain ⟨m, hm⟩ := k2; exact DataW.trod_lt m _ _ _ hm
  obtain ⟨b2, len2, cap2, rfl⟩ := okWide_slice Try.underlying23 (hval 2 23 v2 rfl rfl)
  obtain ⟨fu2, hf2⟩ := h2
  obtain ⟨a2, ⟨B2, c2, e2, R2⟩, w2⟩ := (Opens.slice Try.underlying23 (by decide) (by kernel_rfl) (Opens.int Try.underlying33)) enc W true _ _ _ hf2
  injection e2 with e2; injection e2 with e2a e2b e2c; subst e2a; subst e2b; subst e2c
  have k3 := h3
  have lt3 : ∀ x ∈ q3, x.block < W.heap.size := by obtain ⟨m, hm⟩ := k3; exact DataW.trod_lt m _ _ _ hm
  obtain ⟨a3, rfl, _, _, w3⟩ := open_int Try.underlying3 (hval 3 3 v3 rfl rfl) h3
  clear hA0 hval0
  have H := PU a0 a1 a2 a3 w0 w1 w2 w3
  refine (law31_ResumeScheduleAgrees.calls (p0 := a0) (p1 := a1) (p2 := a2) (p3 := a3) (w := W) (g := fun _ => 0) 1 R1 (fun c (hc : c = 0) => by omega) R2 (fun c (hc : c = 0) => by omega) H).mono fun e W' he => ?_
  obtain ⟨v, rfl, g', rfl, F⟩ := he
  have bel := F.below
  exact ⟨_, rfl, _, _, _, [], _, [], hW', trodAll_mk1 (shut_bool Try.underlying4 _), (trodAll_cons_mk (Below.trod laidOut (by kernel_rfl) (of_decide_eq_true (by kernel_rfl)) k0 bel lt0) (trodAll_cons_mk (Below.trod laidOut (by kernel_rfl) (of_decide_eq_true (by kernel_rfl)) k1 bel lt1) (trodAll_cons_mk (Below.trod laidOut (by kernel_rfl) (of_decide_eq_true (by kernel_rfl)) k2 bel lt2) (trodAll_cons_mk (Below.trod laidOut (by kernel_rfl) (of_decide_eq_true (by kernel_rfl)) k3 bel lt3) trodAll_mk0)))), rfl, bel.frame _, fun h => by cases h⟩
theorem over (PU : law31_ResumeScheduleAgrees.Pure) : Rows.resumeScheduleAgreesRow.holds Try.pinned (OpenSpec.ofChange Rows.resumeScheduleAgreesSpec) :=
  OpenClaim.holds_of_wide 3 Try.f3 rfl rfl rfl rfl rfl rfl rfl ⟨rfl, rfl, rfl, rfl, rfl⟩ rfl rfl rfl rfl rfl (by kernel_rfl) Try.func3 (by kernel_rfl)
    (of_decide_eq_true (by kernel_rfl)) (by unfold Func.isWrapper; first | (rw [if_pos (by decide +kernel)]; kernel_rfl) | (rw [if_neg (by decide +kernel)]; exact ⟨rfl, rfl⟩))
    (fun os started H enc _ => lifted PU os started H enc)
end RowResumeScheduleAgrees

end Go.Proofs.Ythmjgadmadlpkaa.Sim

namespace Go.Proofs.Ythmjgadmadlpkaa.Sim
open Go
set_option linter.unusedVariables false

/-! ### loops -/

theorem loop_m {σ ρ : Type} {L : Nat → σ → Option ρ} (I : σ → Prop) (μ : σ → Nat) (Q : Option ρ → Prop)
    (step : ∀ k s, I s → (∃ s', I s' ∧ μ s' < μ s ∧ L (k + 1) s = L k s') ∨ Q (L (k + 1) s)) : ∀ (fuel : Nat) (s : σ), I s → μ s < fuel → Q (L fuel s)
  | 0, s, _, h => absurd h (by omega)
  | k + 1, s, hi, h => by
    rcases step k s hi with ⟨s', h1, h2, h3⟩ | h1
    · rw [h3]; exact loop_m I μ Q step k s' h1 (by omega)
    · exact h1

/-- A loop that counts up to n. -/
theorem loop_c {σ ρ : Type} {L : Nat → σ → Int → Option ρ} (n : Nat) (I : Nat → σ → Prop) (Q : Option ρ → Prop)
    (step : ∀ k s i, i < n → I i s → (∃ s', I (i + 1) s' ∧ L (k + 1) s (i : Int) = L k s' ((i + 1 : Nat) : Int)) ∨ Q (L (k + 1) s (i : Int)))
    (fin : ∀ k s, I n s → Q (L (k + 1) s (n : Int))) : ∀ (fuel i : Nat) (s : σ), i ≤ n → n - i < fuel → I i s → Q (L fuel s (i : Int))
  | 0, i, s, _, h, _ => absurd h (by omega)
  | k + 1, i, s, h0, h, hi => by
    rcases Nat.lt_or_ge i n with hl | hl
    · rcases step k s i hl hi with ⟨s', h1, h3⟩ | h1
      · rw [h3]; exact loop_c n I Q step fin k (i + 1) s' hl (by omega) h1
      · exact h1
    · have : i = n := by omega
      subst this
      exact fin k s hi

theorem FUEL_pos {n : Nat} (h : n ≤ 9223372036854775807) : n < FUEL := by unfold FUEL; omega

/-! ### numbers -/

theorem wi_id {x : Int} (h0 : -9223372036854775808 ≤ x) (h1 : x < 9223372036854775808) : wi x = x := by
  unfold wi; simp only [IntKind.wrap, IntKind.bits, IntKind.signed, Bool.true_and]; split <;> rename_i h <;> simp at h <;> omega
theorem wu_eq (x : Int) : wu x = x % 18446744073709551616 := by
  unfold wu; simp only [IntKind.wrap, IntKind.bits, IntKind.signed, Bool.false_and]; rfl
theorem wu_id {x : Int} (h0 : 0 ≤ x) (h1 : x < 18446744073709551616) : wu x = x := by rw [wu_eq]; omega
theorem wu_range (x : Int) : 0 ≤ wu x ∧ wu x < 18446744073709551616 := by rw [wu_eq]; omega
theorem maxLen_eq : maxLen = 9223372036854775807 := rfl
theorem wi_succ {i : Nat} (h : i < 9223372036854775807) : wi ((i : Int) + 1) = ((i + 1 : Nat) : Int) := by rw [wi_id (by omega) (by omega)]; rfl

/-! ### lists -/

theorem idx_get {α : Type} {xs : List α} {i : Nat} (h : i < xs.length) : idx xs (i : Int) = some xs[i] := by
  unfold idx; rw [if_pos (by omega)]; simp [h]
theorem idx_nat {α : Type} {xs : List α} {i : Int} (h0 : 0 ≤ i) : idx xs i = xs[i.toNat]? := by
  unfold idx; rw [if_pos h0]
theorem idx_of {α : Type} {xs : List α} {i : Int} (h0 : 0 ≤ i) (h1 : i < (xs.length : Int)) : ∃ x, idx xs i = some x ∧ x ∈ xs := by
  obtain ⟨n, rfl⟩ := Int.eq_ofNat_of_zero_le h0
  have hn : n < xs.length := by omega
  exact ⟨xs[n], idx_get hn, List.getElem_mem hn⟩
theorem idx_some_iff {α : Type} {xs : List α} {i : Int} : (∃ x, idx xs i = some x) ↔ 0 ≤ i ∧ i < (xs.length : Int) :=
  ⟨fun ⟨x, h⟩ => ⟨idx_lo h, idx_hi h⟩, fun ⟨h0, h1⟩ => let ⟨x, h, _⟩ := idx_of h0 h1; ⟨x, h⟩⟩
theorem idx_upd {α : Type} {xs : List α} {i j : Int} {x : α} (hi : 0 ≤ i) (hj : 0 ≤ j) (hl : j < (xs.length : Int)) : idx (upd xs i x) j = if i = j then some x else idx xs j := by
  rw [idx_nat hj, idx_nat hj]
  unfold upd
  rw [List.getElem?_set]
  by_cases e : i = j
  · subst e; rw [if_pos rfl, if_pos rfl, if_pos (by omega)]
  · rw [if_neg e, if_neg (by omega)]
theorem idx_upd_self {α : Type} {xs : List α} {i : Int} {x y : α} (h : idx xs i = some y) : idx (upd xs i x) i = some x := by
  rw [idx_upd (idx_lo h) (idx_lo h) (idx_hi h), if_pos rfl]
theorem idx_upd_ne {α : Type} {xs : List α} {i j : Int} {x : α} (hi : 0 ≤ i) (h : i ≠ j) : idx (upd xs i x) j = idx xs j := by
  rcases Int.lt_or_le j 0 with hj | hj
  · unfold idx; rw [if_neg (by omega), if_neg (by omega)]
  · rw [idx_nat hj, idx_nat hj]
    unfold upd
    rw [List.getElem?_set, if_neg (by omega)]
theorem idx_upd_some {α : Type} {xs : List α} {i j : Int} {x y : α} (hi : 0 ≤ i) (h : idx xs j = some y) : idx (upd xs i x) j = some (if i = j then x else y) := by
  rw [idx_upd hi (idx_lo h) (idx_hi h)]
  split <;> simp [h]

theorem app_ok {α : Type} {xs ys : List α} (h : xs.length + ys.length ≤ 4294967296) : app xs ys = some (xs ++ ys) := by
  unfold app; rw [if_pos h]
theorem mk_ok {α : Type} {n : Nat} {x : α} (h : n ≤ 4294967296) : mk (n : Int) x = some (List.replicate n x) := by
  unfold mk; rw [if_pos (by omega)]; rfl
theorem idx_replicate {α : Type} {n : Nat} {x : α} {i : Int} (h0 : 0 ≤ i) (h1 : i < (n : Int)) : idx (List.replicate n x) i = some x := by
  rw [idx_nat h0, List.getElem?_replicate, if_pos (by omega)]
theorem slc_front {α : Type} {xs : List α} {h : Nat} (hh : h ≤ xs.length) : slc xs 0 (h : Int) = some (xs.take h) := by
  unfold slc; rw [if_pos (by omega)]; simp
theorem slc_back {α : Type} {xs : List α} {l : Nat} (hl : l ≤ xs.length) : slc xs (l : Int) (xs.length : Int) = some (xs.drop l) := by
  unfold slc; rw [if_pos (by omega)]; simp

/-- A list without repetitions inside another one is not longer. -/
theorem nodup_le {α : Type} [DecidableEq α] : ∀ {l s : List α}, l.Nodup → (∀ x ∈ l, x ∈ s) → l.length ≤ s.length
  | [], _, _, _ => by simp
  | a :: t, s, hn, hs => by
    have ha := hs a (List.mem_cons_self ..)
    rw [List.nodup_cons] at hn
    have := nodup_le (l := t) (s := s.erase a) hn.2 (fun x hx => by
      have : x ≠ a := fun e => hn.1 (e ▸ hx)
      exact (List.mem_erase_of_ne this).2 (hs x (List.mem_cons_of_mem _ hx)))
    rw [List.length_erase_of_mem ha] at this
    have : 0 < s.length := List.length_pos_of_mem ha
    simp only [List.length_cons]; omega

/-- The numbers below n. -/
def below (n : Nat) : List Int := (List.range n).map (fun (i : Nat) => (i : Int))
theorem mem_below {n : Nat} {x : Int} : x ∈ below n ↔ 0 ≤ x ∧ x < n := by
  unfold below
  simp only [List.mem_map, List.mem_range]
  constructor
  · rintro ⟨a, h, rfl⟩; omega
  · rintro ⟨h0, h1⟩; exact ⟨x.toNat, by omega, by omega⟩
theorem below_length (n : Nat) : (below n).length = n := by simp [below]
theorem below_succ (n : Nat) : below (n + 1) = below n ++ [(n : Int)] := by simp [below, List.range_succ]
theorem below_nodup (n : Nat) : (below n).Nodup := by
  induction n with
  | zero => simp [below]
  | succ n ih =>
    rw [below_succ, List.nodup_append]
    refine ⟨ih, by simp, fun a ha b hb => ?_⟩
    have := (mem_below.1 ha).2
    simp only [List.mem_singleton] at hb
    omega

end Go.Proofs.Ythmjgadmadlpkaa.Sim

namespace Go.Proofs.Ythmjgadmadlpkaa.Sim
open Go
set_option linter.unusedVariables false

def hf (q : List Int) (i : Nat) : Int := q.getD i 0
theorem hf_get {q : List Int} {i : Nat} (h : i < q.length) : hf q i = q[i] := by simp [hf, h]
theorem idx_hf {q : List Int} {i : Nat} (h : i < q.length) : idx q (i : Int) = some (hf q i) := by rw [idx_get h, hf_get h]

def sw (q : List Int) (i j : Nat) : List Int := (q.set i (hf q j)).set j (hf q i)
theorem sw_length (q : List Int) (i j : Nat) : (sw q i j).length = q.length := by simp [sw]
theorem hf_sw {q : List Int} {i j : Nat} (hi : i < q.length) (hj : j < q.length) (k : Nat) : hf (sw q i j) k = if k = j then hf q i else if k = i then hf q j else hf q k := by
  unfold sw
  simp only [hf, List.getD_eq_getElem?_getD, List.getElem?_set, List.length_set]
  by_cases e1 : k = j
  · subst e1; simp [hj]
  · rw [if_neg (fun h => e1 h.symm), if_neg e1]
    by_cases e2 : k = i
    · subst e2; simp [hi]
    · rw [if_neg (fun h => e2 h.symm), if_neg e2]
theorem sw_perm {q : List Int} {i j : Nat} (hi : i < q.length) (hj : j < q.length) : (sw q i j).Perm q := by
  unfold sw
  rw [hf_get hi, hf_get hj]
  exact List.set_set_perm hi hj

theorem swap_ok {q : List Int} {i j : Nat} (hi : i < q.length) (hj : j < q.length) : depgraph_queue_Swap.f q (i : Int) (j : Int) = some (sw q i j) := by
  unfold depgraph_queue_Swap.f
  rw [idx_hf hj, idx_hf hi]
  simp only [Option.bind_some]
  have : (upd q (i : Int) (hf q j)).length = q.length := upd_length _ _ _
  rw [idx_get (by omega)]
  rfl
theorem less_ok {q : List Int} {i j : Nat} (hi : i < q.length) (hj : j < q.length) : depgraph_queue_Less.f q (i : Int) (j : Int) = some (decide (hf q i < hf q j)) := by
  unfold depgraph_queue_Less.f
  rw [idx_hf hj, idx_hf hi]
  rfl

/-- A heap on the first n places. -/
def Heap (q : List Int) (n : Nat) : Prop := ∀ k, 0 < k → k < n → hf q ((k - 1) / 2) ≤ hf q k

theorem Heap.min {q : List Int} {n : Nat} (h : Heap q n) : ∀ k, k < n → hf q 0 ≤ hf q k := by
  intro k
  induction k using Nat.strongRecOn with
  | _ k ih =>
    intro hk
    rcases Nat.eq_zero_or_pos k with rfl | h0
    · omega
    · have h1 := ih ((k - 1) / 2) (by omega) (by omega)
      have h2 := h k h0 hk
      omega

structure UpI (q : List Int) (j : Nat) : Prop where
  lt : j < q.length
  a : ∀ k, 0 < k → k < q.length → k ≠ j → hf q ((k - 1) / 2) ≤ hf q k
  b : ∀ k, 0 < k → k < q.length → (k - 1) / 2 = j → 0 < j → hf q ((j - 1) / 2) ≤ hf q k

theorem up_par {j : Nat} (h : j < 4294967296) : wi (Int.tdiv (wi ((j : Int) - 1)) 2) = (((j - 1) / 2 : Nat) : Int) := by
  rw [wi_id (x := (j : Int) - 1) (by omega) (by omega)]
  rcases Nat.eq_zero_or_pos j with rfl | h0
  · rw [show Int.tdiv (((0 : Nat) : Int) - 1) 2 = 0 from by decide]; exact wi_id (by omega) (by omega)
  · rw [Int.tdiv_eq_ediv_of_nonneg (by omega), wi_id (by omega) (by omega)]; omega

theorem up_ok (q : List Int) (j : Nat) (hl : q.length ≤ 4294967296) (h : UpI q j) : ∃ q', heap_up.f ⟨q⟩ (j : Int) = some ⟨q'⟩ ∧ q'.Perm q ∧ Heap q' q'.length := by
  unfold heap_up.f
  show ∃ q', (fun k (s : List Int × Nat) => heap_up.l0 k s.1 (s.2 : Int)) FUEL (q, j) = some ⟨q'⟩ ∧ _
  refine loop_m (L := fun k (s : List Int × Nat) => heap_up.l0 k s.1 (s.2 : Int)) (fun s => UpI s.1 s.2 ∧ s.1.Perm q) (fun s => s.2) (fun o => ∃ q', o = some ⟨q'⟩ ∧ q'.Perm q ∧ Heap q' q'.length) ?_ FUEL (q, j) ⟨h, List.Perm.refl _⟩ (FUEL_pos (by have := h.lt; show j ≤ _; omega))
  rintro k ⟨q1, j⟩ ⟨hi, hp⟩
  simp only at hi hp ⊢
  have hlen := hp.length_eq
  have hjl := hi.lt
  rw [heap_up.l0, up_par (by omega)]
  by_cases e : (j - 1) / 2 = j
  · have hj0 : j = 0 := by omega
    subst hj0
    refine .inr ⟨q1, by simp, hp, fun k h0 h1 => hi.a k h0 h1 (by omega)⟩
  · have hj0 : 0 < j := by omega
    rw [if_neg (by simp; omega), less_ok (by omega) (by omega)]
    simp only [Option.bind_some]
    by_cases hc : hf q1 j < hf q1 ((j - 1) / 2)
    · refine .inl ⟨(sw q1 ((j - 1) / 2) j, (j - 1) / 2), ⟨?_, (sw_perm (by omega) (by omega)).trans hp⟩, by show (j - 1) / 2 < j; omega, ?_⟩
      · have hs := fun k => hf_sw (q := q1) (i := (j - 1) / 2) (j := j) (by omega) (by omega) k
        refine ⟨by rw [sw_length]; omega, fun k h0 h1 hk => ?_, fun k h0 h1 hk hp0 => ?_⟩
        · rw [sw_length] at h1
          simp only at hk
          rw [hs, hs]
          by_cases e1 : k = j
          · subst e1
            rw [if_neg (by omega), if_pos rfl, if_pos rfl]; omega
          · rw [if_neg e1, if_neg hk]
            by_cases e2 : (k - 1) / 2 = j
            · rw [if_pos e2]; exact hi.b k h0 h1 e2 hj0
            · rw [if_neg e2]
              by_cases e3 : (k - 1) / 2 = (j - 1) / 2
              · rw [if_pos e3]
                have := hi.a k h0 h1 e1
                rw [e3] at this; omega
              · rw [if_neg e3]; exact hi.a k h0 h1 e1
        · rw [sw_length] at h1
          simp only at hk hp0 ⊢
          rw [hs, hs, if_neg (by omega), if_neg (by omega)]
          have hpar := hi.a ((j - 1) / 2) hp0 (by omega) (by omega)
          by_cases e1 : k = j
          · rw [if_pos e1]; exact hpar
          · rw [if_neg e1, if_neg (by omega)]
            have := hi.a k h0 h1 e1
            rw [hk] at this; omega
      · rw [decide_eq_true hc]
        simp only [Bool.not_true, Bool.false_eq_true, if_false]
        rw [swap_ok (by omega) (by omega)]
        rfl
    · refine .inr ⟨q1, ?_, hp, fun k h0 h1 => ?_⟩
      · rw [decide_eq_false hc]; simp
      · by_cases e1 : k = j
        · subst e1; omega
        · exact hi.a k h0 h1 e1

theorem push_ok (q : List Int) (x : Int) (hl : q.length < 4294967296) (h : Heap q q.length) : ∃ q', heap_Push.f ⟨q⟩ x = some ⟨q'⟩ ∧ q'.Perm (x :: q) ∧ Heap q' q'.length := by
  unfold heap_Push.f depgraph_queue_Push.f depgraph_queue_Len.f
  rw [app_ok (by simp; omega)]
  simp only [Option.bind_some]
  have hlen : (q ++ [x]).length = q.length + 1 := by simp
  have e : wi (((q ++ [x]).length : Int) - 1) = ((q.length : Nat) : Int) := by rw [hlen, wi_id (by omega) (by omega)]; omega
  rw [e]
  have hh : ∀ k, k < q.length → hf (q ++ [x]) k = hf q k := by
    intro k hk; rw [hf_get hk, hf_get (by omega)]; simp [hk]
  obtain ⟨q', h1, h2, h3⟩ := up_ok (q ++ [x]) q.length (by omega) ⟨by omega, fun k h0 h1 hk => by
    rw [hh k (by omega), hh _ (by omega)]; exact h k h0 (by omega), fun k h0 h1 hk _ => by omega⟩
  rw [h1]
  exact ⟨q', rfl, h2.trans (List.perm_append_singleton x q), h3⟩

structure DownI (q : List Int) (n i : Nat) : Prop where
  le : n ≤ q.length
  a : ∀ k, 0 < k → k < n → (k - 1) / 2 ≠ i → hf q ((k - 1) / 2) ≤ hf q k
  b : ∀ k, 0 < k → k < n → (k - 1) / 2 = i → 0 < i → hf q ((i - 1) / 2) ≤ hf q k

theorem down_ok (q : List Int) (n : Nat) (hl : q.length ≤ 4294967296) (h : DownI q n 0) : ∃ q' i, heap_down.l0 (n : Int) FUEL q 0 = some (i, q') ∧ q'.Perm q ∧ Heap q' n ∧ ∀ k, n ≤ k → hf q' k = hf q k := by
  show ∃ q' i, (fun k (s : List Int × Nat) => heap_down.l0 (n : Int) k s.1 (s.2 : Int)) FUEL (q, 0) = some (i, q') ∧ _
  refine loop_m (L := fun k (s : List Int × Nat) => heap_down.l0 (n : Int) k s.1 (s.2 : Int)) (fun s => DownI s.1 n s.2 ∧ s.1.Perm q ∧ (s.2 < n ∨ s.2 = 0) ∧ ∀ k, n ≤ k → hf s.1 k = hf q k) (fun s => n - s.2)
    (fun o => ∃ q' i, o = some (i, q') ∧ q'.Perm q ∧ Heap q' n ∧ ∀ k, n ≤ k → hf q' k = hf q k) ?_ FUEL (q, 0) ⟨h, List.Perm.refl _, .inr rfl, fun _ _ => rfl⟩ (FUEL_pos (by have := h.le; show n - 0 ≤ _; omega))
  rintro k ⟨q1, i⟩ ⟨hi, hp, hin, hk⟩
  simp only at hi hp hin hk ⊢
  have hlen := hp.length_eq
  have hle := hi.le
  rw [heap_down.l0]
  have e1 : wi (2 * (i : Int)) = ((2 * i : Nat) : Int) := by rw [wi_id (by omega) (by omega)]; omega
  have e2 : wi (((2 * i : Nat) : Int) + 1) = ((2 * i + 1 : Nat) : Int) := wi_succ (by omega)
  have e3 : wi (((2 * i + 1 : Nat) : Int) + 1) = ((2 * i + 2 : Nat) : Int) := wi_succ (by omega)
  rw [e1, e2, e3]
  by_cases hc : n ≤ 2 * i + 1
  · rw [if_pos (by simp; omega)]
    refine .inr ⟨q1, _, rfl, hp, fun k h0 h1 => ?_, hk⟩
    exact hi.a k h0 h1 (by omega)
  · rw [if_neg (by simp; omega)]
    -- the smaller child
    have hj : ∃ j, (j = 2 * i + 1 ∨ j = 2 * i + 2) ∧ j < n ∧ (∀ k, 0 < k → k < n → (k - 1) / 2 = i → hf q1 j ≤ hf q1 k) ∧
        ((if decide (((2 * i + 2 : Nat) : Int) < (n : Int)) = true then (depgraph_queue_Less.f q1 ((2 * i + 2 : Nat) : Int) ((2 * i + 1 : Nat) : Int)).bind fun r46 => some r46 else some false).bind fun t50 => if t50 = true then (some ((2 * i + 2 : Nat) : Int)) else (some ((2 * i + 1 : Nat) : Int)) : Option Int) = some (j : Int) := by
      by_cases h2 : 2 * i + 2 < n
      · rw [if_pos (by simp; omega), less_ok (by omega) (by omega)]
        simp only [Option.bind_some]
        by_cases h3 : hf q1 (2 * i + 2) < hf q1 (2 * i + 1)
        · refine ⟨2 * i + 2, .inr rfl, h2, fun k h0 h1 hk => ?_, by rw [decide_eq_true h3]; rfl⟩
          have : k = 2 * i + 1 ∨ k = 2 * i + 2 := by omega
          rcases this with rfl | rfl <;> omega
        · refine ⟨2 * i + 1, .inl rfl, by omega, fun k h0 h1 hk => ?_, by rw [decide_eq_false h3]; rfl⟩
          have : k = 2 * i + 1 ∨ k = 2 * i + 2 := by omega
          rcases this with rfl | rfl <;> omega
      · rw [if_neg (by simp; omega)]
        refine ⟨2 * i + 1, .inl rfl, by omega, fun k h0 h1 hk => ?_, rfl⟩
        have : k = 2 * i + 1 := by omega
        subst this; omega
    obtain ⟨j, hj1, hj2, hj3, hj4⟩ := hj
    rw [hj4]
    simp only [Option.bind_some]
    rw [less_ok (by omega) (by omega)]
    simp only [Option.bind_some]
    by_cases h5 : hf q1 j < hf q1 i
    · refine .inl ⟨(sw q1 i j, j), ⟨?_, (sw_perm (by omega) (by omega)).trans hp, .inl hj2, fun k hk' => ?_⟩, by show n - j < n - i; omega, ?_⟩
      · have hs := fun k => hf_sw (q := q1) (i := i) (j := j) (by omega) (by omega) k
        refine ⟨by rw [sw_length]; exact hle, fun k h0 h1 hk' => ?_, fun k h0 h1 hk' _ => ?_⟩
        · simp only at hk'
          rw [hs, hs, if_neg hk']
          by_cases e4 : (k - 1) / 2 = i
          · rw [if_pos e4]
            by_cases e5 : k = j
            · rw [if_pos e5]; omega
            · rw [if_neg e5, if_neg (by omega)]; exact hj3 k h0 h1 e4
          · rw [if_neg e4]
            by_cases e5 : k = j
            · omega
            · rw [if_neg e5]
              by_cases e6 : k = i
              · rw [if_pos e6]; subst e6
                exact hi.b j (by omega) hj2 (by omega) h0
              · rw [if_neg e6]; exact hi.a k h0 h1 e4
        · simp only at hk' ⊢
          rw [hs, hs, if_neg (by omega), if_pos (by omega), if_neg (by omega), if_neg (by omega)]
          have := hi.a k h0 h1 (by omega)
          rw [hk'] at this; exact this
      · simp only
        rw [hf_sw (by omega) (by omega), if_neg (by omega), if_neg (by omega)]; exact hk k hk'
      · rw [decide_eq_true h5]
        simp only [Bool.not_true, Bool.false_eq_true, if_false]
        rw [swap_ok (by omega) (by omega)]
        rfl
    · rw [decide_eq_false h5]
      refine .inr ⟨q1, _, rfl, hp, fun k h0 h1 => ?_, hk⟩
      by_cases e4 : (k - 1) / 2 = i
      · rw [e4]; have := hj3 k h0 h1 e4; omega
      · exact hi.a k h0 h1 e4

theorem pop_ok (q : List Int) (hl : q.length ≤ 4294967296) (h0 : 0 < q.length) (h : Heap q q.length) : ∃ q' x, heap_Pop.f ⟨q⟩ = some (⟨q'⟩, x) ∧ (x :: q').Perm q ∧ Heap q' q'.length ∧ ∀ y ∈ q, x ≤ y := by
  unfold heap_Pop.f depgraph_queue_Len.f heap_down.f depgraph_queue_Pop.f
  simp only [Option.bind_some]
  obtain ⟨n, hn⟩ : ∃ n, q.length = n + 1 := ⟨q.length - 1, by omega⟩
  have e : wi ((q.length : Int) - 1) = ((n : Nat) : Int) := by rw [wi_id (by omega) (by omega)]; omega
  rw [e, show (0 : Int) = ((0 : Nat) : Int) from rfl, swap_ok (by omega) (by omega)]
  simp only [Option.bind_some]
  have hs := fun k => hf_sw (q := q) (i := 0) (j := n) (by omega) (by omega) k
  obtain ⟨q', i, h1, h2, h3, h4⟩ := down_ok (sw q 0 n) n (by rw [sw_length]; exact hl) ⟨by rw [sw_length]; omega, fun k k0 k1 hk => by
    rw [hs, hs, if_neg (by omega), if_neg hk, if_neg (by omega), if_neg (by omega)]; exact h k k0 (by omega), fun k _ _ _ hh => by omega⟩
  have hlen : q'.length = n + 1 := by rw [h2.length_eq, sw_length]; exact hn
  simp only [Int.natCast_zero] at h1 ⊢
  rw [h1]
  simp only [Option.bind_some]
  have e2 : wi ((q'.length : Int) - 1) = ((n : Nat) : Int) := by rw [hlen, wi_id (by omega) (by omega)]; omega
  rw [e2, idx_hf (by omega)]
  have := slc_front (xs := q') (h := n) (by omega)
  rw [this]
  simp only [Option.bind_some]
  have hx : hf q' n = hf q 0 := by rw [h4 n (Nat.le_refl _), hs, if_pos rfl]
  have hdec : q' = q'.take n ++ [hf q' n] := by
    rw [hf_get (by omega)]
    have := List.take_append_drop n q'
    rw [List.drop_eq_getElem_cons (by omega), List.drop_of_length_le (by omega)] at this
    exact this.symm
  refine ⟨_, _, rfl, ?_, ?_, ?_⟩
  · have hp := h2.trans (sw_perm (q := q) (i := 0) (j := n) (by omega) (by omega))
    refine (List.perm_append_singleton _ _).symm.trans ?_
    rw [← hdec]; exact hp
  · intro k k0 k1
    rw [List.length_take, Nat.min_eq_left (by omega)] at k1
    have hh : ∀ k, k < n → hf (q'.take n) k = hf q' k := by
      intro k hk; rw [hf_get (by rw [List.length_take]; omega), hf_get (by omega)]; simp
    rw [hh _ (by omega), hh _ k1]
    exact h3 k k0 k1
  · intro y hy
    rw [hx]
    obtain ⟨k, hk, rfl⟩ := List.getElem_of_mem hy
    rw [← hf_get hk]
    exact h.min k hk

end Go.Proofs.Ythmjgadmadlpkaa.Sim

namespace Go.Proofs.Ythmjgadmadlpkaa.Sim
open Go
set_option linter.unusedVariables false

/-- A loop that looks for the first element with P. -/
theorem search_ok {α ρ : Type} {L : Nat → Int → Option (Fl ρ Unit)} (xs : List α) (P : α → Bool) (v : ρ) (hlen : xs.length ≤ maxLen)
    (hL : ∀ k (i : Nat), L (k + 1) (i : Int) = if decide ((i : Int) < (xs.length : Int)) = true then (idx xs (i : Int)).bind fun x => if P x = true then some (.out v) else L k (wi ((i : Int) + 1)) else some (.nxt ())) :
    L FUEL 0 = some (if xs.any P = true then .out v else .nxt ()) := by
  rw [maxLen_eq] at hlen
  refine loop_c (L := fun k (_ : Unit) i => L k i) xs.length (fun i _ => ∀ x ∈ xs.take i, P x = false) (fun o => o = some (if xs.any P = true then .out v else .nxt ())) ?_ ?_ FUEL 0 () (Nat.zero_le _) (FUEL_pos (by omega)) (by simp)
  · intro k s i hi hI
    simp only [hL]
    rw [if_pos (by simp; omega), idx_get hi]
    simp only [Option.bind_some]
    by_cases hp : P xs[i] = true
    · rw [if_pos hp]
      refine .inr ?_
      rw [if_pos (List.any_eq_true.2 ⟨_, List.getElem_mem hi, hp⟩)]
    · rw [if_neg hp]
      refine .inl ⟨(), ?_, by rw [wi_succ (by omega)]⟩
      intro x hx
      rw [List.take_succ_eq_append_getElem hi] at hx
      rcases List.mem_append.1 hx with h | h
      · exact hI x h
      · simp only [List.mem_singleton] at h; subst h; simpa using hp
  · intro k s hI
    simp only [hL]
    rw [if_neg (by simp)]
    rw [List.take_length] at hI
    rw [if_neg]
    intro h
    obtain ⟨x, h1, h2⟩ := List.any_eq_true.1 h
    rw [hI x h1] at h2; cases h2

/-! ### the checks -/

def badL (n : Int) (x : api_Link) : Bool := ((((decide (x.Consumer < 0)) || (decide (n ≤ x.Consumer))) || (decide (x.Supplier < 0))) || (decide (n ≤ x.Supplier)))
def vcode (n : Int) (ls : List api_Link) : Int :=
  if (((decide (n < 0)) || (decide (128 < n))) || (decide (1024 < (ls.length : Int)))) = true then 1 else if ls.any (badL n) = true then 1 else if ls.Nodup then 0 else 7

theorem nodup_take {α : Type} {xs : List α} (i : Nat) (h : xs.Nodup) : (xs.take i).Nodup := List.Sublist.nodup (List.take_sublist i xs) h

theorem mem_take_succ {α : Type} {xs : List α} {i : Nat} {x : α} (hi : i < xs.length) : x ∈ xs.take (i + 1) ↔ x ∈ xs.take i ∨ x = xs[i] := by
  rw [List.take_succ_eq_append_getElem hi, List.mem_append, List.mem_singleton]

theorem nodup_step {α : Type} {xs : List α} {i : Nat} (hi : i < xs.length) (h : (xs.take i).Nodup) : (xs.take (i + 1)).Nodup ↔ xs[i] ∉ xs.take i := by
  rw [List.take_succ_eq_append_getElem hi, List.nodup_append]
  constructor
  · rintro ⟨_, _, h3⟩ hm
    exact h3 _ hm _ (by simp) rfl
  · intro hm
    refine ⟨h, by simp, fun a ha b hb => ?_⟩
    simp only [List.mem_singleton] at hb
    subst hb
    exact fun e => hm (e ▸ ha)

theorem validate_ok (n : Int) (ls : List api_Link) (h : ls.length ≤ maxLen) : depgraph_validate.f n ls = some (vcode n ls) := by
  unfold depgraph_validate.f vcode
  by_cases h0 : (((decide (n < 0)) || (decide (128 < n))) || (decide (1024 < (ls.length : Int)))) = true
  · rw [if_pos h0, if_pos h0]
  · rw [if_neg h0, if_neg h0]
    have hlen : ls.length ≤ 1024 := by simp at h0; omega
    rw [search_ok (L := depgraph_validate.l0 n ls) ls (badL n) 1 h (fun k i => by rw [depgraph_validate.l0]; rfl)]
    by_cases hb : ls.any (badL n) = true
    · rw [if_pos hb, if_pos hb]; rfl
    · rw [if_neg hb, if_neg hb]
      simp only [Option.bind_some, Fl.go]
      have key : depgraph_validate.l1 ls FUEL [] 0 = some (if ls.Nodup then .nxt () else .out 7) := by
        refine loop_c (L := fun k (s : List api_Link) i => depgraph_validate.l1 ls k s i) ls.length (fun i s => s = ls.take i ∧ (ls.take i).Nodup) (fun o => o = some (if ls.Nodup then .nxt () else .out 7)) ?_ ?_ FUEL 0 [] (Nat.zero_le _) (FUEL_pos (by omega)) (by simp)
        · rintro k s i hi ⟨rfl, hI⟩
          rw [depgraph_validate.l1, if_pos (by simp; omega), idx_get hi]
          simp only [Option.bind_some]
          by_cases hm : ls[i] ∈ ls.take i
          · rw [if_pos (by simpa using hm)]
            refine .inr ?_
            rw [if_neg (fun hn => (nodup_step hi hI).1 (nodup_take (i + 1) hn) hm)]
          · rw [if_neg (by simpa using hm)]
            refine .inl ⟨_, ⟨?_, (nodup_step hi hI).2 hm⟩, by rw [wi_succ (by omega)]⟩
            rw [List.take_succ_eq_append_getElem hi]
        · rintro k s ⟨rfl, hI⟩
          rw [depgraph_validate.l1, if_neg (by simp)]
          rw [List.take_length] at hI
          rw [if_pos hI]
      rw [key]
      by_cases hn : ls.Nodup
      · rw [if_pos hn, if_pos hn]; rfl
      · rw [if_neg hn, if_neg hn]; rfl

/-- What the checks let pass. -/
structure GoodG (n : Nat) (ls : List api_Link) : Prop where
  n128 : n ≤ 128
  len : ls.length ≤ 1024
  c0 : ∀ l ∈ ls, 0 ≤ l.Consumer ∧ l.Consumer < n
  s0 : ∀ l ∈ ls, 0 ≤ l.Supplier ∧ l.Supplier < n
  nodup : ls.Nodup

theorem vcode_good {p : Int} {ls : List api_Link} (h : vcode p ls = 0) : ∃ n : Nat, p = n ∧ GoodG n ls := by
  unfold vcode at h
  split at h
  · cases h
  · rename_i h0
    simp only [Bool.or_eq_true, decide_eq_true_eq, not_or] at h0
    split at h
    · cases h
    · rename_i hb
      split at h
      · rename_i hn
        refine ⟨p.toNat, by omega, by omega, by omega, fun l hl => ?_, fun l hl => ?_, hn⟩
        all_goals
          have : badL p l = false := by
            rw [Bool.not_eq_true, List.any_eq_false] at hb
            simpa using hb l hl
          simp [badL] at this
          omega
      · cases h
theorem good_vcode {n : Nat} {ls : List api_Link} (g : GoodG n ls) : vcode n ls = 0 := by
  unfold vcode
  rw [if_neg (by have := g.n128; have := g.len; simp; omega), if_neg, if_pos g.nodup]
  rw [Bool.not_eq_true, List.any_eq_false]
  intro l hl
  have := g.c0 l hl
  have := g.s0 l hl
  simp [badL]; omega

/-! ### the graphs of the statements -/

theorem mod_ok {x n : Int} (h0 : 0 < n) (h1 : n < 9223372036854775808) : ∃ r, help_Mod.f x n = some r ∧ 0 ≤ r ∧ r < n := by
  have hn := wu_id (x := n) (by omega) (by omega)
  have hx := wu_range x
  refine ⟨wi (Int.tmod (wu x) (wu n)), by unfold help_Mod.f; rw [if_neg (by rw [hn]; omega)], ?_⟩
  rw [hn, Int.tmod_eq_emod_of_nonneg hx.1]
  have h2 := Int.emod_nonneg (wu x) (show n ≠ 0 by omega)
  have h3 := Int.emod_lt_of_pos (wu x) h0
  rw [wi_id (by omega) (by omega)]
  exact ⟨h2, h3⟩

/-- The rank by which the graphs without cycles are made. -/
def rank (shift c : Int) : Int := (7 * c + shift) % 13

theorem rank_eq {s c : Int} (h0 : 0 ≤ c ∧ c < 13) (hs : 0 ≤ s ∧ s < 13) : Int.tmod (wi ((wi (7 * c)) + s)) 13 = rank s c := by
  rw [wi_id (x := 7 * c) (by omega) (by omega), wi_id (by omega) (by omega), Int.tmod_eq_emod_of_nonneg (by omega)]; rfl
theorem rank_inj {s c d : Int} (hc : 0 ≤ c ∧ c < 13) (hd : 0 ≤ d ∧ d < 13) (h : rank s c = rank s d) : c = d := by
  unfold rank at h; omega

structure Gr (n : Nat) (ls : List api_Link) (acyc : Bool) : Prop where
  good : GoodG n ls
  n13 : n ≤ 13
  len : ls.length ≤ 40
  down : acyc = true → ∃ r : Int → Int, ∀ l ∈ ls, r l.Supplier < r l.Consumer

theorem graph_ok (p0 : Int) (p1 : List api_Link) (b : Bool) (h : p1.length ≤ maxLen) : ∃ (n : Nat) (ls : List api_Link), law24_Graph.f p0 p1 b = some ((n : Int), ls) ∧ Gr n ls b := by
  rw [maxLen_eq] at h
  unfold law24_Graph.f
  obtain ⟨r, hr, hr0, hr1⟩ := mod_ok (x := p0) (n := 14) (by omega) (by omega)
  rw [hr]
  simp only [Option.bind_some]
  by_cases h2 : r < 2
  · rw [if_pos (by simpa using h2)]
    refine ⟨r.toNat, [], by rw [Int.toNat_of_nonneg hr0], ⟨by omega, by simp, by simp, by simp, by simp⟩, by omega, by simp, fun _ => ⟨fun _ => 0, by simp⟩⟩
  · rw [if_neg (by simpa using h2)]
    obtain ⟨t, ht, ht0, ht1⟩ := mod_ok (x := p0) (n := 13) (by omega) (by omega)
    rw [ht]
    simp only [Option.bind_some]
    obtain ⟨n, rfl⟩ := Int.eq_ofNat_of_zero_le hr0
    have key : ∃ ls, law24_Graph.l0 p1 b (n : Int) t FUEL [] 0 = some ls ∧ ls.length ≤ 40 ∧ ls.Nodup ∧ (∀ l ∈ ls, 0 ≤ l.Consumer ∧ l.Consumer < n) ∧ (∀ l ∈ ls, 0 ≤ l.Supplier ∧ l.Supplier < n) ∧ (b = true → ∀ l ∈ ls, rank t l.Supplier < rank t l.Consumer) := by
      refine loop_c (L := fun k (s : List api_Link) i => law24_Graph.l0 p1 b (n : Int) t k s i) (min p1.length 40) (fun i s => s.length ≤ i ∧ s.Nodup ∧ (∀ l ∈ s, 0 ≤ l.Consumer ∧ l.Consumer < n) ∧ (∀ l ∈ s, 0 ≤ l.Supplier ∧ l.Supplier < n) ∧ (b = true → ∀ l ∈ s, rank t l.Supplier < rank t l.Consumer))
        (fun o => ∃ ls, o = some ls ∧ ls.length ≤ 40 ∧ ls.Nodup ∧ (∀ l ∈ ls, 0 ≤ l.Consumer ∧ l.Consumer < n) ∧ (∀ l ∈ ls, 0 ≤ l.Supplier ∧ l.Supplier < n) ∧ (b = true → ∀ l ∈ ls, rank t l.Supplier < rank t l.Consumer)) ?_ ?_ FUEL 0 [] (Nat.zero_le _) (FUEL_pos (by omega)) (by simp)
      · rintro k s i hi ⟨i1, i2, i3, i4, i5⟩
        have hi1 : i < p1.length := by omega
        rw [law24_Graph.l0, if_pos (by simp; omega), idx_get hi1]
        simp only [Option.bind_some]
        obtain ⟨c, hc, hc0, hc1⟩ := mod_ok (x := p1[i].Consumer) (n := (n : Int)) (by omega) (by omega)
        obtain ⟨d, hd, hd0, hd1⟩ := mod_ok (x := p1[i].Supplier) (n := (n : Int)) (by omega) (by omega)
        rw [hc, hd]
        simp only [Option.bind_some]
        -- what the pair becomes
        have pair : (∃ u v, (if b = true then (if (c == d) = true then (some (.out s)) else (if decide ((Int.tmod (wi ((wi (7 * c)) + t)) 13) < (Int.tmod (wi ((wi (7 * d)) + t)) 13)) = true then (some (.nxt (d, c))) else (some (.nxt (c, d))))) else (some (.nxt (c, d))) : Option (Fl ((List api_Link)) (Int × Int))) = some (.nxt (u, v)) ∧ (0 ≤ u ∧ u < n) ∧ (0 ≤ v ∧ v < n) ∧ (b = true → rank t v < rank t u)) ∨
            (if b = true then (if (c == d) = true then (some (.out s)) else (if decide ((Int.tmod (wi ((wi (7 * c)) + t)) 13) < (Int.tmod (wi ((wi (7 * d)) + t)) 13)) = true then (some (.nxt (d, c))) else (some (.nxt (c, d))))) else (some (.nxt (c, d))) : Option (Fl ((List api_Link)) (Int × Int))) = some (.out s) := by
          cases b
          · exact .inl ⟨c, d, by simp, ⟨hc0, hc1⟩, ⟨hd0, hd1⟩, by simp⟩
          · simp only [if_true]
            by_cases e : c = d
            · exact .inr (by simp [e])
            · rw [if_neg (by simpa using e), rank_eq ⟨hc0, by omega⟩ ⟨ht0, ht1⟩, rank_eq ⟨hd0, by omega⟩ ⟨ht0, ht1⟩]
              by_cases hlt : rank t c < rank t d
              · exact .inl ⟨d, c, by rw [if_pos (by simpa using hlt)], ⟨hd0, hd1⟩, ⟨hc0, hc1⟩, fun _ => hlt⟩
              · refine .inl ⟨c, d, by rw [if_neg (by simpa using hlt)], ⟨hc0, hc1⟩, ⟨hd0, hd1⟩, fun _ => ?_⟩
                have : rank t c ≠ rank t d := fun h => e (rank_inj ⟨hc0, by omega⟩ ⟨hd0, by omega⟩ h)
                omega
        rcases pair with ⟨u, v, hp, hu, hv, huv⟩ | hp
        · rw [hp]
          simp only [Option.bind_some, Fl.go]
          have fresh : law24_Graph.l1 s (u, v) FUEL true 0 = some (decide (api_Link.mk u v ∉ s)) := by
            refine loop_c (L := fun k (q : Bool) j => law24_Graph.l1 s (u, v) k q j) s.length (fun j q => q = decide (api_Link.mk u v ∉ s.take j)) (fun o => o = some (decide (api_Link.mk u v ∉ s))) ?_ ?_ FUEL 0 true (Nat.zero_le _) (FUEL_pos (by omega)) (by simp)
            · rintro k q j hj rfl
              rw [law24_Graph.l1, if_pos (by simp; omega), idx_get hj]
              simp only [Option.bind_some]
              refine .inl ⟨_, rfl, ?_⟩
              rw [wi_succ (by omega)]
              by_cases hm : api_Link.mk u v ∈ s.take j
              · rw [if_neg (by simp [hm]), decide_eq_false (fun h => h ((mem_take_succ hj).2 (.inl hm)))]; rfl
              · rw [if_pos (by simp [hm])]
                by_cases e : s[j] = api_Link.mk u v
                · rw [decide_eq_false (p := ¬ api_Link.mk u v ∈ s.take (j + 1)) (fun h => h ((mem_take_succ hj).2 (.inr e.symm))), decide_eq_true e]; rfl
                · rw [decide_eq_true (p := ¬ api_Link.mk u v ∈ s.take (j + 1)) (fun h => ((mem_take_succ hj).1 h).elim hm (fun h => e h.symm)), decide_eq_false e]; rfl
            · rintro k q rfl
              rw [law24_Graph.l1, if_neg (by simp), List.take_length]
          rw [fresh]
          simp only [Option.bind_some]
          by_cases hm : api_Link.mk u v ∈ s
          · rw [if_neg (by simp [hm])]
            exact .inl ⟨s, ⟨by omega, i2, i3, i4, i5⟩, by rw [wi_succ (by omega)]; rfl⟩
          · rw [if_pos (by simp [hm]), app_ok (by simp; omega)]
            refine .inl ⟨s ++ [api_Link.mk u v], ⟨by simp; omega, ?_, ?_, ?_, ?_⟩, by rw [wi_succ (by omega)]; rfl⟩
            · rw [List.nodup_append]
              refine ⟨i2, by simp, fun a ha b' hb => ?_⟩
              simp only [List.mem_singleton] at hb
              subst hb
              exact fun e => hm (e ▸ ha)
            all_goals
              simp only [List.mem_append, List.mem_singleton]
            · rintro l (hl | rfl)
              · exact i3 l hl
              · exact hu
            · rintro l (hl | rfl)
              · exact i4 l hl
              · exact hv
            · rintro hb l (hl | rfl)
              · exact i5 hb l hl
              · exact huv hb
        · rw [hp]
          simp only [Option.bind_some, Fl.go]
          exact .inl ⟨s, ⟨by omega, i2, i3, i4, i5⟩, by rw [wi_succ (by omega)]⟩
      · rintro k s ⟨i1, i2, i3, i4, i5⟩
        rw [law24_Graph.l0, if_neg (by simp; omega)]
        exact ⟨s, rfl, by omega, i2, i3, i4, i5⟩
    obtain ⟨ls, h1, h3, h4, h5, h6, h7⟩ := key
    rw [h1]
    exact ⟨n, ls, rfl, ⟨by omega, by omega, h5, h6, h4⟩, by omega, h3, fun hb => ⟨rank t, h7 hb⟩⟩

end Go.Proofs.Ythmjgadmadlpkaa.Sim
