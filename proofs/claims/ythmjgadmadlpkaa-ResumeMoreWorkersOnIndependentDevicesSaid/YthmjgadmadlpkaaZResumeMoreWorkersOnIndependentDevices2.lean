/-
  Texts of this session, part 2 of 6: the words of the walk, plain functions with the same answers as the Go functions and the proofs of it, plain lemmas. No condition.
  They are, one behind the other: QHeapDown QHeapPop QDepgraphQueuePush QHeapUp QHeapPush QDepgraphSort QDepgraphValidate QDepgraphOrder QDepgraphCheck QResumeCheck QResumeCriticalPath QResumeMakespan QSlicesCloneUint64Uint64 QResumeSchedulerAdvance1 QSlicesIndexFuncUint64Uint64Advance1 QSlicesDeleteFuncUint64Uint64Advance1 QSlicesMinUint64Uint64.
-/
import Derived.Test.YthmjgadmadlpkaaProg
import Derived.Test.YthmjgadmadlpkaaZResumeMoreWorkersOnIndependentDevices1

namespace Go.Proofs.Ythmjgadmadlpkaa.Sim
open Go
set_option linter.unusedVariables false
set_option linter.unusedSimpArgs false

/-! ### heap_down: function 97 -/
def heap_down.l0 (p2 : Int) : Nat → (List Int) → Int → Option (Int × (List Int))
  | 0, _, _ => none
  | k9 + 1, m0_0, m0_1 => if ((decide (p2 ≤ (wi ((wi (2 * m0_1)) + 1)))) || (decide ((wi ((wi (2 * m0_1)) + 1)) < 0))) = true then (some (m0_1, m0_0)) else (((if decide ((wi ((wi ((wi (2 * m0_1)) + 1)) + 1)) < p2) = true then (depgraph_queue_Less.f m0_0 (wi ((wi ((wi (2 * m0_1)) + 1)) + 1)) (wi ((wi (2 * m0_1)) + 1))).bind fun r46 => some r46 else some false).bind fun t50 => if t50 = true then (some (wi ((wi ((wi (2 * m0_1)) + 1)) + 1))) else (some (wi ((wi (2 * m0_1)) + 1))) : Option (Int)).bind fun v32 => (depgraph_queue_Less.f m0_0 v32 m0_1).bind fun r75 => if (!r75) = true then (some (m0_1, m0_0)) else ((depgraph_queue_Swap.f m0_0 m0_1 v32).bind fun r84 => heap_down.l0 p2 k9 r84 v32))
def heap_down.f (p0 : depgraph_queue) (p1 : Int) (p2 : Int) : Option (depgraph_queue × Bool) := (heap_down.l0 p2 FUEL p0.q p1 : Option (Int × (List Int))).bind fun v5 => some ((depgraph_queue.mk v5.2), decide (p1 < v5.1))
set_option maxRecDepth 100000 in
set_option maxHeartbeats 4000000 in
theorem heap_down.calls {p0 : depgraph_queue} {c0 : Nat}  {b_p0 : Nat} {A_q_p0 : Option Addr} {cap_q_p0 : Nat} {p1 : Int} {p2 : Int} {w : World} {g : Nat → Nat} {out : depgraph_queue × Bool} (N : Nat) (hp0 : depgraph_queue_At w g c0 b_p0 A_q_p0 cap_q_p0 p0) (hc0 : c0 + 3 ≤ N) (H : heap_down.f p0 p1 p2 = some out) :
    Calls Try.prog 97 #[.iface 122 (.pointer (some ⟨b_p0, 0, none⟩)), .int .i64 p1, .int .i64 p2] w (fun e w' => ∃ v, e = .returned v ∧ ∃ (g' : Nat → Nat), v = .bool out.2 ∧ depgraph_queue_At w' g' c0 b_p0 A_q_p0 cap_q_p0 out.1 ∧ Fr (fun q => (c0 ≤ q ∧ q < c0 + 3) ∨ N ≤ q) w g w' g') := by
  unfold heap_down.f at H
  refine calls_enter Try.func97 rfl Try.ntmps97 rfl (fun a hS => ?_)
  replace hS : Sl 48 a [(0, .iface 122 (.pointer (some ⟨b_p0, 0, none⟩))), (1, .int .i64 p1), (2, .int .i64 p2)] := hS
  have hF : Fr (fun q => (c0 ≤ q ∧ q < c0 + 3) ∨ N ≤ q) w g w g := Fr.refl _ _ _
  obtain ⟨hb0, hf0_q⟩ := hp0
  refine c_pure [(0, .iface 122 (.pointer (some ⟨b_p0, 0, none⟩))), (1, .int .i64 p1), (2, .int .i64 p2)] (fun R hR => st_val hS rfl rfl rfl (r_assign hS rfl rfl) fun a1 hS1 => wpList_nil (hR _ (hS1.re ⟨rfl, rfl, rfl, trivial⟩))) ?_
  clear hS
  clear a
  intro a hS
  refine c_pure [(0, .iface 122 (.pointer (some ⟨b_p0, 0, none⟩))), (1, .int .i64 p1), (2, .int .i64 p2), (7, .int .i64 p1)] (fun R hR => st_val hS rfl rfl rfl (r_move hS rfl rfl) fun a2 hS2 => st_val hS2 rfl rfl rfl (r_assign hS2 rfl rfl) fun a3 hS3 => wpList_nil (hR _ (hS3.re ⟨rfl, rfl, rfl, rfl, trivial⟩))) ?_
  clear hS
  clear a
  intro a hS
  obtain ⟨v5, H, Hl7⟩ := bind_el H
  refine c_cut (fun a w4 => ∃ (g4 : Nat → Nat), Sl 48 a [(1, .int .i64 p1), (7, .int .i64 v5.1)] ∧ Bx w4 g4 (c0) b_p0 120 [.slice A_q_p0 v5.2.length cap_q_p0] ∧ OwS (kint .i64) 3 w4 g4 (c0 + 1) A_q_p0 cap_q_p0 v5.2 ∧ Fr (fun q => (c0 ≤ q ∧ q < c0 + 3) ∨ N ≤ q) w g w4 g4) ?_ ?_
  · refine wp_block ?_
    refine wp_loop_ghost (fun kq => fun a w8 => ∃ (m0_0 : List Int), ∃ (m0_1 : Int), ∃ (g8 : Nat → Nat), heap_down.l0 p2 kq m0_0 m0_1 = some v5 ∧ Sl 48 a [(0, .iface 122 (.pointer (some ⟨b_p0, 0, none⟩))), (1, .int .i64 p1), (2, .int .i64 p2), (7, .int .i64 m0_1)] ∧ Bx w8 g8 (c0) b_p0 120 [.slice A_q_p0 m0_0.length cap_q_p0] ∧ OwS (kint .i64) 3 w8 g8 (c0 + 1) A_q_p0 cap_q_p0 m0_0 ∧ Fr (fun q => (c0 ≤ q ∧ q < c0 + 3) ∨ N ≤ q) w g w8 g8) FUEL ?_ ?_
    · exact ⟨p0.q, p1, g, H, hS.re ⟨rfl, rfl, rfl, rfl, trivial⟩, hb0, hf0_q, hF⟩
    · clear H
      clear hf0_q hb0 hF
      clear hS
      rintro k9 a w8 ⟨m0_0, m0_1, g8, hpre0, hS, hb0, hf0_q, hF⟩
      have H := hpre0
      clear hpre0
      cases k9 with
      | zero => exact absurd H (by simp [heap_down.l0])
      | succ k9 =>
        rw [heap_down.l0] at H
        refine wp_block ?_
        refine c_pure [(0, .iface 122 (.pointer (some ⟨b_p0, 0, none⟩))), (1, .int .i64 p1), (2, .int .i64 p2), (7, .int .i64 m0_1), (8, .int .i64 (wi ((wi (2 * m0_1)) + 1)))] (fun R hR => st_val hS rfl rfl rfl (r_move hS rfl rfl) fun a10 hS10 => st_val hS10 rfl rfl rfl (r_bin hS10 rfl rfl rfl b_mul) fun a11 hS11 => st_val hS11 rfl rfl rfl (r_bin hS11 rfl rfl rfl b_add) fun a12 hS12 => st_val hS12 rfl rfl rfl (r_assign hS12 rfl rfl) fun a13 hS13 => wpList_nil (hR _ (hS13.re ⟨rfl, rfl, rfl, rfl, rfl, trivial⟩))) ?_
        clear hS
        clear a
        intro a hS
        refine wp_seq ?_
        refine c_region (fun K hK => ?_)
        refine st_val hS rfl rfl rfl (r_move hS rfl rfl) fun a14 hS14 => st_val hS14 rfl rfl rfl (r_move hS14 rfl rfl) fun a15 hS15 => st_val hS15 rfl rfl rfl (r_bin hS15 rfl rfl rfl b_geq) fun a16 hS16 => st_val hS16 rfl rfl rfl (r_move hS16 rfl rfl) fun a17 hS17 => ?_
        refine g_join (N := 48) 3 [(0, .iface 122 (.pointer (some ⟨b_p0, 0, none⟩))), (1, .int .i64 p1), (2, .int .i64 p2), (7, .int .i64 m0_1), (8, .int .i64 (wi ((wi (2 * m0_1)) + 1))), (21, .bool ((decide (p2 ≤ (wi ((wi (2 * m0_1)) + 1)))) || (decide ((wi ((wi (2 * m0_1)) + 1)) < 0))))] ?_ (fun hk => ?_)
        rotate_left
        · rcases Bool.eq_false_or_eq_true (decide (p2 ≤ (wi ((wi (2 * m0_1)) + 1)))) with hb18 | hb18
          · refine st_off hS17 (want_off hS17 rfl rfl rfl hb18) rfl rfl fun a21 hS21 => st_off hS21 (want_off hS21 rfl rfl rfl hb18) rfl rfl fun a22 hS22 => st_val hS22 rfl rfl rfl (r_pickT hS22 rfl rfl rfl hb18) fun a23 hS23 => hk _ (hS23.re ⟨rfl, rfl, rfl, rfl, rfl, (by rw [hb18]; rfl), trivial⟩)
          · refine st_valW hS17 (want_on hS17 rfl rfl rfl hb18) rfl rfl (r_move hS17 rfl rfl) fun a24 hS24 => st_valW hS24 (want_on hS24 rfl rfl rfl hb18) rfl rfl (r_bin hS24 rfl rfl rfl b_lss) fun a25 hS25 => st_val hS25 rfl rfl rfl (r_pickF hS25 rfl rfl rfl hb18) fun a26 hS26 => hk _ (hS26.re ⟨rfl, rfl, rfl, rfl, rfl, (by rw [hb18]; rfl), trivial⟩)
        intro a27 hS27
        refine wpList_nil (hK _ _ ?_)
        replace hS : Sl 48 _ [(0, .iface 122 (.pointer (some ⟨b_p0, 0, none⟩))), (1, .int .i64 p1), (2, .int .i64 p2), (7, .int .i64 m0_1), (8, .int .i64 (wi ((wi (2 * m0_1)) + 1))), (21, .bool ((decide (p2 ≤ (wi ((wi (2 * m0_1)) + 1)))) || (decide ((wi ((wi (2 * m0_1)) + 1)) < 0))))] := hS27.re ⟨rfl, rfl, rfl, rfl, rfl, rfl, trivial⟩
        clear hK K
        try clear hS14 hS15 hS16 hS17 hS27
        obtain ⟨a, ha⟩ : ∃ a', a' = a27 := ⟨_, rfl⟩
        rw [← ha] at hS ⊢; clear ha
        refine c_cond hS rfl (fun hb28 => ?_) (fun hb28 => ?_)
        · replace H := ite_t hb28 H
          refine wp_exit ?_
          have e := Option.some.inj H
          subst e
          exact ⟨g8, hS.re ⟨rfl, rfl, trivial⟩, hb0, hf0_q, hF⟩
        · replace H := ite_f hb28 H
          refine wp_skip ?_
          change Code.wp _ _ _ _ _
          refine c_pure [(0, .iface 122 (.pointer (some ⟨b_p0, 0, none⟩))), (1, .int .i64 p1), (2, .int .i64 p2), (7, .int .i64 m0_1), (8, .int .i64 (wi ((wi (2 * m0_1)) + 1))), (9, .int .i64 (wi ((wi (2 * m0_1)) + 1)))] (fun R hR => st_val hS rfl rfl rfl (r_move hS rfl rfl) fun a29 hS29 => st_val hS29 rfl rfl rfl (r_assign hS29 rfl rfl) fun a30 hS30 => wpList_nil (hR _ (hS30.re ⟨rfl, rfl, rfl, rfl, rfl, rfl, trivial⟩))) ?_
          clear hS
          clear a
          intro a hS
          obtain ⟨v32, H, Hl34⟩ := bind_el H
          refine c_cut (fun a w31 => ∃ (g31 : Nat → Nat), Sl 48 a [(0, .iface 122 (.pointer (some ⟨b_p0, 0, none⟩))), (1, .int .i64 p1), (2, .int .i64 p2), (7, .int .i64 m0_1), (9, .int .i64 v32)] ∧ Bx w31 g31 (c0) b_p0 120 [.slice A_q_p0 m0_0.length cap_q_p0] ∧ OwS (kint .i64) 3 w31 g31 (c0 + 1) A_q_p0 cap_q_p0 m0_0 ∧ Fr (fun q => (c0 ≤ q ∧ q < c0 + 3) ∨ N ≤ q) w g w31 g31) ?_ ?_
          · refine c_pure [(0, .iface 122 (.pointer (some ⟨b_p0, 0, none⟩))), (1, .int .i64 p1), (2, .int .i64 p2), (7, .int .i64 m0_1), (8, .int .i64 (wi ((wi (2 * m0_1)) + 1))), (9, .int .i64 (wi ((wi (2 * m0_1)) + 1))), (10, .int .i64 (wi ((wi ((wi (2 * m0_1)) + 1)) + 1)))] (fun R hR => st_val hS rfl rfl rfl (r_move hS rfl rfl) fun a35 hS35 => st_val hS35 rfl rfl rfl (r_bin hS35 rfl rfl rfl b_add) fun a36 hS36 => st_val hS36 rfl rfl rfl (r_assign hS36 rfl rfl) fun a37 hS37 => wpList_nil (hR _ (hS37.re ⟨rfl, rfl, rfl, rfl, rfl, rfl, rfl, trivial⟩))) ?_
            clear hS
            clear a
            intro a hS
            obtain ⟨t50, ht51, H⟩ := bind_el H
            refine c_region (fun K hK => ?_)
            refine st_val hS rfl rfl rfl (r_move hS rfl rfl) fun a38 hS38 => st_val hS38 rfl rfl rfl (r_move hS38 rfl rfl) fun a39 hS39 => st_val hS39 rfl rfl rfl (r_bin hS39 rfl rfl rfl b_lss) fun a40 hS40 => st_val hS40 rfl rfl rfl (r_move hS40 rfl rfl) fun a41 hS41 => ?_
            refine g_joinR 5 (fun a w52 => ∃ (g52 : Nat → Nat), Sl 48 a [(0, .iface 122 (.pointer (some ⟨b_p0, 0, none⟩))), (1, .int .i64 p1), (2, .int .i64 p2), (7, .int .i64 m0_1), (9, .int .i64 (wi ((wi (2 * m0_1)) + 1))), (10, .int .i64 (wi ((wi ((wi (2 * m0_1)) + 1)) + 1))), (33, .bool t50)] ∧ Bx w52 g52 (c0) b_p0 120 [.slice A_q_p0 m0_0.length cap_q_p0] ∧ OwS (kint .i64) 3 w52 g52 (c0 + 1) A_q_p0 cap_q_p0 m0_0 ∧ Fr (fun q => (c0 ≤ q ∧ q < c0 + 3) ∨ N ≤ q) w g w52 g52) ?_ (fun hk => ?_)
            rotate_left
            · rcases Bool.eq_false_or_eq_true (decide ((wi ((wi ((wi (2 * m0_1)) + 1)) + 1)) < p2)) with hb42 | hb42
              · have H := ite_t hb42 ht51
                obtain ⟨r56, hr57, H⟩ := bind_el H
                have e60 := Option.some.inj H
                refine st_valW hS41 (want_on hS41 rfl rfl rfl hb42) rfl rfl (r_move hS41 rfl rfl) fun a53 hS53 => st_valW hS53 (want_on hS53 rfl rfl rfl hb42) rfl rfl (r_move hS53 rfl rfl) fun a54 hS54 => st_valW hS54 (want_on hS54 rfl rfl rfl hb42) rfl rfl (r_move hS54 rfl rfl) fun a55 hS55 => ?_
                refine st_enterW hS55 (want_on hS55 rfl rfl rfl hb42) rfl rfl (r_invoke (T := 122) (E := 120) (f := 137) (n := 1) (b := false) hS55 rfl rfl rfl (by kernel_rfl) (by kernel_rfl) (by kernel_rfl) (.inr ⟨rfl, (by kernel_rfl), Bx.cell hb0 rfl⟩)) (depgraph_queue_Less.calls (C0 := (fun q => q = c0 + 1)) (p0 := m0_0) (p1 := (wi ((wi ((wi (2 * m0_1)) + 1)) + 1))) (p2 := (wi ((wi (2 * m0_1)) + 1))) (g := g8) (N + 0)  (OwD.rdf (fun _ _ _ _ _ _ h => h) hf0_q) (fun q (hq : q = c0 + 1) => by omega) hr57) ?_
                rintro _ a58 w59 ⟨g59, rfl, F59⟩ hS58
                replace hb0 := hb0.fr F59 (fun (hm : N + 0 ≤ c0) => by omega)
                replace hf0_q := OwS.fr hf0_q F59 (fun c' hc (hm : N + 0 ≤ c') => by omega)
                replace hF := hF.trans F59 (fun c' (hm : N + 0 ≤ c') => by show (c0 ≤ c' ∧ c' < c0 + 3) ∨ N ≤ c'; omega)
                refine st_val hS58 rfl rfl rfl (r_pickT hS58 rfl rfl rfl hb42) fun a61 hS61 => hk _ _ ?_
                exact ⟨g59, hS61.re ⟨rfl, rfl, rfl, rfl, rfl, rfl, (by rw [← e60]; rfl), trivial⟩, hb0, hf0_q, hF⟩
              · have H := ite_f hb42 ht51
                have e62 := Option.some.inj H
                refine st_off hS41 (want_off hS41 rfl rfl rfl hb42) rfl rfl fun a63 hS63 => st_off hS63 (want_off hS63 rfl rfl rfl hb42) rfl rfl fun a64 hS64 => st_off hS64 (want_off hS64 rfl rfl rfl hb42) rfl rfl fun a65 hS65 => st_off hS65 (want_off hS65 rfl rfl rfl hb42) rfl rfl fun a66 hS66 => st_val hS66 rfl rfl rfl (r_pickF hS66 rfl rfl rfl hb42) fun a67 hS67 => hk _ _ ?_
                exact ⟨g8, hS67.re ⟨rfl, rfl, rfl, rfl, rfl, rfl, (by rw [← e62]; rfl), trivial⟩, hb0, hf0_q, hF⟩
            rintro a68 w52 ⟨g52, hS68, hb0, hf0_q, hF⟩
            refine wpList_nil (hK _ _ ?_)
            replace hS : Sl 48 _ [(0, .iface 122 (.pointer (some ⟨b_p0, 0, none⟩))), (1, .int .i64 p1), (2, .int .i64 p2), (7, .int .i64 m0_1), (9, .int .i64 (wi ((wi (2 * m0_1)) + 1))), (10, .int .i64 (wi ((wi ((wi (2 * m0_1)) + 1)) + 1))), (33, .bool t50)] := hS68.re ⟨rfl, rfl, rfl, rfl, rfl, rfl, rfl, trivial⟩
            clear hK K
            try clear hS38 hS39 hS40 hS41 hS68
            obtain ⟨a, ha⟩ : ∃ a', a' = a68 := ⟨_, rfl⟩
            rw [← ha] at hS ⊢; clear ha
            refine c_cond hS rfl (fun hb69 => ?_) (fun hb69 => ?_)
            · replace H := ite_t hb69 H
              refine c_pure1 [(0, .iface 122 (.pointer (some ⟨b_p0, 0, none⟩))), (1, .int .i64 p1), (2, .int .i64 p2), (7, .int .i64 m0_1), (9, .int .i64 (wi ((wi ((wi (2 * m0_1)) + 1)) + 1)))] (fun R hR => st_val hS rfl rfl rfl (r_move hS rfl rfl) fun a70 hS70 => st_val hS70 rfl rfl rfl (r_assign hS70 rfl rfl) fun a71 hS71 => wpList_nil (hR _ (hS71.re ⟨rfl, rfl, rfl, rfl, rfl, trivial⟩))) ?_
              clear hS
              clear a
              intro a hS
              have e := Option.some.inj H
              subst e
              exact ⟨g52, hS.re ⟨rfl, rfl, rfl, rfl, rfl, trivial⟩, hb0, hf0_q, hF⟩
            · replace H := ite_f hb69 H
              refine wp_skip ?_
              have e := Option.some.inj H
              subst e
              exact ⟨g52, hS.re ⟨rfl, rfl, rfl, rfl, rfl, trivial⟩, hb0, hf0_q, hF⟩
          · clear H
            clear hf0_q hb0 hF
            clear hS
            rintro a w31 ⟨g31, hS, hb0, hf0_q, hF⟩
            have H := Hl34
            clear Hl34
            refine wp_seq ?_
            obtain ⟨r75, hr76, H⟩ := bind_el H
            refine c_region (fun K hK => ?_)
            refine st_val hS rfl rfl rfl (r_move hS rfl rfl) fun a72 hS72 => st_val hS72 rfl rfl rfl (r_move hS72 rfl rfl) fun a73 hS73 => st_val hS73 rfl rfl rfl (r_move hS73 rfl rfl) fun a74 hS74 => ?_
            refine st_enter hS74 rfl rfl rfl (r_invoke (T := 122) (E := 120) (f := 137) (n := 1) (b := false) hS74 rfl rfl rfl (by kernel_rfl) (by kernel_rfl) (by kernel_rfl) (.inr ⟨rfl, (by kernel_rfl), Bx.cell hb0 rfl⟩)) (depgraph_queue_Less.calls (C0 := (fun q => q = c0 + 1)) (p0 := m0_0) (p1 := v32) (p2 := m0_1) (g := g31) (N + 0)  (OwD.rdf (fun _ _ _ _ _ _ h => h) hf0_q) (fun q (hq : q = c0 + 1) => by omega) hr76) ?_
            rintro _ a77 w78 ⟨g78, rfl, F78⟩ hS77
            replace hb0 := hb0.fr F78 (fun (hm : N + 0 ≤ c0) => by omega)
            replace hf0_q := OwS.fr hf0_q F78 (fun c' hc (hm : N + 0 ≤ c') => by omega)
            replace hF := hF.trans F78 (fun c' (hm : N + 0 ≤ c') => by show (c0 ≤ c' ∧ c' < c0 + 3) ∨ N ≤ c'; omega)
            refine st_val hS77 rfl rfl rfl (r_not hS77 rfl rfl) fun a79 hS79 => wpList_nil (hK _ _ ?_)
            replace hS : Sl 48 _ [(0, .iface 122 (.pointer (some ⟨b_p0, 0, none⟩))), (1, .int .i64 p1), (2, .int .i64 p2), (7, .int .i64 m0_1), (9, .int .i64 v32), (39, .bool (!r75))] := hS79.re ⟨rfl, rfl, rfl, rfl, rfl, rfl, trivial⟩
            clear hK K
            try clear hS72 hS73 hS74 hS77 hS79
            obtain ⟨a, ha⟩ : ∃ a', a' = a79 := ⟨_, rfl⟩
            rw [← ha] at hS ⊢; clear ha
            refine c_cond hS rfl (fun hb80 => ?_) (fun hb80 => ?_)
            · replace H := ite_t hb80 H
              refine wp_exit ?_
              have e := Option.some.inj H
              subst e
              exact ⟨g78, hS.re ⟨rfl, rfl, trivial⟩, hb0, hf0_q, hF⟩
            · replace H := ite_f hb80 H
              refine wp_skip ?_
              change Code.wp _ _ _ _ _
              obtain ⟨r84, hr85, H⟩ := bind_el H
              refine c_region (fun K hK => ?_)
              refine st_val hS rfl rfl rfl (r_move hS rfl rfl) fun a81 hS81 => st_val hS81 rfl rfl rfl (r_move hS81 rfl rfl) fun a82 hS82 => st_val hS82 rfl rfl rfl (r_move hS82 rfl rfl) fun a83 hS83 => ?_
              refine st_enter hS83 rfl rfl rfl (r_invoke (T := 122) (E := 120) (f := 138) (n := 1) (b := false) hS83 rfl rfl rfl (by kernel_rfl) (by kernel_rfl) (by kernel_rfl) (.inr ⟨rfl, (by kernel_rfl), Bx.cell hb0 rfl⟩)) (depgraph_queue_Swap.calls (c0 := c0 + 1) (A0 := A_q_p0) (cap0 := cap_q_p0) (p0 := m0_0) (p1 := m0_1) (p2 := v32) (g := g78) (N + 0)  hf0_q (by omega) hr85) ?_
              rintro _ a87 w88 ⟨g88, rfl, hf0_q, hl86, F88⟩ hS87
              replace hb0 := hb0.fr F88 (fun (hm : (c0 + 1 ≤ c0 ∧ c0 < c0 + 1 + 2) ∨ N + 0 ≤ c0) => by omega)
              replace hF := hF.trans F88 (fun c' (hm : (c0 + 1 ≤ c' ∧ c' < c0 + 1 + 2) ∨ N + 0 ≤ c') => by show (c0 ≤ c' ∧ c' < c0 + 3) ∨ N ≤ c'; omega)
              replace hb0 : Bx w88 g88 (c0) b_p0 120 [.slice A_q_p0 r84.length cap_q_p0] := by simpa only [hl86] using hb0
              refine wpList_nil (hK _ _ ?_)
              replace hS : Sl 48 _ [(0, .iface 122 (.pointer (some ⟨b_p0, 0, none⟩))), (1, .int .i64 p1), (2, .int .i64 p2), (9, .int .i64 v32)] := hS87.re ⟨rfl, rfl, rfl, rfl, trivial⟩
              clear hK K
              try clear hS81 hS82 hS83 hS87
              obtain ⟨a, ha⟩ : ∃ a', a' = a87 := ⟨_, rfl⟩
              rw [← ha] at hS ⊢; clear ha
              refine c_pure1 [(0, .iface 122 (.pointer (some ⟨b_p0, 0, none⟩))), (1, .int .i64 p1), (2, .int .i64 p2), (7, .int .i64 v32)] (fun R hR => st_val hS rfl rfl rfl (r_move hS rfl rfl) fun a89 hS89 => st_val hS89 rfl rfl rfl (r_assign hS89 rfl rfl) fun a90 hS90 => wpList_nil (hR _ (hS90.re ⟨rfl, rfl, rfl, rfl, trivial⟩))) ?_
              clear hS
              clear a
              intro a hS
              refine ⟨k9, Nat.lt_succ_self _, ?_⟩
              exact ⟨r84, v32, g88, H, hS.re ⟨rfl, rfl, rfl, rfl, trivial⟩, hb0, hf0_q, hF⟩
  · clear H
    clear hf0_q hb0 hF
    clear hS
    rintro a w4 ⟨g4, hS, hb0, hf0_q, hF⟩
    have H := Hl7
    clear Hl7
    refine c_pure [(6, .bool (decide (p1 < v5.1)))] (fun R hR => st_val hS rfl rfl rfl (r_move hS rfl rfl) fun a91 hS91 => st_val hS91 rfl rfl rfl (r_move hS91 rfl rfl) fun a92 hS92 => st_val hS92 rfl rfl rfl (r_bin hS92 rfl rfl rfl b_gtr) fun a93 hS93 => st_val hS93 rfl rfl rfl (r_assign hS93 rfl rfl) fun a94 hS94 => wpList_nil (hR _ (hS94.re ⟨rfl, trivial⟩))) ?_
    clear hS
    clear a
    intro a hS
    refine wp_ret ?_
    have e := Option.some.inj H
    subst e
    repeat (with_reducible first | refine then_ret ?_ | refine inBlock_ret ?_)
    exact c_ret1 hS Try.results97 rfl ⟨_, rfl, g4, rfl, ⟨hb0, hf0_q⟩, hF⟩


end Go.Proofs.Ythmjgadmadlpkaa.Sim

namespace Go.Proofs.Ythmjgadmadlpkaa.Sim
open Go
set_option linter.unusedVariables false
set_option linter.unusedSimpArgs false

/-! ### heap_Pop: function 79 -/
def heap_Pop.f (p0 : depgraph_queue) : Option (depgraph_queue × Int) := (depgraph_queue_Len.f p0.q).bind fun r3 => (depgraph_queue_Swap.f p0.q 0 (wi (r3 - 1))).bind fun r11 => (heap_down.f (depgraph_queue.mk r11) 0 (wi (r3 - 1))).bind fun r18 => (depgraph_queue_Pop.f r18.1).bind fun r23 => some (r23.1, r23.2)
set_option maxRecDepth 100000 in
set_option maxHeartbeats 4000000 in
theorem heap_Pop.calls {p0 : depgraph_queue} {c0 : Nat}  {b_p0 : Nat} {A_q_p0 : Option Addr} {cap_q_p0 : Nat} {w : World} {g : Nat → Nat} {out : depgraph_queue × Int} (N : Nat) (hp0 : depgraph_queue_At w g c0 b_p0 A_q_p0 cap_q_p0 p0) (hc0 : c0 + 3 ≤ N) (H : heap_Pop.f p0 = some out) :
    Calls Try.prog 79 #[.iface 122 (.pointer (some ⟨b_p0, 0, none⟩))] w (fun e w' => ∃ v, e = .returned v ∧ ∃ (g' : Nat → Nat) (A_q_q0 : Option Addr) (cap_q_q0 : Nat), v = .iface 3 (.int .i64 out.2) ∧ depgraph_queue_At w' g' c0 b_p0 A_q_q0 cap_q_q0 out.1 ∧ Fr (fun q => (c0 ≤ q ∧ q < c0 + 3) ∨ N ≤ q) w g w' g') := by
  unfold heap_Pop.f at H
  refine calls_enter Try.func79 rfl Try.ntmps79 rfl (fun a hS => ?_)
  replace hS : Sl 15 a [(0, .iface 122 (.pointer (some ⟨b_p0, 0, none⟩)))] := hS
  have hF : Fr (fun q => (c0 ≤ q ∧ q < c0 + 3) ∨ N ≤ q) w g w g := Fr.refl _ _ _
  obtain ⟨hb0, hf0_q⟩ := hp0
  refine c_pure [(0, .iface 122 (.pointer (some ⟨b_p0, 0, none⟩)))] (fun R hR => st_val hS rfl rfl rfl (r_assign hS rfl rfl) fun a1 hS1 => wpList_nil (hR _ (hS1.re ⟨rfl, trivial⟩))) ?_
  clear hS
  clear a
  intro a hS
  obtain ⟨r3, hr4, H⟩ := bind_el H
  refine c_region (fun K hK => ?_)
  refine st_val hS rfl rfl rfl (r_move hS rfl rfl) fun a2 hS2 => ?_
  refine st_enter hS2 rfl rfl rfl (r_invoke (T := 122) (E := 120) (f := 136) (n := 1) (b := false) hS2 rfl rfl rfl (by kernel_rfl) (by kernel_rfl) (by kernel_rfl) (.inr ⟨rfl, (by kernel_rfl), Bx.cell hb0 rfl⟩)) (depgraph_queue_Len.calls (C0 := (fun q => q = c0 + 1)) (p0 := p0.q) (g := g) (N + 0)  (OwD.rdf (fun _ _ _ _ _ _ h => h) hf0_q) (fun q (hq : q = c0 + 1) => by omega) hr4) ?_
  rintro _ a5 w6 ⟨g6, rfl, F6⟩ hS5
  replace hb0 := hb0.fr F6 (fun (hm : N + 0 ≤ c0) => by omega)
  replace hf0_q := OwS.fr hf0_q F6 (fun c' hc (hm : N + 0 ≤ c') => by omega)
  replace hF := hF.trans F6 (fun c' (hm : N + 0 ≤ c') => by show (c0 ≤ c' ∧ c' < c0 + 3) ∨ N ≤ c'; omega)
  refine st_val hS5 rfl rfl rfl (r_bin hS5 rfl rfl rfl b_sub) fun a7 hS7 => st_val hS7 rfl rfl rfl (r_assign hS7 rfl rfl) fun a8 hS8 => wpList_nil (hK _ _ ?_)
  replace hS : Sl 15 _ [(0, .iface 122 (.pointer (some ⟨b_p0, 0, none⟩))), (3, .int .i64 (wi (r3 - 1)))] := hS8.re ⟨rfl, rfl, trivial⟩
  clear hK K
  try clear hS2 hS5 hS7 hS8
  obtain ⟨a, ha⟩ : ∃ a', a' = a8 := ⟨_, rfl⟩
  rw [← ha] at hS ⊢; clear ha
  obtain ⟨r11, hr12, H⟩ := bind_el H
  refine c_region (fun K hK => ?_)
  refine st_val hS rfl rfl rfl (r_move hS rfl rfl) fun a9 hS9 => st_val hS9 rfl rfl rfl (r_move hS9 rfl rfl) fun a10 hS10 => ?_
  refine st_enter hS10 rfl rfl rfl (r_invoke (T := 122) (E := 120) (f := 138) (n := 1) (b := false) hS10 rfl rfl rfl (by kernel_rfl) (by kernel_rfl) (by kernel_rfl) (.inr ⟨rfl, (by kernel_rfl), Bx.cell hb0 rfl⟩)) (depgraph_queue_Swap.calls (c0 := c0 + 1) (A0 := A_q_p0) (cap0 := cap_q_p0) (p0 := p0.q) (p1 := 0) (p2 := (wi (r3 - 1))) (g := g6) (N + 0)  hf0_q (by omega) hr12) ?_
  rintro _ a14 w15 ⟨g15, rfl, hf0_q, hl13, F15⟩ hS14
  replace hb0 := hb0.fr F15 (fun (hm : (c0 + 1 ≤ c0 ∧ c0 < c0 + 1 + 2) ∨ N + 0 ≤ c0) => by omega)
  replace hF := hF.trans F15 (fun c' (hm : (c0 + 1 ≤ c' ∧ c' < c0 + 1 + 2) ∨ N + 0 ≤ c') => by show (c0 ≤ c' ∧ c' < c0 + 3) ∨ N ≤ c'; omega)
  replace hb0 : Bx w15 g15 (c0) b_p0 120 [.slice A_q_p0 r11.length cap_q_p0] := by simpa only [hl13] using hb0
  refine wpList_nil (hK _ _ ?_)
  replace hS : Sl 15 _ [(0, .iface 122 (.pointer (some ⟨b_p0, 0, none⟩))), (3, .int .i64 (wi (r3 - 1)))] := hS14.re ⟨rfl, rfl, trivial⟩
  clear hK K
  try clear hS9 hS10 hS14
  obtain ⟨a, ha⟩ : ∃ a', a' = a14 := ⟨_, rfl⟩
  rw [← ha] at hS ⊢; clear ha
  obtain ⟨r18, hr19, H⟩ := bind_el H
  refine c_region (fun K hK => ?_)
  refine st_val hS rfl rfl rfl (r_move hS rfl rfl) fun a16 hS16 => st_val hS16 rfl rfl rfl (r_move hS16 rfl rfl) fun a17 hS17 => ?_
  refine st_enter hS17 rfl rfl rfl (r_call hS17 rfl rfl (by kernel_rfl)) (heap_down.calls (c0 := c0) (b_p0 := b_p0) (A_q_p0 := A_q_p0) (cap_q_p0 := cap_q_p0) (p0 := (depgraph_queue.mk r11)) (p1 := 0) (p2 := (wi (r3 - 1))) (g := g15) (N + 0)  ⟨hb0, hf0_q⟩ (by omega) hr19) ?_
  rintro _ a20 w21 ⟨g21, rfl, ⟨hb0, hf0_q⟩, F21⟩ hS20
  replace hF := hF.trans F21 (fun c' (hm : (c0 ≤ c' ∧ c' < c0 + 3) ∨ N + 0 ≤ c') => by show (c0 ≤ c' ∧ c' < c0 + 3) ∨ N ≤ c'; omega)
  refine wpList_nil (hK _ _ ?_)
  replace hS : Sl 15 _ [(0, .iface 122 (.pointer (some ⟨b_p0, 0, none⟩)))] := hS20.re ⟨rfl, trivial⟩
  clear hK K
  try clear hS16 hS17 hS20
  obtain ⟨a, ha⟩ : ∃ a', a' = a20 := ⟨_, rfl⟩
  rw [← ha] at hS ⊢; clear ha
  obtain ⟨r23, hr24, H⟩ := bind_el H
  refine c_region (fun K hK => ?_)
  refine st_val hS rfl rfl rfl (r_move hS rfl rfl) fun a22 hS22 => ?_
  refine st_enter hS22 rfl rfl rfl (r_invoke (T := 122) (E := 120) (f := 139) (n := 1) (b := true) hS22 rfl rfl rfl (by kernel_rfl) (by kernel_rfl) (by kernel_rfl) (.inl ⟨rfl, rfl⟩)) (depgraph_queue_Pop.calls (c0 := c0) (b_p0 := b_p0) (A_q_p0 := A_q_p0) (cap_q_p0 := cap_q_p0) (p0 := r18.1) (g := g21) (N + 0)  ⟨hb0, hf0_q⟩ (by omega) hr24) ?_
  rintro _ a27 w28 ⟨g28, A25, cap26, rfl, ⟨hb0, hf0_q⟩, F28⟩ hS27
  replace hF := hF.trans F28 (fun c' (hm : (c0 ≤ c' ∧ c' < c0 + 3) ∨ N + 0 ≤ c') => by show (c0 ≤ c' ∧ c' < c0 + 3) ∨ N ≤ c'; omega)
  refine st_val hS27 rfl rfl rfl (r_assign hS27 rfl rfl) fun a29 hS29 => wpList_nil (hK _ _ ?_)
  replace hS : Sl 15 _ [(2, .iface 3 (.int .i64 r23.2))] := hS29.re ⟨rfl, trivial⟩
  clear hK K
  try clear hS22 hS27 hS29
  obtain ⟨a, ha⟩ : ∃ a', a' = a29 := ⟨_, rfl⟩
  rw [← ha] at hS ⊢; clear ha
  refine wp_ret ?_
  have e := Option.some.inj H
  subst e
  repeat (with_reducible first | refine then_ret ?_ | refine inBlock_ret ?_)
  exact c_ret1 hS Try.results79 rfl ⟨_, rfl, g28, A25, cap26, rfl, ⟨hb0, hf0_q⟩, hF⟩


end Go.Proofs.Ythmjgadmadlpkaa.Sim

namespace Go.Proofs.Ythmjgadmadlpkaa.Sim
open Go
set_option linter.unusedVariables false
set_option linter.unusedSimpArgs false

/-! ### depgraph_queue_Push: function 140 -/
def depgraph_queue_Push.f (p0 : depgraph_queue) (p1 : Int) : Option (depgraph_queue) := (app p0.q [p1]).bind fun y20 => some (depgraph_queue.mk y20)
set_option maxRecDepth 100000 in
set_option maxHeartbeats 4000000 in
theorem depgraph_queue_Push.calls {p0 : depgraph_queue} {c0 : Nat}  {b_p0 : Nat} {A_q_p0 : Option Addr} {cap_q_p0 : Nat} {p1 : Int} {w : World} {g : Nat → Nat} {out : depgraph_queue} (N : Nat) (hp0 : depgraph_queue_At w g c0 b_p0 A_q_p0 cap_q_p0 p0) (hc0 : c0 + 3 ≤ N) (H : depgraph_queue_Push.f p0 p1 = some out) :
    Calls Try.prog 140 #[.pointer (some ⟨b_p0, 0, none⟩), .iface 3 (.int .i64 p1)] w (fun e w' => ∃ v, e = .returned v ∧ ∃ (g' : Nat → Nat) (A_q_q0 : Option Addr) (cap_q_q0 : Nat), v = .tuple #[] ∧ depgraph_queue_At w' g' c0 b_p0 A_q_q0 cap_q_q0 out ∧ Fr (fun q => (c0 ≤ q ∧ q < c0 + 3) ∨ N ≤ q) w g w' g') := by
  unfold depgraph_queue_Push.f at H
  refine calls_enter Try.func140 rfl Try.ntmps140 rfl (fun a hS => ?_)
  replace hS : Sl 20 a [(0, .pointer (some ⟨b_p0, 0, none⟩)), (1, .iface 3 (.int .i64 p1))] := hS
  have hF : Fr (fun q => (c0 ≤ q ∧ q < c0 + 3) ∨ N ≤ q) w g w g := Fr.refl _ _ _
  obtain ⟨hb0, hf0_q⟩ := hp0
  refine c_pure [(0, .pointer (some ⟨b_p0, 0, none⟩)), (4, .int .i64 p1), (5, .bool true)] (fun R hR => st_val hS rfl rfl rfl (r_move hS rfl rfl) fun a1 hS1 => st_val hS1 rfl rfl rfl (r_assert hS1 rfl rfl (by kernel_rfl)) fun a2 hS2 => st_val hS2 rfl rfl rfl (r_move hS2 rfl rfl) fun a3 hS3 => st_val hS3 rfl rfl rfl (r_extract hS3 rfl rfl rfl) fun a4 hS4 => st_val hS4 rfl rfl rfl (r_extract hS4 rfl rfl rfl) fun a5 hS5 => st_val hS5 rfl rfl rfl (r_assign hS5 rfl rfl) fun a6 hS6 => st_val hS6 rfl rfl rfl (r_assign hS6 rfl rfl) fun a7 hS7 => wpList_nil (hR _ (hS7.re ⟨rfl, rfl, rfl, trivial⟩))) ?_
  clear hS
  clear a
  intro a hS
  refine c_pure [(0, .pointer (some ⟨b_p0, 0, none⟩)), (4, .int .i64 p1), (11, .bool true)] (fun R hR => st_val hS rfl rfl rfl (r_move hS rfl rfl) fun a8 hS8 => wpList_nil (hR _ (hS8.re ⟨rfl, rfl, rfl, trivial⟩))) ?_
  clear hS
  clear a
  intro a hS
  refine c_cond hS rfl (fun hb9 => ?_) (fun hb9 => ?_)
  · obtain ⟨y20, hy21, H⟩ := bind_el H
    refine c_region1 (fun K hK => ?_)
    refine st_val hS rfl rfl rfl (r_move hS rfl rfl) fun a10 hS10 => st_val hS10 rfl rfl rfl (r_move hS10 rfl rfl) fun a11 hS11 => st_val hS11 rfl rfl rfl (r_nil hS11 rfl rfl) fun a12 hS12 => st_val hS12 rfl rfl rfl (r_load1 (n := 1) hS12 rfl rfl (by kernel_rfl) (Bx.cell hb0 rfl)) fun a13 hS13 => st_val hS13 rfl rfl rfl (r_move hS13 rfl rfl) fun a14 hS14 => ?_
    refine st_eff hS14 rfl rfl rfl (e_lit (e := 3) (parts := [(0, .int .i64 p1)]) (cs := [.int .i64 p1]) (kint .i64) [p1] (N + 0) g hS14 rfl rfl (fun _ => by kernel_rfl) rfl (by decide) (Rows.cons (cs := [.int .i64 p1]) rfl Rows.nil)) ?_
    rintro _ a18 w19 g19 ⟨⟨A15, rfl, h16⟩, F19⟩ hS18
    replace hb0 := hb0.fr F19 (fun h => h)
    replace hf0_q := OwS.fr hf0_q F19 (fun _ _ h => h)
    replace hF := hF.trans F19 (fun _ h => h.elim)
    refine st_eff hS18 rfl rfl rfl (e_append (e := 3) (sz := 1) (by_ := 8) (z := [.int .i64 0]) (kd := (kint .i64)) g19 hS18 rfl rfl rfl rfl (by kernel_rfl) (by kernel_rfl) rfl rfl rfl rfl hf0_q (OwD.rdx h16) (fun _ _ _ h => h) hy21) ?_
    rintro _ a26 w27 g27 ⟨⟨A22, cap23, rfl, h24⟩, F27⟩ hS26
    replace h16 := OwS.fr h16 F27 (fun c' hc (hm : c' = c0 + 1) => by omega)
    replace hb0 := hb0.fr F27 (fun (hm : c0 = c0 + 1) => by omega)
    replace hF := hF.trans F27 (fun c' (hm : c' = c0 + 1) => by show (c0 ≤ c' ∧ c' < c0 + 3) ∨ N ≤ c'; omega)
    refine st_val hS26 rfl rfl rfl (r_nil hS26 rfl rfl) fun a28 hS28 => ?_
    refine st_effS hS28 rfl rfl (e_storeB (n := 1) (bb := false) (cs' := [.slice A22 y20.length cap23]) g27 hS28 rfl rfl rfl (by kernel_rfl) rfl rfl rfl hb0 rfl rfl) ?_
    rintro a29 w30 g30 ⟨hb0, F30⟩ hS29
    replace h16 := OwS.fr h16 F30 (fun c' hc (hm : c' = c0) => by omega)
    replace h24 := OwS.fr h24 F30 (fun c' hc (hm : c' = c0) => by omega)
    replace hF := hF.trans F30 (fun c' (hm : c' = c0) => by show (c0 ≤ c' ∧ c' < c0 + 3) ∨ N ≤ c'; omega)
    refine wpList_nil (hK _ _ ?_)
    replace hS : Sl 20 _ [] := hS29.re trivial
    clear hK K
    try clear hS10 hS11 hS12 hS13 hS14 hS18 hS26 hS28 hS29
    obtain ⟨a, ha⟩ : ∃ a', a' = a29 := ⟨_, rfl⟩
    rw [← ha] at hS ⊢; clear ha
    have e := Option.some.inj H
    subst e
    repeat (with_reducible first | refine inBlock_exit ?_ | refine then_exit ?_ | refine inBlock_out (by decide) ?_ | refine inBlock_normal ?_)
    exact c_end0 hS Try.results140 ⟨_, rfl, g30, A22, cap23, rfl, ⟨hb0, h24⟩, hF⟩
  · exact absurd hb9 (by decide)


end Go.Proofs.Ythmjgadmadlpkaa.Sim

namespace Go.Proofs.Ythmjgadmadlpkaa.Sim
open Go
set_option linter.unusedVariables false
set_option linter.unusedSimpArgs false

/-! ### heap_up: function 96 -/
def heap_up.l0 : Nat → (List Int) → Int → Option (depgraph_queue)
  | 0, _, _ => none
  | k2 + 1, m0_0, m0_1 => (if ((wi (Int.tdiv (wi (m0_1 - 1)) 2)) == m0_1) = true then some true else (depgraph_queue_Less.f m0_0 m0_1 (wi (Int.tdiv (wi (m0_1 - 1)) 2))).bind fun r15 => some (!r15)).bind fun t20 => if t20 = true then (some (depgraph_queue.mk m0_0)) else ((depgraph_queue_Swap.f m0_0 (wi (Int.tdiv (wi (m0_1 - 1)) 2)) m0_1).bind fun r45 => heap_up.l0 k2 r45 (wi (Int.tdiv (wi (m0_1 - 1)) 2)))
def heap_up.f (p0 : depgraph_queue) (p1 : Int) : Option (depgraph_queue) := heap_up.l0 FUEL p0.q p1
set_option maxRecDepth 100000 in
set_option maxHeartbeats 4000000 in
theorem heap_up.calls {p0 : depgraph_queue} {c0 : Nat}  {b_p0 : Nat} {A_q_p0 : Option Addr} {cap_q_p0 : Nat} {p1 : Int} {w : World} {g : Nat → Nat} {out : depgraph_queue} (N : Nat) (hp0 : depgraph_queue_At w g c0 b_p0 A_q_p0 cap_q_p0 p0) (hc0 : c0 + 3 ≤ N) (H : heap_up.f p0 p1 = some out) :
    Calls Try.prog 96 #[.iface 122 (.pointer (some ⟨b_p0, 0, none⟩)), .int .i64 p1] w (fun e w' => ∃ v, e = .returned v ∧ ∃ (g' : Nat → Nat), v = .tuple #[] ∧ depgraph_queue_At w' g' c0 b_p0 A_q_p0 cap_q_p0 out ∧ Fr (fun q => (c0 ≤ q ∧ q < c0 + 3) ∨ N ≤ q) w g w' g') := by
  unfold heap_up.f at H
  refine calls_enter Try.func96 rfl Try.ntmps96 rfl (fun a hS => ?_)
  replace hS : Sl 23 a [(0, .iface 122 (.pointer (some ⟨b_p0, 0, none⟩))), (1, .int .i64 p1)] := hS
  have hF : Fr (fun q => (c0 ≤ q ∧ q < c0 + 3) ∨ N ≤ q) w g w g := Fr.refl _ _ _
  obtain ⟨hb0, hf0_q⟩ := hp0
  refine wp_block ?_
  refine wp_loop_ghost (fun kq => fun a w1 => ∃ (m0_0 : List Int), ∃ (m0_1 : Int), ∃ (g1 : Nat → Nat), heap_up.l0 kq m0_0 m0_1 = some out ∧ Sl 23 a [(0, .iface 122 (.pointer (some ⟨b_p0, 0, none⟩))), (1, .int .i64 m0_1)] ∧ Bx w1 g1 (c0) b_p0 120 [.slice A_q_p0 m0_0.length cap_q_p0] ∧ OwS (kint .i64) 3 w1 g1 (c0 + 1) A_q_p0 cap_q_p0 m0_0 ∧ Fr (fun q => (c0 ≤ q ∧ q < c0 + 3) ∨ N ≤ q) w g w1 g1) FUEL ?_ ?_
  · exact ⟨p0.q, p1, g, H, hS.re ⟨rfl, rfl, trivial⟩, hb0, hf0_q, hF⟩
  · clear H
    clear hf0_q hb0 hF
    clear hS
    rintro k2 a w1 ⟨m0_0, m0_1, g1, hpre0, hS, hb0, hf0_q, hF⟩
    have H := hpre0
    clear hpre0
    cases k2 with
    | zero => exact absurd H (by simp [heap_up.l0])
    | succ k2 =>
      rw [heap_up.l0] at H
      refine wp_block ?_
      refine c_pure [(0, .iface 122 (.pointer (some ⟨b_p0, 0, none⟩))), (1, .int .i64 m0_1), (4, .int .i64 (wi (Int.tdiv (wi (m0_1 - 1)) 2)))] (fun R hR => st_val hS rfl rfl rfl (r_move hS rfl rfl) fun a3 hS3 => st_val hS3 rfl rfl rfl (r_bin hS3 rfl rfl rfl b_sub) fun a4 hS4 => st_val hS4 rfl rfl rfl (r_bin hS4 rfl rfl rfl (b_quo (by decide))) fun a5 hS5 => st_val hS5 rfl rfl rfl (r_assign hS5 rfl rfl) fun a6 hS6 => wpList_nil (hR _ (hS6.re ⟨rfl, rfl, rfl, trivial⟩))) ?_
      clear hS
      clear a
      intro a hS
      refine wp_seq ?_
      obtain ⟨t20, ht21, H⟩ := bind_el H
      refine c_region (fun K hK => ?_)
      refine st_val hS rfl rfl rfl (r_move hS rfl rfl) fun a7 hS7 => st_val hS7 rfl rfl rfl (r_move hS7 rfl rfl) fun a8 hS8 => st_val hS8 rfl rfl rfl (r_bin hS8 rfl rfl rfl b_eql) fun a9 hS9 => st_val hS9 rfl rfl rfl (r_move hS9 rfl rfl) fun a10 hS10 => ?_
      refine g_joinR 6 (fun a w22 => ∃ (g22 : Nat → Nat), Sl 23 a [(0, .iface 122 (.pointer (some ⟨b_p0, 0, none⟩))), (1, .int .i64 m0_1), (4, .int .i64 (wi (Int.tdiv (wi (m0_1 - 1)) 2))), (17, .bool t20)] ∧ Bx w22 g22 (c0) b_p0 120 [.slice A_q_p0 m0_0.length cap_q_p0] ∧ OwS (kint .i64) 3 w22 g22 (c0 + 1) A_q_p0 cap_q_p0 m0_0 ∧ Fr (fun q => (c0 ≤ q ∧ q < c0 + 3) ∨ N ≤ q) w g w22 g22) ?_ (fun hk => ?_)
      rotate_left
      · rcases Bool.eq_false_or_eq_true (((wi (Int.tdiv (wi (m0_1 - 1)) 2)) == m0_1)) with hb11 | hb11
        · have H := ite_t hb11 ht21
          have e23 := Option.some.inj H
          refine st_off hS10 (want_off hS10 rfl rfl rfl hb11) rfl rfl fun a24 hS24 => st_off hS24 (want_off hS24 rfl rfl rfl hb11) rfl rfl fun a25 hS25 => st_off hS25 (want_off hS25 rfl rfl rfl hb11) rfl rfl fun a26 hS26 => st_off hS26 (want_off hS26 rfl rfl rfl hb11) rfl rfl fun a27 hS27 => st_off hS27 (want_off hS27 rfl rfl rfl hb11) rfl rfl fun a28 hS28 => st_val hS28 rfl rfl rfl (r_pickT hS28 rfl rfl rfl hb11) fun a29 hS29 => hk _ _ ?_
          exact ⟨g1, hS29.re ⟨rfl, rfl, rfl, (by rw [← e23]; rfl), trivial⟩, hb0, hf0_q, hF⟩
        · have H := ite_f hb11 ht21
          obtain ⟨r33, hr34, H⟩ := bind_el H
          have e38 := Option.some.inj H
          refine st_valW hS10 (want_on hS10 rfl rfl rfl hb11) rfl rfl (r_move hS10 rfl rfl) fun a30 hS30 => st_valW hS30 (want_on hS30 rfl rfl rfl hb11) rfl rfl (r_move hS30 rfl rfl) fun a31 hS31 => st_valW hS31 (want_on hS31 rfl rfl rfl hb11) rfl rfl (r_move hS31 rfl rfl) fun a32 hS32 => ?_
          refine st_enterW hS32 (want_on hS32 rfl rfl rfl hb11) rfl rfl (r_invoke (T := 122) (E := 120) (f := 137) (n := 1) (b := false) hS32 rfl rfl rfl (by kernel_rfl) (by kernel_rfl) (by kernel_rfl) (.inr ⟨rfl, (by kernel_rfl), Bx.cell hb0 rfl⟩)) (depgraph_queue_Less.calls (C0 := (fun q => q = c0 + 1)) (p0 := m0_0) (p1 := m0_1) (p2 := (wi (Int.tdiv (wi (m0_1 - 1)) 2))) (g := g1) (N + 0)  (OwD.rdf (fun _ _ _ _ _ _ h => h) hf0_q) (fun q (hq : q = c0 + 1) => by omega) hr34) ?_
          rintro _ a35 w36 ⟨g36, rfl, F36⟩ hS35
          replace hb0 := hb0.fr F36 (fun (hm : N + 0 ≤ c0) => by omega)
          replace hf0_q := OwS.fr hf0_q F36 (fun c' hc (hm : N + 0 ≤ c') => by omega)
          replace hF := hF.trans F36 (fun c' (hm : N + 0 ≤ c') => by show (c0 ≤ c' ∧ c' < c0 + 3) ∨ N ≤ c'; omega)
          refine st_valW hS35 (want_on hS35 rfl rfl rfl hb11) rfl rfl (r_not hS35 rfl rfl) fun a37 hS37 => ?_
          refine st_val hS37 rfl rfl rfl (r_pickF hS37 rfl rfl rfl hb11) fun a39 hS39 => hk _ _ ?_
          exact ⟨g36, hS39.re ⟨rfl, rfl, rfl, (by rw [← e38]; rfl), trivial⟩, hb0, hf0_q, hF⟩
      rintro a40 w22 ⟨g22, hS40, hb0, hf0_q, hF⟩
      refine wpList_nil (hK _ _ ?_)
      replace hS : Sl 23 _ [(0, .iface 122 (.pointer (some ⟨b_p0, 0, none⟩))), (1, .int .i64 m0_1), (4, .int .i64 (wi (Int.tdiv (wi (m0_1 - 1)) 2))), (17, .bool t20)] := hS40.re ⟨rfl, rfl, rfl, rfl, trivial⟩
      clear hK K
      try clear hS7 hS8 hS9 hS10 hS40
      obtain ⟨a, ha⟩ : ∃ a', a' = a40 := ⟨_, rfl⟩
      rw [← ha] at hS ⊢; clear ha
      refine c_cond hS rfl (fun hb41 => ?_) (fun hb41 => ?_)
      · replace H := ite_t hb41 H
        refine wp_exit ?_
        have e := Option.some.inj H
        subst e
        repeat (with_reducible first | refine inBlock_exit ?_ | refine then_exit ?_ | refine inBlock_out (by decide) ?_ | refine inBlock_normal ?_)
        exact c_end0 hS Try.results96 ⟨_, rfl, g22, rfl, ⟨hb0, hf0_q⟩, hF⟩
      · replace H := ite_f hb41 H
        refine wp_skip ?_
        change Code.wp _ _ _ _ _
        obtain ⟨r45, hr46, H⟩ := bind_el H
        refine c_region (fun K hK => ?_)
        refine st_val hS rfl rfl rfl (r_move hS rfl rfl) fun a42 hS42 => st_val hS42 rfl rfl rfl (r_move hS42 rfl rfl) fun a43 hS43 => st_val hS43 rfl rfl rfl (r_move hS43 rfl rfl) fun a44 hS44 => ?_
        refine st_enter hS44 rfl rfl rfl (r_invoke (T := 122) (E := 120) (f := 138) (n := 1) (b := false) hS44 rfl rfl rfl (by kernel_rfl) (by kernel_rfl) (by kernel_rfl) (.inr ⟨rfl, (by kernel_rfl), Bx.cell hb0 rfl⟩)) (depgraph_queue_Swap.calls (c0 := c0 + 1) (A0 := A_q_p0) (cap0 := cap_q_p0) (p0 := m0_0) (p1 := (wi (Int.tdiv (wi (m0_1 - 1)) 2))) (p2 := m0_1) (g := g22) (N + 0)  hf0_q (by omega) hr46) ?_
        rintro _ a48 w49 ⟨g49, rfl, hf0_q, hl47, F49⟩ hS48
        replace hb0 := hb0.fr F49 (fun (hm : (c0 + 1 ≤ c0 ∧ c0 < c0 + 1 + 2) ∨ N + 0 ≤ c0) => by omega)
        replace hF := hF.trans F49 (fun c' (hm : (c0 + 1 ≤ c' ∧ c' < c0 + 1 + 2) ∨ N + 0 ≤ c') => by show (c0 ≤ c' ∧ c' < c0 + 3) ∨ N ≤ c'; omega)
        replace hb0 : Bx w49 g49 (c0) b_p0 120 [.slice A_q_p0 r45.length cap_q_p0] := by simpa only [hl47] using hb0
        refine wpList_nil (hK _ _ ?_)
        replace hS : Sl 23 _ [(0, .iface 122 (.pointer (some ⟨b_p0, 0, none⟩))), (4, .int .i64 (wi (Int.tdiv (wi (m0_1 - 1)) 2)))] := hS48.re ⟨rfl, rfl, trivial⟩
        clear hK K
        try clear hS42 hS43 hS44 hS48
        obtain ⟨a, ha⟩ : ∃ a', a' = a48 := ⟨_, rfl⟩
        rw [← ha] at hS ⊢; clear ha
        refine c_pure1 [(0, .iface 122 (.pointer (some ⟨b_p0, 0, none⟩))), (1, .int .i64 (wi (Int.tdiv (wi (m0_1 - 1)) 2)))] (fun R hR => st_val hS rfl rfl rfl (r_move hS rfl rfl) fun a50 hS50 => st_val hS50 rfl rfl rfl (r_assign hS50 rfl rfl) fun a51 hS51 => wpList_nil (hR _ (hS51.re ⟨rfl, rfl, trivial⟩))) ?_
        clear hS
        clear a
        intro a hS
        refine ⟨k2, Nat.lt_succ_self _, ?_⟩
        exact ⟨r45, wi (Int.tdiv (wi (m0_1 - 1)) 2), g49, H, hS.re ⟨rfl, rfl, trivial⟩, hb0, hf0_q, hF⟩


end Go.Proofs.Ythmjgadmadlpkaa.Sim

namespace Go.Proofs.Ythmjgadmadlpkaa.Sim
open Go
set_option linter.unusedVariables false
set_option linter.unusedSimpArgs false

/-! ### heap_Push: function 78 -/
def heap_Push.f (p0 : depgraph_queue) (p1 : Int) : Option (depgraph_queue) := (depgraph_queue_Push.f p0 p1).bind fun r3 => (depgraph_queue_Len.f r3.q).bind fun r11 => (heap_up.f r3 (wi (r11 - 1))).bind fun r16 => some r16
set_option maxRecDepth 100000 in
set_option maxHeartbeats 4000000 in
theorem heap_Push.calls {p0 : depgraph_queue} {c0 : Nat}  {b_p0 : Nat} {A_q_p0 : Option Addr} {cap_q_p0 : Nat} {p1 : Int} {w : World} {g : Nat → Nat} {out : depgraph_queue} (N : Nat) (hp0 : depgraph_queue_At w g c0 b_p0 A_q_p0 cap_q_p0 p0) (hc0 : c0 + 3 ≤ N) (H : heap_Push.f p0 p1 = some out) :
    Calls Try.prog 78 #[.iface 122 (.pointer (some ⟨b_p0, 0, none⟩)), .iface 3 (.int .i64 p1)] w (fun e w' => ∃ v, e = .returned v ∧ ∃ (g' : Nat → Nat) (A_q_q0 : Option Addr) (cap_q_q0 : Nat), v = .tuple #[] ∧ depgraph_queue_At w' g' c0 b_p0 A_q_q0 cap_q_q0 out ∧ Fr (fun q => (c0 ≤ q ∧ q < c0 + 3) ∨ N ≤ q) w g w' g') := by
  unfold heap_Push.f at H
  refine calls_enter Try.func78 rfl Try.ntmps78 rfl (fun a hS => ?_)
  replace hS : Sl 12 a [(0, .iface 122 (.pointer (some ⟨b_p0, 0, none⟩))), (1, .iface 3 (.int .i64 p1))] := hS
  have hF : Fr (fun q => (c0 ≤ q ∧ q < c0 + 3) ∨ N ≤ q) w g w g := Fr.refl _ _ _
  obtain ⟨hb0, hf0_q⟩ := hp0
  obtain ⟨r3, hr4, H⟩ := bind_el H
  refine c_region (fun K hK => ?_)
  refine st_val hS rfl rfl rfl (r_move hS rfl rfl) fun a1 hS1 => st_val hS1 rfl rfl rfl (r_move hS1 rfl rfl) fun a2 hS2 => ?_
  refine st_enter hS2 rfl rfl rfl (r_invoke (T := 122) (E := 120) (f := 140) (n := 1) (b := true) hS2 rfl rfl rfl (by kernel_rfl) (by kernel_rfl) (by kernel_rfl) (.inl ⟨rfl, rfl⟩)) (depgraph_queue_Push.calls (c0 := c0) (b_p0 := b_p0) (A_q_p0 := A_q_p0) (cap_q_p0 := cap_q_p0) (p0 := p0) (p1 := p1) (g := g) (N + 0)  ⟨hb0, hf0_q⟩ (by omega) hr4) ?_
  rintro _ a7 w8 ⟨g8, A5, cap6, rfl, ⟨hb0, hf0_q⟩, F8⟩ hS7
  replace hF := hF.trans F8 (fun c' (hm : (c0 ≤ c' ∧ c' < c0 + 3) ∨ N + 0 ≤ c') => by show (c0 ≤ c' ∧ c' < c0 + 3) ∨ N ≤ c'; omega)
  refine wpList_nil (hK _ _ ?_)
  replace hS : Sl 12 _ [(0, .iface 122 (.pointer (some ⟨b_p0, 0, none⟩)))] := hS7.re ⟨rfl, trivial⟩
  clear hK K
  try clear hS1 hS2 hS7
  obtain ⟨a, ha⟩ : ∃ a', a' = a7 := ⟨_, rfl⟩
  rw [← ha] at hS ⊢; clear ha
  obtain ⟨r11, hr12, H⟩ := bind_el H
  obtain ⟨r16, hr17, H⟩ := bind_el H
  refine c_region1 (fun K hK => ?_)
  refine st_val hS rfl rfl rfl (r_move hS rfl rfl) fun a9 hS9 => st_val hS9 rfl rfl rfl (r_move hS9 rfl rfl) fun a10 hS10 => ?_
  refine st_enter hS10 rfl rfl rfl (r_invoke (T := 122) (E := 120) (f := 136) (n := 1) (b := false) hS10 rfl rfl rfl (by kernel_rfl) (by kernel_rfl) (by kernel_rfl) (.inr ⟨rfl, (by kernel_rfl), Bx.cell hb0 rfl⟩)) (depgraph_queue_Len.calls (C0 := (fun q => q = c0 + 1)) (p0 := r3.q) (g := g8) (N + 0)  (OwD.rdf (fun _ _ _ _ _ _ h => h) hf0_q) (fun q (hq : q = c0 + 1) => by omega) hr12) ?_
  rintro _ a13 w14 ⟨g14, rfl, F14⟩ hS13
  replace hb0 := hb0.fr F14 (fun (hm : N + 0 ≤ c0) => by omega)
  replace hf0_q := OwS.fr hf0_q F14 (fun c' hc (hm : N + 0 ≤ c') => by omega)
  replace hF := hF.trans F14 (fun c' (hm : N + 0 ≤ c') => by show (c0 ≤ c' ∧ c' < c0 + 3) ∨ N ≤ c'; omega)
  refine st_val hS13 rfl rfl rfl (r_bin hS13 rfl rfl rfl b_sub) fun a15 hS15 => ?_
  refine st_enter hS15 rfl rfl rfl (r_call hS15 rfl rfl (by kernel_rfl)) (heap_up.calls (c0 := c0) (b_p0 := b_p0) (A_q_p0 := A5) (cap_q_p0 := cap6) (p0 := r3) (p1 := (wi (r11 - 1))) (g := g14) (N + 0)  ⟨hb0, hf0_q⟩ (by omega) hr17) ?_
  rintro _ a18 w19 ⟨g19, rfl, ⟨hb0, hf0_q⟩, F19⟩ hS18
  replace hF := hF.trans F19 (fun c' (hm : (c0 ≤ c' ∧ c' < c0 + 3) ∨ N + 0 ≤ c') => by show (c0 ≤ c' ∧ c' < c0 + 3) ∨ N ≤ c'; omega)
  refine wpList_nil (hK _ _ ?_)
  replace hS : Sl 12 _ [] := hS18.re trivial
  clear hK K
  try clear hS9 hS10 hS13 hS15 hS18
  obtain ⟨a, ha⟩ : ∃ a', a' = a18 := ⟨_, rfl⟩
  rw [← ha] at hS ⊢; clear ha
  have e := Option.some.inj H
  subst e
  repeat (with_reducible first | refine inBlock_exit ?_ | refine then_exit ?_ | refine inBlock_out (by decide) ?_ | refine inBlock_normal ?_)
  exact c_end0 hS Try.results78 ⟨_, rfl, g19, A5, cap6, rfl, ⟨hb0, hf0_q⟩, hF⟩


end Go.Proofs.Ythmjgadmadlpkaa.Sim

namespace Go.Proofs.Ythmjgadmadlpkaa.Sim
open Go
set_option linter.unusedVariables false
set_option linter.unusedSimpArgs false

/-! ### depgraph_sort: function 45 -/
def depgraph_sort.l0 (r4 : (List (List Int)) × (List Int)) : Nat → (List Int) → Int → Option ((List Int))
  | 0, _, _ => none
  | k40 + 1, m0_0, m0_1 => if decide (m0_1 < (r4.2.length : Int)) = true then (((idx r4.2 m0_1).bind fun x50 => if (x50 == 0) = true then ((heap_Push.f (depgraph_queue.mk m0_0) m0_1).bind fun r62 => some r62.q) else (some m0_0) : Option ((List Int))).bind fun v46 => depgraph_sort.l0 r4 k40 v46 (wi (m0_1 + 1))) else (some m0_0)
def depgraph_sort.l2 (y121 : List Int) (x132 : List Int) : Nat → (List Int) → (List Int) → Int → Option (Fl ((List Int)) ((List Int) × (List Int) × (List Int)))
  | 0, _, _, _ => none
  | k147 + 1, m2_0, m2_1, m2_2 => if decide (m2_2 < (x132.length : Int)) = true then (((idx x132 m2_2).bind fun x156 => (idx m2_0 x156).bind fun x163 => (idx (upd m2_0 x156 (wi (x163 - 1))) x156).bind fun x173 => if (x173 == 0) = true then ((heap_Push.f (depgraph_queue.mk m2_1) x156).bind fun r182 => some ((upd m2_0 x156 (wi (x163 - 1))), r182.q)) else (some ((upd m2_0 x156 (wi (x163 - 1))), m2_1)) : Option ((List Int) × (List Int))).bind fun v153 => depgraph_sort.l2 y121 x132 k147 v153.1 v153.2 (wi (m2_2 + 1))) else (some (.nxt (m2_0, m2_1, y121)))
def depgraph_sort.l1 (r4 : (List (List Int)) × (List Int)) : Nat → (List Int) → (List Int) → (List Int) → Option ((List Int))
  | 0, _, _, _ => none
  | k84 + 1, m1_0, m1_1, m1_2 => if decide (0 < (m1_1.length : Int)) = true then (((heap_Pop.f (depgraph_queue.mk m1_1)).bind fun r99 => if (!true) = true then (some (.out m1_2)) else ((app m1_2 [r99.2]).bind fun y121 => (idx r4.1 r99.2).bind fun x132 => depgraph_sort.l2 y121 x132 FUEL m1_0 r99.1.q 0) : Option (Fl ((List Int)) ((List Int) × (List Int) × (List Int)))).bind fun o96 => o96.go fun v95 => depgraph_sort.l1 r4 k84 v95.1 v95.2.1 v95.2.2) else (some m1_2)
def depgraph_sort.f (p0 : Int) (p1 : List api_Link) : Option ((List Int)) := (depgraph_adjacent.f p0 p1).bind fun r4 => (depgraph_sort.l0 r4 FUEL [] 0 : Option ((List Int))).bind fun v30 => (depgraph_sort.l1 r4 FUEL r4.2 v30 [] : Option ((List Int))).bind fun v75 => some v75
set_option maxRecDepth 100000 in
set_option maxHeartbeats 4000000 in
theorem depgraph_sort.calls {p0 : Int} {p1 : List api_Link} {A1 : Option Addr} {cap1 : Nat} {C1 : Nat → Prop} {w : World} {g : Nat → Nat} {out : (List Int)} (N : Nat) (r0 : Nat) (hp1 : RdS kd_api_Link w g C1 A1 cap1 p1) (hC1 : ∀ c, C1 c → c < N) (hr0 : r0 + 2 ≤ N) (H : depgraph_sort.f p0 p1 = some out) :
    Calls Try.prog 45 #[.int .i64 p0, .slice A1 p1.length cap1] w (fun e w' => ∃ v, e = .returned v ∧ ∃ (g' : Nat → Nat) (A_r0 : Option Addr) (cap_r0 : Nat), v = .slice A_r0 out.length cap_r0 ∧ OwS (kint .i64) 3 w' g' r0 A_r0 cap_r0 out ∧ Fr (fun q => (r0 ≤ q ∧ q < r0 + 2) ∨ N ≤ q) w g w' g') := by
  unfold depgraph_sort.f at H
  refine calls_enter Try.func45 rfl Try.ntmps45 rfl (fun a hS => ?_)
  replace hS : Sl 76 a [(0, .int .i64 p0), (1, .slice A1 p1.length cap1)] := hS
  have hF : Fr (fun q => (r0 ≤ q ∧ q < r0 + 2) ∨ N ≤ q) w g w g := Fr.refl _ _ _
  refine c_pure [(0, .int .i64 p0), (1, .slice A1 p1.length cap1)] (fun R hR => st_val hS rfl rfl rfl (r_assign hS rfl rfl) fun a1 hS1 => wpList_nil (hR _ (hS1.re ⟨rfl, rfl, trivial⟩))) ?_
  clear hS
  clear a
  intro a hS
  obtain ⟨r4, hr5, H⟩ := bind_el H
  refine c_region (fun K hK => ?_)
  refine st_val hS rfl rfl rfl (r_move hS rfl rfl) fun a2 hS2 => st_val hS2 rfl rfl rfl (r_move hS2 rfl rfl) fun a3 hS3 => ?_
  refine st_enter hS3 rfl rfl rfl (r_call hS3 rfl rfl (by kernel_rfl)) (depgraph_adjacent.calls (C1 := C1) (p0 := p0) (p1 := p1) (g := g) (N + 11) (N + 0) (N + 2) hp1 (fun q (hq : C1 q) => by have := hC1 q hq; omega) (by omega) (by omega) (by omega) hr5) ?_
  rintro _ a14 w15 ⟨g15, A6, cap7, A10, cap11, rfl, h8, h12, F15⟩ hS14
  replace hp1 := RdS.fr hp1 F15 (by decide) (fun q (hq : C1 q) (hm : (N + 0 ≤ q ∧ q < N + 0 + 2) ∨ (N + 2 ≤ q ∧ q < N + 2 + 2) ∨ N + 11 ≤ q) => by have := hC1 q hq; omega)
  replace hF := hF.trans F15 (fun c' (hm : (N + 0 ≤ c' ∧ c' < N + 0 + 2) ∨ (N + 2 ≤ c' ∧ c' < N + 2 + 2) ∨ N + 11 ≤ c') => by show (r0 ≤ c' ∧ c' < r0 + 2) ∨ N ≤ c'; omega)
  refine st_val hS14 rfl rfl rfl (r_move hS14 rfl rfl) fun a16 hS16 => st_val hS16 rfl rfl rfl (r_extract hS16 rfl rfl rfl) fun a17 hS17 => st_val hS17 rfl rfl rfl (r_extract hS17 rfl rfl rfl) fun a18 hS18 => st_val hS18 rfl rfl rfl (r_assign hS18 rfl rfl) fun a19 hS19 => st_val hS19 rfl rfl rfl (r_assign hS19 rfl rfl) fun a20 hS20 => wpList_nil (hK _ _ ?_)
  replace hS : Sl 76 _ [(5, .slice A6 r4.1.length cap7), (6, .slice A10 r4.2.length cap11)] := hS20.re ⟨rfl, rfl, trivial⟩
  clear hK K
  try clear hS2 hS3 hS14 hS16 hS17 hS18 hS19 hS20
  obtain ⟨a, ha⟩ : ∃ a', a' = a20 := ⟨_, rfl⟩
  rw [← ha] at hS ⊢; clear ha
  refine c_region (fun K hK => ?_)
  refine st_eff hS rfl rfl rfl (e_alloc (cs := [.slice none 0 0]) (N + 4) g15 hS rfl (by kernel_rfl)) ?_
  rintro _ a24 w25 g25 ⟨⟨b21, rfl, h22⟩, F25⟩ hS24
  replace h12 := OwS.fr h12 F25 (fun _ _ h => h)
  replace h8 := OwS.fr h8 F25 (fun _ _ h => h)
  replace hF := hF.trans F25 (fun _ h => h.elim)
  refine wpList_nil (hK _ _ ?_)
  replace hS : Sl 76 _ [(5, .slice A6 r4.1.length cap7), (6, .slice A10 r4.2.length cap11), (7, .pointer (some ⟨b21, 0, none⟩))] := hS24.re ⟨rfl, rfl, rfl, trivial⟩
  clear hK K
  try clear hS24
  obtain ⟨a, ha⟩ : ∃ a', a' = a24 := ⟨_, rfl⟩
  rw [← ha] at hS ⊢; clear ha
  obtain ⟨v30, H, Hl32⟩ := bind_el H
  refine c_cut (fun a w26 => ∃ (g26 : Nat → Nat), ∃ (A27 : Option Addr), ∃ (cap28 : Nat), Sl 76 a [(5, .slice A6 r4.1.length cap7), (6, .slice A10 r4.2.length cap11), (7, .pointer (some ⟨b21, 0, none⟩))] ∧ OwS (kint .i64) 3 w26 g26 (N + 2) A10 cap11 r4.2 ∧ Bx w26 g26 (N + 4) b21 120 [.slice A27 v30.length cap28] ∧ OwS (kslice (kint .i64) (by decide)) 45 w26 g26 (N + 0) A6 cap7 r4.1 ∧ OwS (kint .i64) 3 w26 g26 (N + 4 + 1) A27 cap28 v30 ∧ Fr (fun q => (r0 ≤ q ∧ q < r0 + 2) ∨ N ≤ q) w g w26 g26) ?_ ?_
  · refine c_pure [(5, .slice A6 r4.1.length cap7), (6, .slice A10 r4.2.length cap11), (7, .pointer (some ⟨b21, 0, none⟩)), (21, .slice A10 r4.2.length cap11), (22, .int .i64 (r4.2.length : Int)), (23, .int .i64 0)] (fun R hR => st_val hS rfl rfl rfl (r_move hS rfl rfl) fun a33 hS33 => st_val hS33 rfl rfl rfl (r_len (e := 3) (sz := 1) (by_ := 8) hS33 rfl rfl (by kernel_rfl)) fun a34 hS34 => st_val hS34 rfl rfl rfl (r_move hS34 rfl rfl) fun a35 hS35 => wpList_nil (hR _ (hS35.re ⟨rfl, rfl, rfl, rfl, rfl, rfl, trivial⟩))) ?_
    clear hS
    clear a
    intro a hS
    refine wp_block ?_
    refine wp_loop_ghost (fun kq => fun a w36 => ∃ (m0_0 : List Int), ∃ (m0_1 : Int), ∃ (g36 : Nat → Nat), ∃ (A37 : Option Addr), ∃ (cap38 : Nat), depgraph_sort.l0 r4 kq m0_0 m0_1 = some v30 ∧ Sl 76 a [(5, .slice A6 r4.1.length cap7), (6, .slice A10 r4.2.length cap11), (7, .pointer (some ⟨b21, 0, none⟩)), (21, .slice A10 r4.2.length cap11), (22, .int .i64 (r4.2.length : Int)), (23, .int .i64 m0_1)] ∧ OwS (kint .i64) 3 w36 g36 (N + 2) A10 cap11 r4.2 ∧ Bx w36 g36 (N + 4) b21 120 [.slice A37 m0_0.length cap38] ∧ OwS (kslice (kint .i64) (by decide)) 45 w36 g36 (N + 0) A6 cap7 r4.1 ∧ OwS (kint .i64) 3 w36 g36 (N + 4 + 1) A37 cap38 m0_0 ∧ Fr (fun q => (r0 ≤ q ∧ q < r0 + 2) ∨ N ≤ q) w g w36 g36) FUEL ?_ ?_
    · exact ⟨[], 0, g25, none, 0, H, hS.re ⟨rfl, rfl, rfl, rfl, rfl, rfl, trivial⟩, h12, h22, h8, OwS.nil (kint .i64) 3 w25 g25 (N + 4 + 1), hF⟩
    · clear H
      clear h8 h12 h22 hF
      clear hS
      rintro k40 a w36 ⟨m0_0, m0_1, g36, A37, cap38, hpre0, hS, h12, h22, h8, h39, hF⟩
      have H := hpre0
      clear hpre0
      cases k40 with
      | zero => exact absurd H (by simp [depgraph_sort.l0])
      | succ k40 =>
        rw [depgraph_sort.l0] at H
        refine c_pure [(5, .slice A6 r4.1.length cap7), (6, .slice A10 r4.2.length cap11), (7, .pointer (some ⟨b21, 0, none⟩)), (21, .slice A10 r4.2.length cap11), (22, .int .i64 (r4.2.length : Int)), (23, .int .i64 m0_1), (24, .bool (decide (m0_1 < (r4.2.length : Int))))] (fun R hR => st_val hS rfl rfl rfl (r_bin hS rfl rfl rfl b_lss) fun a41 hS41 => wpList_nil (hR _ (hS41.re ⟨rfl, rfl, rfl, rfl, rfl, rfl, rfl, trivial⟩))) ?_
        clear hS
        clear a
        intro a hS
        refine c_if hS rfl (fun hb42 => ?_) (fun hb42 => ?_)
        · replace H := ite_t hb42 H
          refine wp_skip ?_
          change Code.wp _ _ _ _ _
          obtain ⟨v46, H, Hl48⟩ := bind_el H
          refine c_cut (fun a w43 => ∃ (g43 : Nat → Nat), ∃ (A44 : Option Addr), ∃ (cap45 : Nat), Sl 76 a [(5, .slice A6 r4.1.length cap7), (6, .slice A10 r4.2.length cap11), (7, .pointer (some ⟨b21, 0, none⟩)), (21, .slice A10 r4.2.length cap11), (22, .int .i64 (r4.2.length : Int)), (23, .int .i64 m0_1)] ∧ OwS (kint .i64) 3 w43 g43 (N + 2) A10 cap11 r4.2 ∧ Bx w43 g43 (N + 4) b21 120 [.slice A44 v46.length cap45] ∧ OwS (kslice (kint .i64) (by decide)) 45 w43 g43 (N + 0) A6 cap7 r4.1 ∧ OwS (kint .i64) 3 w43 g43 (N + 4 + 1) A44 cap45 v46 ∧ Fr (fun q => (r0 ≤ q ∧ q < r0 + 2) ∨ N ≤ q) w g w43 g43) ?_ ?_
          · refine wp_block ?_
            obtain ⟨x50, hx51, H⟩ := bind_el H
            refine c_pure [(5, .slice A6 r4.1.length cap7), (6, .slice A10 r4.2.length cap11), (7, .pointer (some ⟨b21, 0, none⟩)), (8, .int .i64 m0_1), (9, .int .i64 x50), (21, .slice A10 r4.2.length cap11), (22, .int .i64 (r4.2.length : Int)), (23, .int .i64 m0_1)] (fun R hR => st_val hS rfl rfl rfl (r_move hS rfl rfl) fun a49 hS49 => st_val hS49 rfl rfl rfl (r_index (e := 3) (sz := 1) (by_ := 8) hS49 rfl rfl rfl (by kernel_rfl) (RdS.some_ (OwS.rd h12) hx51) (idx_lo hx51) (idx_hi hx51)) fun a52 hS52 => st_val hS52 rfl rfl rfl (r_load1 (n := 1) hS52 rfl rfl (by kernel_rfl) (RdS.cell (i := m0_1) (sz := 1) (j := 0) (OwS.rd h12) hx51 rfl)) fun a53 hS53 => st_val hS53 rfl rfl rfl (r_assign hS53 rfl rfl) fun a54 hS54 => st_val hS54 rfl rfl rfl (r_assign hS54 rfl rfl) fun a55 hS55 => wpList_nil (hR _ (hS55.re ⟨rfl, rfl, rfl, rfl, rfl, rfl, rfl, rfl, trivial⟩))) ?_
            clear hS
            clear a
            intro a hS
            refine c_pure [(5, .slice A6 r4.1.length cap7), (6, .slice A10 r4.2.length cap11), (7, .pointer (some ⟨b21, 0, none⟩)), (8, .int .i64 m0_1), (21, .slice A10 r4.2.length cap11), (22, .int .i64 (r4.2.length : Int)), (23, .int .i64 m0_1), (29, .bool (x50 == 0))] (fun R hR => st_val hS rfl rfl rfl (r_move hS rfl rfl) fun a56 hS56 => st_val hS56 rfl rfl rfl (r_bin hS56 rfl rfl rfl b_eql) fun a57 hS57 => wpList_nil (hR _ (hS57.re ⟨rfl, rfl, rfl, rfl, rfl, rfl, rfl, rfl, trivial⟩))) ?_
            clear hS
            clear a
            intro a hS
            refine c_cond hS rfl (fun hb58 => ?_) (fun hb58 => ?_)
            · replace H := ite_t hb58 H
              obtain ⟨r62, hr63, H⟩ := bind_el H
              refine c_region1 (fun K hK => ?_)
              refine st_val hS rfl rfl rfl (r_mkif hS rfl rfl (by kernel_rfl)) fun a59 hS59 => st_val hS59 rfl rfl rfl (r_move hS59 rfl rfl) fun a60 hS60 => st_val hS60 rfl rfl rfl (r_mkif hS60 rfl rfl (by kernel_rfl)) fun a61 hS61 => ?_
              refine st_enter hS61 rfl rfl rfl (r_call hS61 rfl rfl (by kernel_rfl)) (heap_Push.calls (c0 := N + 4) (b_p0 := b21) (A_q_p0 := A37) (cap_q_p0 := cap38) (p0 := (depgraph_queue.mk m0_0)) (p1 := m0_1) (g := g36) (N + 11)  ⟨h22, h39⟩ (by omega) hr63) ?_
              rintro _ a66 w67 ⟨g67, A64, cap65, rfl, ⟨h22, h39⟩, F67⟩ hS66
              replace h12 := OwS.fr h12 F67 (fun c' hc (hm : (N + 4 ≤ c' ∧ c' < N + 4 + 3) ∨ N + 11 ≤ c') => by omega)
              replace h8 := OwS.fr h8 F67 (fun c' hc (hm : (N + 4 ≤ c' ∧ c' < N + 4 + 3) ∨ N + 11 ≤ c') => by omega)
              replace hF := hF.trans F67 (fun c' (hm : (N + 4 ≤ c' ∧ c' < N + 4 + 3) ∨ N + 11 ≤ c') => by show (r0 ≤ c' ∧ c' < r0 + 2) ∨ N ≤ c'; omega)
              refine wpList_nil (hK _ _ ?_)
              replace hS : Sl 76 _ [(5, .slice A6 r4.1.length cap7), (6, .slice A10 r4.2.length cap11), (7, .pointer (some ⟨b21, 0, none⟩)), (21, .slice A10 r4.2.length cap11), (22, .int .i64 (r4.2.length : Int)), (23, .int .i64 m0_1)] := hS66.re ⟨rfl, rfl, rfl, rfl, rfl, rfl, trivial⟩
              clear hK K
              try clear hS59 hS60 hS61 hS66
              obtain ⟨a, ha⟩ : ∃ a', a' = a66 := ⟨_, rfl⟩
              rw [← ha] at hS ⊢; clear ha
              have e := Option.some.inj H
              subst e
              exact ⟨g67, A64, cap65, hS.re ⟨rfl, rfl, rfl, rfl, rfl, rfl, trivial⟩, h12, h22, h8, h39, hF⟩
            · replace H := ite_f hb58 H
              refine wp_skip ?_
              have e := Option.some.inj H
              subst e
              exact ⟨g36, A37, cap38, hS.re ⟨rfl, rfl, rfl, rfl, rfl, rfl, trivial⟩, h12, h22, h8, h39, hF⟩
          · clear H
            clear h8 h12 h22 h39 hF
            clear hS
            rintro a w43 ⟨g43, A44, cap45, hS, h12, h22, h8, h39, hF⟩
            have H := Hl48
            clear Hl48
            refine c_pure1 [(5, .slice A6 r4.1.length cap7), (6, .slice A10 r4.2.length cap11), (7, .pointer (some ⟨b21, 0, none⟩)), (21, .slice A10 r4.2.length cap11), (22, .int .i64 (r4.2.length : Int)), (23, .int .i64 (wi (m0_1 + 1)))] (fun R hR => st_val hS rfl rfl rfl (r_bin hS rfl rfl rfl b_add) fun a68 hS68 => st_val hS68 rfl rfl rfl (r_move hS68 rfl rfl) fun a69 hS69 => wpList_nil (hR _ (hS69.re ⟨rfl, rfl, rfl, rfl, rfl, rfl, trivial⟩))) ?_
            clear hS
            clear a
            intro a hS
            refine ⟨k40, Nat.lt_succ_self _, ?_⟩
            exact ⟨v46, wi (m0_1 + 1), g43, A44, cap45, H, hS.re ⟨rfl, rfl, rfl, rfl, rfl, rfl, trivial⟩, h12, h22, h8, h39, hF⟩
        · replace H := ite_f hb42 H
          refine wp_exit ?_
          have e := Option.some.inj H
          subst e
          exact ⟨g36, A37, cap38, hS.re ⟨rfl, rfl, rfl, trivial⟩, h12, h22, h8, h39, hF⟩
  · clear H
    clear h8 h12 h22 hF
    clear hS
    rintro a w26 ⟨g26, A27, cap28, hS, h12, h22, h8, h29, hF⟩
    have H := Hl32
    clear Hl32
    refine c_pure [(5, .slice A6 r4.1.length cap7), (6, .slice A10 r4.2.length cap11), (7, .pointer (some ⟨b21, 0, none⟩)), (10, .slice none 0 0)] (fun R hR => st_val hS rfl rfl rfl (r_assign hS rfl rfl) fun a70 hS70 => wpList_nil (hR _ (hS70.re ⟨rfl, rfl, rfl, rfl, trivial⟩))) ?_
    clear hS
    clear a
    intro a hS
    obtain ⟨v75, H, Hl77⟩ := bind_el H
    refine c_cut (fun a w71 => ∃ (g71 : Nat → Nat), ∃ (A72 : Option Addr), ∃ (cap73 : Nat), Sl 76 a [(10, .slice A72 v75.length cap73)] ∧ OwS (kint .i64) 3 w71 g71 (N + 9) A72 cap73 v75 ∧ Fr (fun q => (r0 ≤ q ∧ q < r0 + 2) ∨ N ≤ q) w g w71 g71) ?_ ?_
    · refine wp_block ?_
      refine wp_loop_ghost (fun kq => fun a w78 => ∃ (m1_0 : List Int), ∃ (m1_1 : List Int), ∃ (m1_2 : List Int), ∃ (g78 : Nat → Nat), ∃ (A79 : Option Addr), ∃ (cap80 : Nat), ∃ (A81 : Option Addr), ∃ (cap82 : Nat), depgraph_sort.l1 r4 kq m1_0 m1_1 m1_2 = some v75 ∧ Sl 76 a [(5, .slice A6 r4.1.length cap7), (6, .slice A10 m1_0.length cap11), (7, .pointer (some ⟨b21, 0, none⟩)), (10, .slice A81 m1_2.length cap82)] ∧ OwS (kint .i64) 3 w78 g78 (N + 2) A10 cap11 m1_0 ∧ Bx w78 g78 (N + 4) b21 120 [.slice A79 m1_1.length cap80] ∧ OwS (kslice (kint .i64) (by decide)) 45 w78 g78 (N + 0) A6 cap7 r4.1 ∧ OwS (kint .i64) 3 w78 g78 (N + 4 + 1) A79 cap80 m1_1 ∧ OwS (kint .i64) 3 w78 g78 (N + 9) A81 cap82 m1_2 ∧ Fr (fun q => (r0 ≤ q ∧ q < r0 + 2) ∨ N ≤ q) w g w78 g78) FUEL ?_ ?_
      · exact ⟨r4.2, v30, [], g26, A27, cap28, none, 0, H, hS.re ⟨rfl, rfl, rfl, rfl, trivial⟩, h12, h22, h8, h29, OwS.nil (kint .i64) 3 w26 g26 (N + 9), hF⟩
      · clear H
        clear h8 h12 h22 h29 hF
        clear hS
        rintro k84 a w78 ⟨m1_0, m1_1, m1_2, g78, A79, cap80, A81, cap82, hpre0, hS, h12, h22, h8, h29, h83, hF⟩
        have H := hpre0
        clear hpre0
        cases k84 with
        | zero => exact absurd H (by simp [depgraph_sort.l1])
        | succ k84 =>
          rw [depgraph_sort.l1] at H
          refine wp_seq ?_
          refine c_pure [(5, .slice A6 r4.1.length cap7), (6, .slice A10 m1_0.length cap11), (7, .pointer (some ⟨b21, 0, none⟩)), (10, .slice A81 m1_2.length cap82), (37, .bool (decide (0 < (m1_1.length : Int))))] (fun R hR => st_val hS rfl rfl rfl (r_load1 (n := 1) hS rfl rfl (by kernel_rfl) (Bx.cell h22 rfl)) fun a85 hS85 => st_val hS85 rfl rfl rfl (r_len (e := 3) (sz := 1) (by_ := 8) hS85 rfl rfl (by kernel_rfl)) fun a86 hS86 => st_val hS86 rfl rfl rfl (r_bin hS86 rfl rfl rfl b_gtr) fun a87 hS87 => wpList_nil (hR _ (hS87.re ⟨rfl, rfl, rfl, rfl, rfl, trivial⟩))) ?_
          clear hS
          clear a
          intro a hS
          refine c_cond hS rfl (fun hb88 => ?_) (fun hb88 => ?_)
          · replace H := ite_t hb88 H
            refine wp_skip ?_
            change Code.wp _ _ _ _ _
            obtain ⟨o96, H, Hl97⟩ := bind_el H
            refine c_cut1 (fun a w89 => ∃ (v95 : (List Int) × (List Int) × (List Int)), ∃ (g89 : Nat → Nat), ∃ (A90 : Option Addr), ∃ (cap91 : Nat), ∃ (A92 : Option Addr), ∃ (cap93 : Nat), o96 = .nxt v95 ∧ Sl 76 a [(5, .slice A6 r4.1.length cap7), (6, .slice A10 v95.1.length cap11), (7, .pointer (some ⟨b21, 0, none⟩)), (10, .slice A92 v95.2.2.length cap93)] ∧ OwS (kint .i64) 3 w89 g89 (N + 2) A10 cap11 v95.1 ∧ Bx w89 g89 (N + 4) b21 120 [.slice A90 v95.2.1.length cap91] ∧ OwS (kslice (kint .i64) (by decide)) 45 w89 g89 (N + 0) A6 cap7 r4.1 ∧ OwS (kint .i64) 3 w89 g89 (N + 4 + 1) A90 cap91 v95.2.1 ∧ OwS (kint .i64) 3 w89 g89 (N + 9) A92 cap93 v95.2.2 ∧ Fr (fun q => (r0 ≤ q ∧ q < r0 + 2) ∨ N ≤ q) w g w89 g89) ?_ ?_
            · refine wp_block ?_
              obtain ⟨r99, hr100, H⟩ := bind_el H
              refine c_region (fun K hK => ?_)
              refine st_val hS rfl rfl rfl (r_mkif hS rfl rfl (by kernel_rfl)) fun a98 hS98 => ?_
              refine st_enter hS98 rfl rfl rfl (r_call hS98 rfl rfl (by kernel_rfl)) (heap_Pop.calls (c0 := N + 4) (b_p0 := b21) (A_q_p0 := A79) (cap_q_p0 := cap80) (p0 := (depgraph_queue.mk m1_1)) (g := g78) (N + 11)  ⟨h22, h29⟩ (by omega) hr100) ?_
              rintro _ a103 w104 ⟨g104, A101, cap102, rfl, ⟨h22, h29⟩, F104⟩ hS103
              replace h12 := OwS.fr h12 F104 (fun c' hc (hm : (N + 4 ≤ c' ∧ c' < N + 4 + 3) ∨ N + 11 ≤ c') => by omega)
              replace h8 := OwS.fr h8 F104 (fun c' hc (hm : (N + 4 ≤ c' ∧ c' < N + 4 + 3) ∨ N + 11 ≤ c') => by omega)
              replace h83 := OwS.fr h83 F104 (fun c' hc (hm : (N + 4 ≤ c' ∧ c' < N + 4 + 3) ∨ N + 11 ≤ c') => by omega)
              replace hF := hF.trans F104 (fun c' (hm : (N + 4 ≤ c' ∧ c' < N + 4 + 3) ∨ N + 11 ≤ c') => by show (r0 ≤ c' ∧ c' < r0 + 2) ∨ N ≤ c'; omega)
              refine st_val hS103 rfl rfl rfl (r_assert hS103 rfl rfl (by kernel_rfl)) fun a105 hS105 => st_val hS105 rfl rfl rfl (r_move hS105 rfl rfl) fun a106 hS106 => st_val hS106 rfl rfl rfl (r_extract hS106 rfl rfl rfl) fun a107 hS107 => st_val hS107 rfl rfl rfl (r_extract hS107 rfl rfl rfl) fun a108 hS108 => st_val hS108 rfl rfl rfl (r_assign hS108 rfl rfl) fun a109 hS109 => st_val hS109 rfl rfl rfl (r_assign hS109 rfl rfl) fun a110 hS110 => wpList_nil (hK _ _ ?_)
              replace hS : Sl 76 _ [(5, .slice A6 r4.1.length cap7), (6, .slice A10 m1_0.length cap11), (7, .pointer (some ⟨b21, 0, none⟩)), (10, .slice A81 m1_2.length cap82), (11, .int .i64 r99.2), (12, .bool true)] := hS110.re ⟨rfl, rfl, rfl, rfl, rfl, rfl, trivial⟩
              clear hK K
              try clear hS98 hS103 hS105 hS106 hS107 hS108 hS109 hS110
              obtain ⟨a, ha⟩ : ∃ a', a' = a110 := ⟨_, rfl⟩
              rw [← ha] at hS ⊢; clear ha
              refine wp_seq ?_
              refine c_pure [(5, .slice A6 r4.1.length cap7), (6, .slice A10 m1_0.length cap11), (7, .pointer (some ⟨b21, 0, none⟩)), (10, .slice A81 m1_2.length cap82), (11, .int .i64 r99.2), (45, .bool (!true))] (fun R hR => st_val hS rfl rfl rfl (r_move hS rfl rfl) fun a111 hS111 => st_val hS111 rfl rfl rfl (r_not hS111 rfl rfl) fun a112 hS112 => wpList_nil (hR _ (hS112.re ⟨rfl, rfl, rfl, rfl, rfl, rfl, trivial⟩))) ?_
              clear hS
              clear a
              intro a hS
              refine c_cond hS rfl (fun hb113 => ?_) (fun hb113 => ?_)
              · replace H := ite_t hb113 H
                refine wp_exit ?_
                have e := Option.some.inj H
                subst e
                replace H := Fl.go_out Hl97
                have e := Option.some.inj H
                subst e
                exact ⟨g104, A81, cap82, hS.re ⟨rfl, trivial⟩, h83, hF⟩
              · replace H := ite_f hb113 H
                refine wp_skip ?_
                change Code.wp _ _ _ _ _
                obtain ⟨y121, hy122, H⟩ := bind_el H
                refine c_region (fun K hK => ?_)
                refine st_val hS rfl rfl rfl (r_move hS rfl rfl) fun a114 hS114 => st_val hS114 rfl rfl rfl (r_move hS114 rfl rfl) fun a115 hS115 => ?_
                refine st_eff hS115 rfl rfl rfl (e_lit (e := 3) (parts := [(0, .int .i64 r99.2)]) (cs := [.int .i64 r99.2]) (kint .i64) [r99.2] (N + 7) g104 hS115 rfl rfl (fun _ => by kernel_rfl) rfl (by decide) (Rows.cons (cs := [.int .i64 r99.2]) rfl Rows.nil)) ?_
                rintro _ a119 w120 g120 ⟨⟨A116, rfl, h117⟩, F120⟩ hS119
                replace h12 := OwS.fr h12 F120 (fun _ _ h => h)
                replace h22 := h22.fr F120 (fun h => h)
                replace h8 := OwS.fr h8 F120 (fun _ _ h => h)
                replace h29 := OwS.fr h29 F120 (fun _ _ h => h)
                replace h83 := OwS.fr h83 F120 (fun _ _ h => h)
                replace hF := hF.trans F120 (fun _ h => h.elim)
                refine st_eff hS119 rfl rfl rfl (e_append (e := 3) (sz := 1) (by_ := 8) (z := [.int .i64 0]) (kd := (kint .i64)) g120 hS119 rfl rfl rfl rfl (by kernel_rfl) (by kernel_rfl) rfl rfl rfl rfl h83 (OwD.rdx h117) (fun _ _ _ h => h) hy122) ?_
                rintro _ a127 w128 g128 ⟨⟨A123, cap124, rfl, h125⟩, F128⟩ hS127
                replace h117 := OwS.fr h117 F128 (fun c' hc (hm : c' = N + 9) => by omega)
                replace h12 := OwS.fr h12 F128 (fun c' hc (hm : c' = N + 9) => by omega)
                replace h22 := h22.fr F128 (fun (hm : N + 4 = N + 9) => by omega)
                replace h8 := OwS.fr h8 F128 (fun c' hc (hm : c' = N + 9) => by omega)
                replace h29 := OwS.fr h29 F128 (fun c' hc (hm : c' = N + 9) => by omega)
                replace hF := hF.trans F128 (fun c' (hm : c' = N + 9) => by show (r0 ≤ c' ∧ c' < r0 + 2) ∨ N ≤ c'; omega)
                refine st_val hS127 rfl rfl rfl (r_assign hS127 rfl rfl) fun a129 hS129 => wpList_nil (hK _ _ ?_)
                replace hS : Sl 76 _ [(5, .slice A6 r4.1.length cap7), (6, .slice A10 m1_0.length cap11), (7, .pointer (some ⟨b21, 0, none⟩)), (10, .slice A123 y121.length cap124), (11, .int .i64 r99.2)] := hS129.re ⟨rfl, rfl, rfl, rfl, rfl, trivial⟩
                clear hK K
                try clear hS114 hS115 hS119 hS127 hS129
                obtain ⟨a, ha⟩ : ∃ a', a' = a129 := ⟨_, rfl⟩
                rw [← ha] at hS ⊢; clear ha
                obtain ⟨x132, hx133, H⟩ := bind_el H
                refine c_region (fun K hK => ?_)
                refine st_val hS rfl rfl rfl (r_move hS rfl rfl) fun a130 hS130 => st_val hS130 rfl rfl rfl (r_move hS130 rfl rfl) fun a131 hS131 => ?_
                obtain ⟨_, ⟨A135, cap136, rfl, h137⟩, hel134⟩ := El.of (OwD.rdx h8) hx133 (by decide)
                replace hel134 : El w128 g128 (fun q => q = N + 0) A6 (r99.2.toNat * 1) [.slice A135 x132.length cap136] := hel134
                refine st_val hS131 rfl rfl rfl (r_index (e := 45) (sz := 1) (by_ := 24) hS131 rfl rfl rfl (by kernel_rfl) (RdS.some_ (OwS.rd h8) hx133) (idx_lo hx133) (idx_hi hx133)) fun a140 hS140 => st_val hS140 rfl rfl rfl (r_load1 (n := 1) hS140 rfl rfl (by kernel_rfl) (El.cell (j := 0) hel134 rfl)) fun a141 hS141 => st_val hS141 rfl rfl rfl (r_len (e := 3) (sz := 1) (by_ := 8) hS141 rfl rfl (by kernel_rfl)) fun a142 hS142 => st_val hS142 rfl rfl rfl (r_move hS142 rfl rfl) fun a143 hS143 => wpList_nil (hK _ _ ?_)
                replace hS : Sl 76 _ [(5, .slice A6 r4.1.length cap7), (6, .slice A10 m1_0.length cap11), (7, .pointer (some ⟨b21, 0, none⟩)), (10, .slice A123 y121.length cap124), (53, .slice A135 x132.length cap136), (54, .int .i64 (x132.length : Int)), (55, .int .i64 0)] := hS143.re ⟨rfl, rfl, rfl, rfl, rfl, rfl, rfl, trivial⟩
                clear hK K
                try clear hS130 hS131 hS140 hS141 hS142 hS143
                obtain ⟨a, ha⟩ : ∃ a', a' = a143 := ⟨_, rfl⟩
                rw [← ha] at hS ⊢; clear ha
                refine wp_block ?_
                refine wp_loop_ghost (fun kq => fun a w144 => ∃ (m2_0 : List Int), ∃ (m2_1 : List Int), ∃ (m2_2 : Int), ∃ (g144 : Nat → Nat), ∃ (A145 : Option Addr), ∃ (cap146 : Nat), depgraph_sort.l2 y121 x132 kq m2_0 m2_1 m2_2 = some o96 ∧ Sl 76 a [(5, .slice A6 r4.1.length cap7), (6, .slice A10 m2_0.length cap11), (7, .pointer (some ⟨b21, 0, none⟩)), (10, .slice A123 y121.length cap124), (53, .slice A135 x132.length cap136), (54, .int .i64 (x132.length : Int)), (55, .int .i64 m2_2)] ∧ OwS (kint .i64) 3 w144 g144 (N + 9) A123 cap124 y121 ∧ OwS (kint .i64) 3 w144 g144 (N + 2) A10 cap11 m2_0 ∧ RdS (kint .i64) w144 g144 (fun q => q = N + 0 + 1) A135 cap136 x132 ∧ Bx w144 g144 (N + 4) b21 120 [.slice A145 m2_1.length cap146] ∧ OwS (kslice (kint .i64) (by decide)) 45 w144 g144 (N + 0) A6 cap7 r4.1 ∧ OwS (kint .i64) 3 w144 g144 (N + 4 + 1) A145 cap146 m2_1 ∧ Fr (fun q => (r0 ≤ q ∧ q < r0 + 2) ∨ N ≤ q) w g w144 g144) FUEL ?_ ?_
                · exact ⟨m1_0, r99.1.q, 0, g128, A101, cap102, H, hS.re ⟨rfl, rfl, rfl, rfl, rfl, rfl, rfl, trivial⟩, h125, h12, h137, h22, h8, h29, hF⟩
                · clear H
                  clear h8 h12 h22 h29 h125 h137 hF
                  clear hS
                  rintro k147 a w144 ⟨m2_0, m2_1, m2_2, g144, A145, cap146, hpre0, hS, h125, h12, h137, h22, h8, h29, hF⟩
                  have H := hpre0
                  clear hpre0
                  cases k147 with
                  | zero => exact absurd H (by simp [depgraph_sort.l2])
                  | succ k147 =>
                    rw [depgraph_sort.l2] at H
                    refine c_pure [(5, .slice A6 r4.1.length cap7), (6, .slice A10 m2_0.length cap11), (7, .pointer (some ⟨b21, 0, none⟩)), (10, .slice A123 y121.length cap124), (53, .slice A135 x132.length cap136), (54, .int .i64 (x132.length : Int)), (55, .int .i64 m2_2), (56, .bool (decide (m2_2 < (x132.length : Int))))] (fun R hR => st_val hS rfl rfl rfl (r_bin hS rfl rfl rfl b_lss) fun a148 hS148 => wpList_nil (hR _ (hS148.re ⟨rfl, rfl, rfl, rfl, rfl, rfl, rfl, rfl, trivial⟩))) ?_
                    clear hS
                    clear a
                    intro a hS
                    refine c_if hS rfl (fun hb149 => ?_) (fun hb149 => ?_)
                    · replace H := ite_t hb149 H
                      refine wp_skip ?_
                      change Code.wp _ _ _ _ _
                      obtain ⟨v153, H, Hl155⟩ := bind_el H
                      refine c_cut (fun a w150 => ∃ (g150 : Nat → Nat), ∃ (A151 : Option Addr), ∃ (cap152 : Nat), Sl 76 a [(5, .slice A6 r4.1.length cap7), (6, .slice A10 v153.1.length cap11), (7, .pointer (some ⟨b21, 0, none⟩)), (10, .slice A123 y121.length cap124), (53, .slice A135 x132.length cap136), (54, .int .i64 (x132.length : Int)), (55, .int .i64 m2_2)] ∧ OwS (kint .i64) 3 w150 g150 (N + 9) A123 cap124 y121 ∧ OwS (kint .i64) 3 w150 g150 (N + 2) A10 cap11 v153.1 ∧ RdS (kint .i64) w150 g150 (fun q => q = N + 0 + 1) A135 cap136 x132 ∧ Bx w150 g150 (N + 4) b21 120 [.slice A151 v153.2.length cap152] ∧ OwS (kslice (kint .i64) (by decide)) 45 w150 g150 (N + 0) A6 cap7 r4.1 ∧ OwS (kint .i64) 3 w150 g150 (N + 4 + 1) A151 cap152 v153.2 ∧ Fr (fun q => (r0 ≤ q ∧ q < r0 + 2) ∨ N ≤ q) w g w150 g150) ?_ ?_
                      · refine wp_block ?_
                        obtain ⟨x156, hx157, H⟩ := bind_el H
                        refine c_pure [(5, .slice A6 r4.1.length cap7), (6, .slice A10 m2_0.length cap11), (7, .pointer (some ⟨b21, 0, none⟩)), (10, .slice A123 y121.length cap124), (14, .int .i64 x156), (53, .slice A135 x132.length cap136), (54, .int .i64 (x132.length : Int)), (55, .int .i64 m2_2)] (fun R hR => st_val hS rfl rfl rfl (r_index (e := 3) (sz := 1) (by_ := 8) hS rfl rfl rfl (by kernel_rfl) (RdS.some_ h137 hx157) (idx_lo hx157) (idx_hi hx157)) fun a158 hS158 => st_val hS158 rfl rfl rfl (r_load1 (n := 1) hS158 rfl rfl (by kernel_rfl) (RdS.cell (i := m2_2) (sz := 1) (j := 0) h137 hx157 rfl)) fun a159 hS159 => st_val hS159 rfl rfl rfl (r_assign hS159 rfl rfl) fun a160 hS160 => wpList_nil (hR _ (hS160.re ⟨rfl, rfl, rfl, rfl, rfl, rfl, rfl, rfl, trivial⟩))) ?_
                        clear hS
                        clear a
                        intro a hS
                        obtain ⟨x163, hx164, H⟩ := bind_el H
                        refine c_region (fun K hK => ?_)
                        refine st_val hS rfl rfl rfl (r_move hS rfl rfl) fun a161 hS161 => st_val hS161 rfl rfl rfl (r_move hS161 rfl rfl) fun a162 hS162 => st_val hS162 rfl rfl rfl (r_index (e := 3) (sz := 1) (by_ := 8) hS162 rfl rfl rfl (by kernel_rfl) (RdS.some_ (OwS.rd h12) hx164) (idx_lo hx164) (idx_hi hx164)) fun a165 hS165 => st_val hS165 rfl rfl rfl (r_load1 (n := 1) hS165 rfl rfl (by kernel_rfl) (RdS.cell (i := x156) (sz := 1) (j := 0) (OwS.rd h12) hx164 rfl)) fun a166 hS166 => st_val hS166 rfl rfl rfl (r_bin hS166 rfl rfl rfl b_sub) fun a167 hS167 => st_val hS167 rfl rfl rfl (r_index (e := 3) (sz := 1) (by_ := 8) hS167 rfl rfl rfl (by kernel_rfl) (RdS.some_ (OwS.rd h12) hx164) (idx_lo hx164) (idx_hi hx164)) fun a168 hS168 => ?_
                        refine st_effS hS168 rfl rfl (e_storeE (n := 1) (bb := false) (kd := (kint .i64)) (j := 0) (x' := wi (x163 - 1)) (us := [.int .i64 (wi (x163 - 1))]) g144 hS168 rfl rfl rfl rfl (by kernel_rfl) rfl rfl (by intro v hv; simp only [List.mem_cons, List.not_mem_nil, or_false] at hv; rcases hv with rfl <;> rfl) h12 hx164 rfl (fun _ _ cs hR => by rw [show cs = _ from hR]; rfl)) ?_
                        rintro a169 w170 g170 ⟨h12, F170⟩ hS169
                        replace h125 := OwS.fr h125 F170 (fun c' hc (hm : c' = N + 2) => by omega)
                        replace h137 := RdS.fr h137 F170 (by decide) (fun q (hq : q = N + 0 + 1) (hm : q = N + 2) => by omega)
                        replace h22 := h22.fr F170 (fun (hm : N + 4 = N + 2) => by omega)
                        replace h8 := OwS.fr h8 F170 (fun c' hc (hm : c' = N + 2) => by omega)
                        replace h29 := OwS.fr h29 F170 (fun c' hc (hm : c' = N + 2) => by omega)
                        replace hF := hF.trans F170 (fun c' (hm : c' = N + 2) => by show (r0 ≤ c' ∧ c' < r0 + 2) ∨ N ≤ c'; omega)
                        have hT : Sl 76 a169 [(5, .slice A6 r4.1.length cap7), (6, .slice A10 m2_0.length cap11), (7, .pointer (some ⟨b21, 0, none⟩)), (10, .slice A123 y121.length cap124), (14, .int .i64 x156), (53, .slice A135 x132.length cap136), (54, .int .i64 (x132.length : Int)), (55, .int .i64 m2_2)] := hS169.re ⟨rfl, rfl, rfl, rfl, rfl, rfl, rfl, rfl, trivial⟩
                        replace hS169 : Sl 76 a169 [(5, .slice A6 r4.1.length cap7), (6, .slice A10 (upd m2_0 x156 (wi (x163 - 1))).length cap11), (7, .pointer (some ⟨b21, 0, none⟩)), (10, .slice A123 y121.length cap124), (14, .int .i64 x156), (53, .slice A135 x132.length cap136), (54, .int .i64 (x132.length : Int)), (55, .int .i64 m2_2)] := by simpa only [upd_length] using hT
                        clear hT
                        refine wpList_nil (hK _ _ ?_)
                        replace hS : Sl 76 _ [(5, .slice A6 r4.1.length cap7), (6, .slice A10 (upd m2_0 x156 (wi (x163 - 1))).length cap11), (7, .pointer (some ⟨b21, 0, none⟩)), (10, .slice A123 y121.length cap124), (14, .int .i64 x156), (53, .slice A135 x132.length cap136), (54, .int .i64 (x132.length : Int)), (55, .int .i64 m2_2)] := hS169.re ⟨rfl, rfl, rfl, rfl, rfl, rfl, rfl, rfl, trivial⟩
                        clear hK K
                        try clear hS161 hS162 hS165 hS166 hS167 hS168 hS169
                        obtain ⟨a, ha⟩ : ∃ a', a' = a169 := ⟨_, rfl⟩
                        rw [← ha] at hS ⊢; clear ha
                        obtain ⟨x173, hx174, H⟩ := bind_el H
                        refine c_pure [(5, .slice A6 r4.1.length cap7), (6, .slice A10 (upd m2_0 x156 (wi (x163 - 1))).length cap11), (7, .pointer (some ⟨b21, 0, none⟩)), (10, .slice A123 y121.length cap124), (14, .int .i64 x156), (53, .slice A135 x132.length cap136), (54, .int .i64 (x132.length : Int)), (55, .int .i64 m2_2), (69, .bool (x173 == 0))] (fun R hR => st_val hS rfl rfl rfl (r_move hS rfl rfl) fun a171 hS171 => st_val hS171 rfl rfl rfl (r_move hS171 rfl rfl) fun a172 hS172 => st_val hS172 rfl rfl rfl (r_index (e := 3) (sz := 1) (by_ := 8) hS172 rfl rfl rfl (by kernel_rfl) (RdS.some_ (OwS.rd h12) hx174) (idx_lo hx174) (idx_hi hx174)) fun a175 hS175 => st_val hS175 rfl rfl rfl (r_load1 (n := 1) hS175 rfl rfl (by kernel_rfl) (RdS.cell (i := x156) (sz := 1) (j := 0) (OwS.rd h12) hx174 rfl)) fun a176 hS176 => st_val hS176 rfl rfl rfl (r_bin hS176 rfl rfl rfl b_eql) fun a177 hS177 => wpList_nil (hR _ (hS177.re ⟨rfl, rfl, rfl, rfl, rfl, rfl, rfl, rfl, rfl, trivial⟩))) ?_
                        clear hS
                        clear a
                        intro a hS
                        refine c_cond hS rfl (fun hb178 => ?_) (fun hb178 => ?_)
                        · replace H := ite_t hb178 H
                          obtain ⟨r182, hr183, H⟩ := bind_el H
                          refine c_region1 (fun K hK => ?_)
                          refine st_val hS rfl rfl rfl (r_mkif hS rfl rfl (by kernel_rfl)) fun a179 hS179 => st_val hS179 rfl rfl rfl (r_move hS179 rfl rfl) fun a180 hS180 => st_val hS180 rfl rfl rfl (r_mkif hS180 rfl rfl (by kernel_rfl)) fun a181 hS181 => ?_
                          refine st_enter hS181 rfl rfl rfl (r_call hS181 rfl rfl (by kernel_rfl)) (heap_Push.calls (c0 := N + 4) (b_p0 := b21) (A_q_p0 := A145) (cap_q_p0 := cap146) (p0 := (depgraph_queue.mk m2_1)) (p1 := x156) (g := g170) (N + 11)  ⟨h22, h29⟩ (by omega) hr183) ?_
                          rintro _ a186 w187 ⟨g187, A184, cap185, rfl, ⟨h22, h29⟩, F187⟩ hS186
                          replace h125 := OwS.fr h125 F187 (fun c' hc (hm : (N + 4 ≤ c' ∧ c' < N + 4 + 3) ∨ N + 11 ≤ c') => by omega)
                          replace h12 := OwS.fr h12 F187 (fun c' hc (hm : (N + 4 ≤ c' ∧ c' < N + 4 + 3) ∨ N + 11 ≤ c') => by omega)
                          replace h137 := RdS.fr h137 F187 (by decide) (fun q (hq : q = N + 0 + 1) (hm : (N + 4 ≤ q ∧ q < N + 4 + 3) ∨ N + 11 ≤ q) => by omega)
                          replace h8 := OwS.fr h8 F187 (fun c' hc (hm : (N + 4 ≤ c' ∧ c' < N + 4 + 3) ∨ N + 11 ≤ c') => by omega)
                          replace hF := hF.trans F187 (fun c' (hm : (N + 4 ≤ c' ∧ c' < N + 4 + 3) ∨ N + 11 ≤ c') => by show (r0 ≤ c' ∧ c' < r0 + 2) ∨ N ≤ c'; omega)
                          refine wpList_nil (hK _ _ ?_)
                          replace hS : Sl 76 _ [(5, .slice A6 r4.1.length cap7), (6, .slice A10 (upd m2_0 x156 (wi (x163 - 1))).length cap11), (7, .pointer (some ⟨b21, 0, none⟩)), (10, .slice A123 y121.length cap124), (53, .slice A135 x132.length cap136), (54, .int .i64 (x132.length : Int)), (55, .int .i64 m2_2)] := hS186.re ⟨rfl, rfl, rfl, rfl, rfl, rfl, rfl, trivial⟩
                          clear hK K
                          try clear hS179 hS180 hS181 hS186
                          obtain ⟨a, ha⟩ : ∃ a', a' = a186 := ⟨_, rfl⟩
                          rw [← ha] at hS ⊢; clear ha
                          have e := Option.some.inj H
                          subst e
                          exact ⟨g187, A184, cap185, hS.re ⟨rfl, rfl, rfl, rfl, rfl, rfl, rfl, trivial⟩, h125, h12, h137, h22, h8, h29, hF⟩
                        · replace H := ite_f hb178 H
                          refine wp_skip ?_
                          have e := Option.some.inj H
                          subst e
                          exact ⟨g170, A145, cap146, hS.re ⟨rfl, rfl, rfl, rfl, rfl, rfl, rfl, trivial⟩, h125, h12, h137, h22, h8, h29, hF⟩
                      · clear H
                        clear h8 h12 h22 h29 h125 h137 hF
                        clear hS
                        rintro a w150 ⟨g150, A151, cap152, hS, h125, h12, h137, h22, h8, h29, hF⟩
                        have H := Hl155
                        clear Hl155
                        refine c_pure1 [(5, .slice A6 r4.1.length cap7), (6, .slice A10 v153.1.length cap11), (7, .pointer (some ⟨b21, 0, none⟩)), (10, .slice A123 y121.length cap124), (53, .slice A135 x132.length cap136), (54, .int .i64 (x132.length : Int)), (55, .int .i64 (wi (m2_2 + 1)))] (fun R hR => st_val hS rfl rfl rfl (r_bin hS rfl rfl rfl b_add) fun a188 hS188 => st_val hS188 rfl rfl rfl (r_move hS188 rfl rfl) fun a189 hS189 => wpList_nil (hR _ (hS189.re ⟨rfl, rfl, rfl, rfl, rfl, rfl, rfl, trivial⟩))) ?_
                        clear hS
                        clear a
                        intro a hS
                        refine ⟨k147, Nat.lt_succ_self _, ?_⟩
                        exact ⟨v153.1, v153.2, wi (m2_2 + 1), g150, A151, cap152, H, hS.re ⟨rfl, rfl, rfl, rfl, rfl, rfl, rfl, trivial⟩, h125, h12, h137, h22, h8, h29, hF⟩
                    · replace H := ite_f hb149 H
                      refine wp_exit ?_
                      have e := Option.some.inj H
                      exact ⟨(m2_0, m2_1, y121), g144, A145, cap146, A123, cap124, e.symm, hS.re ⟨rfl, rfl, rfl, rfl, trivial⟩, h12, h22, h8, h29, h125, hF⟩
            · clear H
              clear h8 h12 h22 h29 h83 hF
              clear hS
              rintro a w89 ⟨v95, g89, A90, cap91, A92, cap93, hpre0, hS, h12, h22, h8, h29, h94, hF⟩
              subst hpre0
              have H := Fl.go_nxt Hl97
              clear Hl97
              refine ⟨k84, Nat.lt_succ_self _, ?_⟩
              exact ⟨v95.1, v95.2.1, v95.2.2, g89, A90, cap91, A92, cap93, H, hS.re ⟨rfl, rfl, rfl, rfl, trivial⟩, h12, h22, h8, h29, h94, hF⟩
          · replace H := ite_f hb88 H
            refine wp_exit ?_
            have e := Option.some.inj H
            subst e
            exact ⟨g78, A81, cap82, hS.re ⟨rfl, trivial⟩, h83, hF⟩
    · clear H
      clear h8 h12 h22 h29 hF
      clear hS
      rintro a w71 ⟨g71, A72, cap73, hS, h74, hF⟩
      have H := Hl77
      clear Hl77
      refine c_pure [(4, .slice A72 v75.length cap73)] (fun R hR => st_val hS rfl rfl rfl (r_move hS rfl rfl) fun a190 hS190 => st_val hS190 rfl rfl rfl (r_assign hS190 rfl rfl) fun a191 hS191 => wpList_nil (hR _ (hS191.re ⟨rfl, trivial⟩))) ?_
      clear hS
      clear a
      intro a hS
      refine wp_ret ?_
      have e := Option.some.inj H
      subst e
      have F192 := Fr.recol2 w71 g71 (N + 9) r0
      replace h74 := h74.recol2 r0
      replace hF := hF.trans F192 (fun c' (hm : c' = N + 9 ∨ c' = N + 9 + 1) => by show (r0 ≤ c' ∧ c' < r0 + 2) ∨ N ≤ c'; omega)
      repeat (with_reducible first | refine then_ret ?_ | refine inBlock_ret ?_)
      exact c_ret1 hS Try.results45 rfl ⟨_, rfl, (recol2 g71 (N + 9) r0), A72, cap73, rfl, h74, hF⟩


end Go.Proofs.Ythmjgadmadlpkaa.Sim

namespace Go.Proofs.Ythmjgadmadlpkaa.Sim
open Go
set_option linter.unusedVariables false
set_option linter.unusedSimpArgs false

/-! ### depgraph_validate: function 44 -/
def depgraph_validate.l0 (p0 : Int) (p1 : List api_Link) : Nat → Int → Option (Fl (Int) (Unit))
  | 0, _ => none
  | k39 + 1, m0_0 => if decide (m0_0 < (p1.length : Int)) = true then ((idx p1 m0_0).bind fun x42 => if ((((decide (x42.Consumer < 0)) || (decide (p0 ≤ x42.Consumer))) || (decide (x42.Supplier < 0))) || (decide (p0 ≤ x42.Supplier))) = true then (some (.out 1)) else (depgraph_validate.l0 p0 p1 k39 (wi (m0_0 + 1)))) else (some (.nxt ()))
def depgraph_validate.l1 (p1 : List api_Link) : Nat → (List api_Link) → Int → Option (Fl (Int) (Unit))
  | 0, _, _ => none
  | k122 + 1, m1_0, m1_1 => if decide (m1_1 < (p1.length : Int)) = true then ((idx p1 m1_1).bind fun x125 => if decide (x125 ∈ m1_0) = true then (some (.out 7)) else (depgraph_validate.l1 p1 k122 (m1_0 ++ [x125]) (wi (m1_1 + 1)))) else (some (.nxt ()))
def depgraph_validate.f (p0 : Int) (p1 : List api_Link) : Option (Int) := if (((decide (p0 < 0)) || (decide (128 < p0))) || (decide (1024 < (p1.length : Int)))) = true then (some 1) else ((depgraph_validate.l0 p0 p1 FUEL 0 : Option (Fl (Int) (Unit))).bind fun o33 => o33.go fun _ => (depgraph_validate.l1 p1 FUEL ([] : List api_Link) 0 : Option (Fl (Int) (Unit))).bind fun o116 => o116.go fun _ => some 0)
set_option maxRecDepth 100000 in
set_option maxHeartbeats 4000000 in
theorem depgraph_validate.calls {p0 : Int} {p1 : List api_Link} {A1 : Option Addr} {cap1 : Nat} {C1 : Nat → Prop} {w : World} {g : Nat → Nat} {out : Int} (N : Nat) (hp1 : RdS kd_api_Link w g C1 A1 cap1 p1) (hC1 : ∀ c, C1 c → c < N) (H : depgraph_validate.f p0 p1 = some out) :
    Calls Try.prog 44 #[.int .i64 p0, .slice A1 p1.length cap1] w (fun e w' => ∃ v, e = .returned v ∧ ∃ (g' : Nat → Nat), v = .int .i64 out ∧ Fr (fun q => N ≤ q) w g w' g') := by
  unfold depgraph_validate.f at H
  refine calls_enter Try.func44 rfl Try.ntmps44 rfl (fun a hS => ?_)
  replace hS : Sl 61 a [(0, .int .i64 p0), (1, .slice A1 p1.length cap1)] := hS
  have hF : Fr (fun q => N ≤ q) w g w g := Fr.refl _ _ _
  refine c_pure [(0, .int .i64 p0), (1, .slice A1 p1.length cap1)] (fun R hR => st_val hS rfl rfl rfl (r_assign hS rfl rfl) fun a1 hS1 => wpList_nil (hR _ (hS1.re ⟨rfl, rfl, trivial⟩))) ?_
  clear hS
  clear a
  intro a hS
  refine wp_seq ?_
  refine c_region (fun K hK => ?_)
  refine st_val hS rfl rfl rfl (r_move hS rfl rfl) fun a2 hS2 => st_val hS2 rfl rfl rfl (r_bin hS2 rfl rfl rfl b_lss) fun a3 hS3 => st_val hS3 rfl rfl rfl (r_move hS3 rfl rfl) fun a4 hS4 => ?_
  refine g_join (N := 61) 3 [(0, .int .i64 p0), (1, .slice A1 p1.length cap1), (15, .bool ((decide (p0 < 0)) || (decide (128 < p0))))] ?_ (fun hk => ?_)
  rotate_left
  · rcases Bool.eq_false_or_eq_true (decide (p0 < 0)) with hb5 | hb5
    · refine st_off hS4 (want_off hS4 rfl rfl rfl hb5) rfl rfl fun a8 hS8 => st_off hS8 (want_off hS8 rfl rfl rfl hb5) rfl rfl fun a9 hS9 => st_val hS9 rfl rfl rfl (r_pickT hS9 rfl rfl rfl hb5) fun a10 hS10 => hk _ (hS10.re ⟨rfl, rfl, (by rw [hb5]; rfl), trivial⟩)
    · refine st_valW hS4 (want_on hS4 rfl rfl rfl hb5) rfl rfl (r_move hS4 rfl rfl) fun a11 hS11 => st_valW hS11 (want_on hS11 rfl rfl rfl hb5) rfl rfl (r_bin hS11 rfl rfl rfl b_gtr) fun a12 hS12 => st_val hS12 rfl rfl rfl (r_pickF hS12 rfl rfl rfl hb5) fun a13 hS13 => hk _ (hS13.re ⟨rfl, rfl, (by rw [hb5]; rfl), trivial⟩)
  intro a14 hS14
  refine st_val hS14 rfl rfl rfl (r_move hS14 rfl rfl) fun a15 hS15 => ?_
  refine g_join (N := 61) 4 [(0, .int .i64 p0), (1, .slice A1 p1.length cap1), (20, .bool (((decide (p0 < 0)) || (decide (128 < p0))) || (decide (1024 < (p1.length : Int)))))] ?_ (fun hk => ?_)
  rotate_left
  · rcases Bool.eq_false_or_eq_true (((decide (p0 < 0)) || (decide (128 < p0)))) with hb16 | hb16
    · refine st_off hS15 (want_off hS15 rfl rfl rfl hb16) rfl rfl fun a20 hS20 => st_off hS20 (want_off hS20 rfl rfl rfl hb16) rfl rfl fun a21 hS21 => st_off hS21 (want_off hS21 rfl rfl rfl hb16) rfl rfl fun a22 hS22 => st_val hS22 rfl rfl rfl (r_pickT hS22 rfl rfl rfl hb16) fun a23 hS23 => hk _ (hS23.re ⟨rfl, rfl, (by rw [hb16]; rfl), trivial⟩)
    · refine st_valW hS15 (want_on hS15 rfl rfl rfl hb16) rfl rfl (r_move hS15 rfl rfl) fun a24 hS24 => st_valW hS24 (want_on hS24 rfl rfl rfl hb16) rfl rfl (r_len (e := 43) (sz := 2) (by_ := 16) hS24 rfl rfl (by kernel_rfl)) fun a25 hS25 => st_valW hS25 (want_on hS25 rfl rfl rfl hb16) rfl rfl (r_bin hS25 rfl rfl rfl b_gtr) fun a26 hS26 => st_val hS26 rfl rfl rfl (r_pickF hS26 rfl rfl rfl hb16) fun a27 hS27 => hk _ (hS27.re ⟨rfl, rfl, (by rw [hb16]; rfl), trivial⟩)
  intro a28 hS28
  refine wpList_nil (hK _ _ ?_)
  replace hS : Sl 61 _ [(0, .int .i64 p0), (1, .slice A1 p1.length cap1), (20, .bool (((decide (p0 < 0)) || (decide (128 < p0))) || (decide (1024 < (p1.length : Int)))))] := hS28.re ⟨rfl, rfl, rfl, trivial⟩
  clear hK K
  try clear hS2 hS3 hS4 hS14 hS15 hS28
  obtain ⟨a, ha⟩ : ∃ a', a' = a28 := ⟨_, rfl⟩
  rw [← ha] at hS ⊢; clear ha
  refine c_cond hS rfl (fun hb29 => ?_) (fun hb29 => ?_)
  · replace H := ite_t hb29 H
    refine c_pure [(4, .int .i64 1)] (fun R hR => st_val hS rfl rfl rfl (r_assign hS rfl rfl) fun a30 hS30 => wpList_nil (hR _ (hS30.re ⟨rfl, trivial⟩))) ?_
    clear hS
    clear a
    intro a hS
    refine wp_ret ?_
    have e := Option.some.inj H
    subst e
    repeat (with_reducible first | refine then_ret ?_ | refine inBlock_ret ?_)
    exact c_ret1 hS Try.results44 rfl ⟨_, rfl, g, rfl, hF⟩
  · replace H := ite_f hb29 H
    refine wp_skip ?_
    change Code.wp _ _ _ _ _
    obtain ⟨o33, H, Hl34⟩ := bind_el H
    refine c_cut (fun a w31 => ∃ (g31 : Nat → Nat), o33 = .nxt () ∧ Sl 61 a [(1, .slice A1 p1.length cap1)] ∧ RdS kd_api_Link w31 g31 C1 A1 cap1 p1 ∧ Fr (fun q => N ≤ q) w g w31 g31) ?_ ?_
    · refine c_pure [(0, .int .i64 p0), (1, .slice A1 p1.length cap1), (21, .slice A1 p1.length cap1), (22, .int .i64 (p1.length : Int)), (23, .int .i64 0)] (fun R hR => st_val hS rfl rfl rfl (r_move hS rfl rfl) fun a35 hS35 => st_val hS35 rfl rfl rfl (r_len (e := 43) (sz := 2) (by_ := 16) hS35 rfl rfl (by kernel_rfl)) fun a36 hS36 => st_val hS36 rfl rfl rfl (r_move hS36 rfl rfl) fun a37 hS37 => wpList_nil (hR _ (hS37.re ⟨rfl, rfl, rfl, rfl, rfl, trivial⟩))) ?_
      clear hS
      clear a
      intro a hS
      refine wp_block ?_
      refine wp_loop_ghost (fun kq => fun a w38 => ∃ (m0_0 : Int), ∃ (g38 : Nat → Nat), depgraph_validate.l0 p0 p1 kq m0_0 = some o33 ∧ Sl 61 a [(0, .int .i64 p0), (1, .slice A1 p1.length cap1), (21, .slice A1 p1.length cap1), (22, .int .i64 (p1.length : Int)), (23, .int .i64 m0_0)] ∧ RdS kd_api_Link w38 g38 C1 A1 cap1 p1 ∧ Fr (fun q => N ≤ q) w g w38 g38) FUEL ?_ ?_
      · exact ⟨0, g, H, hS.re ⟨rfl, rfl, rfl, rfl, rfl, trivial⟩, hp1, hF⟩
      · clear H
        clear hp1 hF
        clear hS
        rintro k39 a w38 ⟨m0_0, g38, hpre0, hS, hp1, hF⟩
        have H := hpre0
        clear hpre0
        cases k39 with
        | zero => exact absurd H (by simp [depgraph_validate.l0])
        | succ k39 =>
          rw [depgraph_validate.l0] at H
          refine c_pure [(0, .int .i64 p0), (1, .slice A1 p1.length cap1), (21, .slice A1 p1.length cap1), (22, .int .i64 (p1.length : Int)), (23, .int .i64 m0_0), (24, .bool (decide (m0_0 < (p1.length : Int))))] (fun R hR => st_val hS rfl rfl rfl (r_bin hS rfl rfl rfl b_lss) fun a40 hS40 => wpList_nil (hR _ (hS40.re ⟨rfl, rfl, rfl, rfl, rfl, rfl, trivial⟩))) ?_
          clear hS
          clear a
          intro a hS
          refine c_if hS rfl (fun hb41 => ?_) (fun hb41 => ?_)
          · replace H := ite_t hb41 H
            refine wp_skip ?_
            change Code.wp _ _ _ _ _
            refine wp_seq ?_
            refine wp_block ?_
            obtain ⟨x42, hx43, H⟩ := bind_el H
            refine c_region (fun K hK => ?_)
            refine st_val hS rfl rfl rfl (r_index (e := 43) (sz := 2) (by_ := 16) hS rfl rfl rfl (by kernel_rfl) (RdS.some_ hp1 hx43) (idx_lo hx43) (idx_hi hx43)) fun a44 hS44 => st_val hS44 rfl rfl rfl (r_loadN (n := 2) (cs := [.int .i64 x42.Consumer, .int .i64 x42.Supplier]) hS44 rfl rfl (by kernel_rfl) rfl (RdS.cells_off hp1 hx43 0 2)) fun a45 hS45 => ?_
            refine st_eff hS45 rfl rfl rfl (e_alloc (cs := [.int .i64 0, .int .i64 0]) (N + 0) g38 hS45 rfl (by kernel_rfl)) ?_
            rintro _ a49 w50 g50 ⟨⟨b46, rfl, h47⟩, F50⟩ hS49
            replace hp1 := RdS.fr hp1 F50 (by decide) (fun _ _ h => h)
            replace hF := hF.trans F50 (fun _ h => h.elim)
            refine st_effS hS49 rfl rfl (e_storeB (n := 2) (bb := true) (cs' := [.int .i64 x42.Consumer, .int .i64 x42.Supplier]) g50 hS49 rfl rfl rfl (by kernel_rfl) rfl rfl rfl h47 rfl rfl) ?_
            rintro a51 w52 g52 ⟨h47, F52⟩ hS51
            replace hp1 := RdS.fr hp1 F52 (by decide) (fun q (hq : C1 q) (hm : q = N + 0) => by have := hC1 q hq; omega)
            replace hF := hF.trans F52 (fun c' (hm : c' = N + 0) => by show N ≤ c'; omega)
            refine wpList_nil (hK _ _ ?_)
            replace hS : Sl 61 _ [(0, .int .i64 p0), (1, .slice A1 p1.length cap1), (6, .pointer (some ⟨b46, 0, none⟩)), (21, .slice A1 p1.length cap1), (22, .int .i64 (p1.length : Int)), (23, .int .i64 m0_0)] := hS51.re ⟨rfl, rfl, rfl, rfl, rfl, rfl, trivial⟩
            clear hK K
            try clear hS44 hS45 hS49 hS51
            obtain ⟨a, ha⟩ : ∃ a', a' = a51 := ⟨_, rfl⟩
            rw [← ha] at hS ⊢; clear ha
            refine c_region (fun K hK => ?_)
            refine st_val hS rfl rfl rfl (r_fieldB (off := 0) hS rfl rfl (by kernel_rfl)) fun a53 hS53 => st_val hS53 rfl rfl rfl (r_load1 (n := 1) hS53 rfl rfl (by kernel_rfl) (Bx.cell h47 rfl)) fun a54 hS54 => st_val hS54 rfl rfl rfl (r_bin hS54 rfl rfl rfl b_lss) fun a55 hS55 => st_val hS55 rfl rfl rfl (r_move hS55 rfl rfl) fun a56 hS56 => ?_
            refine g_join (N := 61) 5 [(0, .int .i64 p0), (1, .slice A1 p1.length cap1), (6, .pointer (some ⟨b46, 0, none⟩)), (21, .slice A1 p1.length cap1), (22, .int .i64 (p1.length : Int)), (23, .int .i64 m0_0), (35, .bool ((decide (x42.Consumer < 0)) || (decide (p0 ≤ x42.Consumer))))] ?_ (fun hk => ?_)
            rotate_left
            · rcases Bool.eq_false_or_eq_true (decide (x42.Consumer < 0)) with hb57 | hb57
              · refine st_off hS56 (want_off hS56 rfl rfl rfl hb57) rfl rfl fun a62 hS62 => st_off hS62 (want_off hS62 rfl rfl rfl hb57) rfl rfl fun a63 hS63 => st_off hS63 (want_off hS63 rfl rfl rfl hb57) rfl rfl fun a64 hS64 => st_off hS64 (want_off hS64 rfl rfl rfl hb57) rfl rfl fun a65 hS65 => st_val hS65 rfl rfl rfl (r_pickT hS65 rfl rfl rfl hb57) fun a66 hS66 => hk _ (hS66.re ⟨rfl, rfl, rfl, rfl, rfl, rfl, (by rw [hb57]; rfl), trivial⟩)
              · refine st_valW hS56 (want_on hS56 rfl rfl rfl hb57) rfl rfl (r_fieldB (off := 0) hS56 rfl rfl (by kernel_rfl)) fun a67 hS67 => st_valW hS67 (want_on hS67 rfl rfl rfl hb57) rfl rfl (r_load1 (n := 1) hS67 rfl rfl (by kernel_rfl) (Bx.cell h47 rfl)) fun a68 hS68 => st_valW hS68 (want_on hS68 rfl rfl rfl hb57) rfl rfl (r_move hS68 rfl rfl) fun a69 hS69 => st_valW hS69 (want_on hS69 rfl rfl rfl hb57) rfl rfl (r_bin hS69 rfl rfl rfl b_geq) fun a70 hS70 => st_val hS70 rfl rfl rfl (r_pickF hS70 rfl rfl rfl hb57) fun a71 hS71 => hk _ (hS71.re ⟨rfl, rfl, rfl, rfl, rfl, rfl, (by rw [hb57]; rfl), trivial⟩)
            intro a72 hS72
            refine st_val hS72 rfl rfl rfl (r_move hS72 rfl rfl) fun a73 hS73 => ?_
            refine g_join (N := 61) 4 [(0, .int .i64 p0), (1, .slice A1 p1.length cap1), (6, .pointer (some ⟨b46, 0, none⟩)), (21, .slice A1 p1.length cap1), (22, .int .i64 (p1.length : Int)), (23, .int .i64 m0_0), (40, .bool (((decide (x42.Consumer < 0)) || (decide (p0 ≤ x42.Consumer))) || (decide (x42.Supplier < 0))))] ?_ (fun hk => ?_)
            rotate_left
            · rcases Bool.eq_false_or_eq_true (((decide (x42.Consumer < 0)) || (decide (p0 ≤ x42.Consumer)))) with hb74 | hb74
              · refine st_off hS73 (want_off hS73 rfl rfl rfl hb74) rfl rfl fun a78 hS78 => st_off hS78 (want_off hS78 rfl rfl rfl hb74) rfl rfl fun a79 hS79 => st_off hS79 (want_off hS79 rfl rfl rfl hb74) rfl rfl fun a80 hS80 => st_val hS80 rfl rfl rfl (r_pickT hS80 rfl rfl rfl hb74) fun a81 hS81 => hk _ (hS81.re ⟨rfl, rfl, rfl, rfl, rfl, rfl, (by rw [hb74]; rfl), trivial⟩)
              · refine st_valW hS73 (want_on hS73 rfl rfl rfl hb74) rfl rfl (r_fieldB (off := 1) hS73 rfl rfl (by kernel_rfl)) fun a82 hS82 => st_valW hS82 (want_on hS82 rfl rfl rfl hb74) rfl rfl (r_load1 (n := 1) hS82 rfl rfl (by kernel_rfl) (Bx.cell h47 rfl)) fun a83 hS83 => st_valW hS83 (want_on hS83 rfl rfl rfl hb74) rfl rfl (r_bin hS83 rfl rfl rfl b_lss) fun a84 hS84 => st_val hS84 rfl rfl rfl (r_pickF hS84 rfl rfl rfl hb74) fun a85 hS85 => hk _ (hS85.re ⟨rfl, rfl, rfl, rfl, rfl, rfl, (by rw [hb74]; rfl), trivial⟩)
            intro a86 hS86
            refine st_val hS86 rfl rfl rfl (r_move hS86 rfl rfl) fun a87 hS87 => ?_
            refine g_join (N := 61) 5 [(0, .int .i64 p0), (1, .slice A1 p1.length cap1), (21, .slice A1 p1.length cap1), (22, .int .i64 (p1.length : Int)), (23, .int .i64 m0_0), (46, .bool ((((decide (x42.Consumer < 0)) || (decide (p0 ≤ x42.Consumer))) || (decide (x42.Supplier < 0))) || (decide (p0 ≤ x42.Supplier))))] ?_ (fun hk => ?_)
            rotate_left
            · rcases Bool.eq_false_or_eq_true ((((decide (x42.Consumer < 0)) || (decide (p0 ≤ x42.Consumer))) || (decide (x42.Supplier < 0)))) with hb88 | hb88
              · refine st_off hS87 (want_off hS87 rfl rfl rfl hb88) rfl rfl fun a93 hS93 => st_off hS93 (want_off hS93 rfl rfl rfl hb88) rfl rfl fun a94 hS94 => st_off hS94 (want_off hS94 rfl rfl rfl hb88) rfl rfl fun a95 hS95 => st_off hS95 (want_off hS95 rfl rfl rfl hb88) rfl rfl fun a96 hS96 => st_val hS96 rfl rfl rfl (r_pickT hS96 rfl rfl rfl hb88) fun a97 hS97 => hk _ (hS97.re ⟨rfl, rfl, rfl, rfl, rfl, (by rw [hb88]; rfl), trivial⟩)
              · refine st_valW hS87 (want_on hS87 rfl rfl rfl hb88) rfl rfl (r_fieldB (off := 1) hS87 rfl rfl (by kernel_rfl)) fun a98 hS98 => st_valW hS98 (want_on hS98 rfl rfl rfl hb88) rfl rfl (r_load1 (n := 1) hS98 rfl rfl (by kernel_rfl) (Bx.cell h47 rfl)) fun a99 hS99 => st_valW hS99 (want_on hS99 rfl rfl rfl hb88) rfl rfl (r_move hS99 rfl rfl) fun a100 hS100 => st_valW hS100 (want_on hS100 rfl rfl rfl hb88) rfl rfl (r_bin hS100 rfl rfl rfl b_geq) fun a101 hS101 => st_val hS101 rfl rfl rfl (r_pickF hS101 rfl rfl rfl hb88) fun a102 hS102 => hk _ (hS102.re ⟨rfl, rfl, rfl, rfl, rfl, (by rw [hb88]; rfl), trivial⟩)
            intro a103 hS103
            refine wpList_nil (hK _ _ ?_)
            replace hS : Sl 61 _ [(0, .int .i64 p0), (1, .slice A1 p1.length cap1), (21, .slice A1 p1.length cap1), (22, .int .i64 (p1.length : Int)), (23, .int .i64 m0_0), (46, .bool ((((decide (x42.Consumer < 0)) || (decide (p0 ≤ x42.Consumer))) || (decide (x42.Supplier < 0))) || (decide (p0 ≤ x42.Supplier))))] := hS103.re ⟨rfl, rfl, rfl, rfl, rfl, rfl, trivial⟩
            clear hK K
            try clear hS53 hS54 hS55 hS56 hS72 hS73 hS86 hS87 hS103
            obtain ⟨a, ha⟩ : ∃ a', a' = a103 := ⟨_, rfl⟩
            rw [← ha] at hS ⊢; clear ha
            refine c_cond hS rfl (fun hb104 => ?_) (fun hb104 => ?_)
            · replace H := ite_t hb104 H
              refine c_pure [(4, .int .i64 1)] (fun R hR => st_val hS rfl rfl rfl (r_assign hS rfl rfl) fun a105 hS105 => wpList_nil (hR _ (hS105.re ⟨rfl, trivial⟩))) ?_
              clear hS
              clear a
              intro a hS
              refine wp_ret ?_
              have e := Option.some.inj H
              subst e
              replace H := Fl.go_out Hl34
              have e := Option.some.inj H
              subst e
              repeat (with_reducible first | refine then_ret ?_ | refine inBlock_ret ?_)
              exact c_ret1 hS Try.results44 rfl ⟨_, rfl, g52, rfl, hF⟩
            · replace H := ite_f hb104 H
              refine wp_skip ?_
              change Code.wp _ _ _ _ _
              refine c_pure1 [(0, .int .i64 p0), (1, .slice A1 p1.length cap1), (21, .slice A1 p1.length cap1), (22, .int .i64 (p1.length : Int)), (23, .int .i64 (wi (m0_0 + 1)))] (fun R hR => st_val hS rfl rfl rfl (r_bin hS rfl rfl rfl b_add) fun a106 hS106 => st_val hS106 rfl rfl rfl (r_move hS106 rfl rfl) fun a107 hS107 => wpList_nil (hR _ (hS107.re ⟨rfl, rfl, rfl, rfl, rfl, trivial⟩))) ?_
              clear hS
              clear a
              intro a hS
              refine ⟨k39, Nat.lt_succ_self _, ?_⟩
              exact ⟨wi (m0_0 + 1), g52, H, hS.re ⟨rfl, rfl, rfl, rfl, rfl, trivial⟩, hp1, hF⟩
          · replace H := ite_f hb41 H
            refine wp_exit ?_
            have e := Option.some.inj H
            exact ⟨g38, e.symm, hS.re ⟨rfl, trivial⟩, hp1, hF⟩
    · clear H
      clear hp1 hF
      clear hS
      rintro a w31 ⟨g31, hpre0, hS, hp1, hF⟩
      subst hpre0
      have H := Fl.go_nxt Hl34
      clear Hl34
      refine c_region (fun K hK => ?_)
      refine st_eff hS rfl rfl rfl (e_makeMap enc_api_Link (N + 2) g31 hS rfl) ?_
      rintro _ a111 w112 g112 ⟨⟨b108, rfl, h109⟩, F112⟩ hS111
      replace hp1 := RdS.fr hp1 F112 (by decide) (fun _ _ h => h)
      replace hF := hF.trans F112 (fun _ h => h.elim)
      refine st_val hS111 rfl rfl rfl (r_assign hS111 rfl rfl) fun a113 hS113 => wpList_nil (hK _ _ ?_)
      replace hS : Sl 61 _ [(1, .slice A1 p1.length cap1), (7, .map (some b108))] := hS113.re ⟨rfl, rfl, trivial⟩
      clear hK K
      try clear hS111 hS113
      obtain ⟨a, ha⟩ : ∃ a', a' = a113 := ⟨_, rfl⟩
      rw [← ha] at hS ⊢; clear ha
      obtain ⟨o116, H, Hl117⟩ := bind_el H
      refine c_cut (fun a w114 => ∃ (g114 : Nat → Nat), o116 = .nxt () ∧ Sl 61 a [] ∧ Fr (fun q => N ≤ q) w g w114 g114) ?_ ?_
      · refine c_pure [(7, .map (some b108)), (49, .slice A1 p1.length cap1), (50, .int .i64 (p1.length : Int)), (51, .int .i64 0)] (fun R hR => st_val hS rfl rfl rfl (r_move hS rfl rfl) fun a118 hS118 => st_val hS118 rfl rfl rfl (r_len (e := 43) (sz := 2) (by_ := 16) hS118 rfl rfl (by kernel_rfl)) fun a119 hS119 => st_val hS119 rfl rfl rfl (r_move hS119 rfl rfl) fun a120 hS120 => wpList_nil (hR _ (hS120.re ⟨rfl, rfl, rfl, rfl, trivial⟩))) ?_
        clear hS
        clear a
        intro a hS
        refine wp_block ?_
        refine wp_loop_ghost (fun kq => fun a w121 => ∃ (m1_0 : List api_Link), ∃ (m1_1 : Int), ∃ (g121 : Nat → Nat), depgraph_validate.l1 p1 kq m1_0 m1_1 = some o116 ∧ Sl 61 a [(7, .map (some b108)), (49, .slice A1 p1.length cap1), (50, .int .i64 (p1.length : Int)), (51, .int .i64 m1_1)] ∧ MapS enc_api_Link w121 g121 (N + 2) b108 m1_0 ∧ RdS kd_api_Link w121 g121 C1 A1 cap1 p1 ∧ Fr (fun q => N ≤ q) w g w121 g121) FUEL ?_ ?_
        · exact ⟨([] : List api_Link), 0, g112, H, hS.re ⟨rfl, rfl, rfl, rfl, trivial⟩, h109, hp1, hF⟩
        · clear H
          clear hp1 h109 hF
          clear hS
          rintro k122 a w121 ⟨m1_0, m1_1, g121, hpre0, hS, h109, hp1, hF⟩
          have H := hpre0
          clear hpre0
          cases k122 with
          | zero => exact absurd H (by simp [depgraph_validate.l1])
          | succ k122 =>
            rw [depgraph_validate.l1] at H
            refine c_pure [(7, .map (some b108)), (49, .slice A1 p1.length cap1), (50, .int .i64 (p1.length : Int)), (51, .int .i64 m1_1), (52, .bool (decide (m1_1 < (p1.length : Int))))] (fun R hR => st_val hS rfl rfl rfl (r_bin hS rfl rfl rfl b_lss) fun a123 hS123 => wpList_nil (hR _ (hS123.re ⟨rfl, rfl, rfl, rfl, rfl, trivial⟩))) ?_
            clear hS
            clear a
            intro a hS
            refine c_if hS rfl (fun hb124 => ?_) (fun hb124 => ?_)
            · replace H := ite_t hb124 H
              refine wp_skip ?_
              change Code.wp _ _ _ _ _
              refine wp_seq ?_
              refine wp_block ?_
              obtain ⟨x125, hx126, H⟩ := bind_el H
              refine c_region (fun K hK => ?_)
              refine st_val hS rfl rfl rfl (r_index (e := 43) (sz := 2) (by_ := 16) hS rfl rfl rfl (by kernel_rfl) (RdS.some_ hp1 hx126) (idx_lo hx126) (idx_hi hx126)) fun a127 hS127 => st_val hS127 rfl rfl rfl (r_loadN (n := 2) (cs := [.int .i64 x125.Consumer, .int .i64 x125.Supplier]) hS127 rfl rfl (by kernel_rfl) rfl (RdS.cells_off hp1 hx126 0 2)) fun a128 hS128 => ?_
              refine st_eff hS128 rfl rfl rfl (e_alloc (cs := [.int .i64 0, .int .i64 0]) (N + 4) g121 hS128 rfl (by kernel_rfl)) ?_
              rintro _ a132 w133 g133 ⟨⟨b129, rfl, h130⟩, F133⟩ hS132
              replace h109 := MapS.fr h109 F133 (fun h => h)
              replace hp1 := RdS.fr hp1 F133 (by decide) (fun _ _ h => h)
              replace hF := hF.trans F133 (fun _ h => h.elim)
              refine st_effS hS132 rfl rfl (e_storeB (n := 2) (bb := true) (cs' := [.int .i64 x125.Consumer, .int .i64 x125.Supplier]) g133 hS132 rfl rfl rfl (by kernel_rfl) rfl rfl rfl h130 rfl rfl) ?_
              rintro a134 w135 g135 ⟨h130, F135⟩ hS134
              replace h109 := MapS.fr h109 F135 (fun (hm : N + 2 = N + 4) => by omega)
              replace hp1 := RdS.fr hp1 F135 (by decide) (fun q (hq : C1 q) (hm : q = N + 4) => by have := hC1 q hq; omega)
              replace hF := hF.trans F135 (fun c' (hm : c' = N + 4) => by show N ≤ c'; omega)
              refine wpList_nil (hK _ _ ?_)
              replace hS : Sl 61 _ [(7, .map (some b108)), (9, .pointer (some ⟨b129, 0, none⟩)), (49, .slice A1 p1.length cap1), (50, .int .i64 (p1.length : Int)), (51, .int .i64 m1_1)] := hS134.re ⟨rfl, rfl, rfl, rfl, rfl, trivial⟩
              clear hK K
              try clear hS127 hS128 hS132 hS134
              obtain ⟨a, ha⟩ : ∃ a', a' = a134 := ⟨_, rfl⟩
              rw [← ha] at hS ⊢; clear ha
              refine wp_seq ?_
              refine c_pure [(7, .map (some b108)), (9, .pointer (some ⟨b129, 0, none⟩)), (49, .slice A1 p1.length cap1), (50, .int .i64 (p1.length : Int)), (51, .int .i64 m1_1), (57, .bool (decide (x125 ∈ m1_0)))] (fun R hR => st_val hS rfl rfl rfl (r_move hS rfl rfl) fun a136 hS136 => st_val hS136 rfl rfl rfl (r_loadN (n := 2) (cs := [.int .i64 x125.Consumer, .int .i64 x125.Supplier]) hS136 rfl rfl (by kernel_rfl) rfl (Bx.cells_off h130 0 2)) fun a137 hS137 => st_val hS137 rfl rfl rfl (r_lookup (K := 43) (E := 4) (enc := enc_api_Link) (k := x125) hS137 rfl rfl rfl (by kernel_rfl) (by kernel_rfl) key_api_Link h109) fun a138 hS138 => wpList_nil (hR _ (hS138.re ⟨rfl, rfl, rfl, rfl, rfl, rfl, trivial⟩))) ?_
              clear hS
              clear a
              intro a hS
              refine c_cond hS rfl (fun hb139 => ?_) (fun hb139 => ?_)
              · replace H := ite_t hb139 H
                refine c_pure [(4, .int .i64 7)] (fun R hR => st_val hS rfl rfl rfl (r_assign hS rfl rfl) fun a140 hS140 => wpList_nil (hR _ (hS140.re ⟨rfl, trivial⟩))) ?_
                clear hS
                clear a
                intro a hS
                refine wp_ret ?_
                have e := Option.some.inj H
                subst e
                replace H := Fl.go_out Hl117
                have e := Option.some.inj H
                subst e
                repeat (with_reducible first | refine then_ret ?_ | refine inBlock_ret ?_)
                exact c_ret1 hS Try.results44 rfl ⟨_, rfl, g135, rfl, hF⟩
              · replace H := ite_f hb139 H
                refine wp_skip ?_
                change Code.wp _ _ _ _ _
                refine c_region1 (fun K hK => ?_)
                refine st_val hS rfl rfl rfl (r_move hS rfl rfl) fun a141 hS141 => st_val hS141 rfl rfl rfl (r_loadN (n := 2) (cs := [.int .i64 x125.Consumer, .int .i64 x125.Supplier]) hS141 rfl rfl (by kernel_rfl) rfl (Bx.cells_off h130 0 2)) fun a142 hS142 => ?_
                refine st_effS hS142 rfl rfl (e_mapUpdate (K := 43) (E := 4) (enc := enc_api_Link) (k := x125) g135 hS142 rfl rfl rfl rfl (by kernel_rfl) key_api_Link h109 hb139) ?_
                rintro a143 w144 g144 ⟨h109, F144⟩ hS143
                replace h130 := h130.fr F144 (fun (hm : N + 4 = N + 2) => by omega)
                replace hp1 := RdS.fr hp1 F144 (by decide) (fun q (hq : C1 q) (hm : q = N + 2) => by have := hC1 q hq; omega)
                replace hF := hF.trans F144 (fun c' (hm : c' = N + 2) => by show N ≤ c'; omega)
                refine wpList_nil (hK _ _ ?_)
                replace hS : Sl 61 _ [(7, .map (some b108)), (49, .slice A1 p1.length cap1), (50, .int .i64 (p1.length : Int)), (51, .int .i64 m1_1)] := hS143.re ⟨rfl, rfl, rfl, rfl, trivial⟩
                clear hK K
                try clear hS141 hS142 hS143
                obtain ⟨a, ha⟩ : ∃ a', a' = a143 := ⟨_, rfl⟩
                rw [← ha] at hS ⊢; clear ha
                change Code.wp _ _ _ _ _
                refine c_pure1 [(7, .map (some b108)), (49, .slice A1 p1.length cap1), (50, .int .i64 (p1.length : Int)), (51, .int .i64 (wi (m1_1 + 1)))] (fun R hR => st_val hS rfl rfl rfl (r_bin hS rfl rfl rfl b_add) fun a145 hS145 => st_val hS145 rfl rfl rfl (r_move hS145 rfl rfl) fun a146 hS146 => wpList_nil (hR _ (hS146.re ⟨rfl, rfl, rfl, rfl, trivial⟩))) ?_
                clear hS
                clear a
                intro a hS
                refine ⟨k122, Nat.lt_succ_self _, ?_⟩
                exact ⟨(m1_0 ++ [x125]), wi (m1_1 + 1), g144, H, hS.re ⟨rfl, rfl, rfl, rfl, trivial⟩, h109, hp1, hF⟩
            · replace H := ite_f hb124 H
              refine wp_exit ?_
              have e := Option.some.inj H
              exact ⟨g121, e.symm, hS.re trivial, hF⟩
      · clear H
        clear hp1 h109 hF
        clear hS
        rintro a w114 ⟨g114, hpre0, hS, hF⟩
        subst hpre0
        have H := Fl.go_nxt Hl117
        clear Hl117
        refine c_pure [(4, .int .i64 0)] (fun R hR => st_val hS rfl rfl rfl (r_assign hS rfl rfl) fun a147 hS147 => wpList_nil (hR _ (hS147.re ⟨rfl, trivial⟩))) ?_
        clear hS
        clear a
        intro a hS
        refine wp_ret ?_
        have e := Option.some.inj H
        subst e
        repeat (with_reducible first | refine then_ret ?_ | refine inBlock_ret ?_)
        exact c_ret1 hS Try.results44 rfl ⟨_, rfl, g114, rfl, hF⟩


end Go.Proofs.Ythmjgadmadlpkaa.Sim

namespace Go.Proofs.Ythmjgadmadlpkaa.Sim
open Go
set_option linter.unusedVariables false
set_option linter.unusedSimpArgs false

/-! ### depgraph_Order: function 26 -/
def depgraph_Order.f (p0 : Int) (p1 : List api_Link) : Option ((List Int) × Int) := (depgraph_validate.f p0 p1).bind fun r5 => if (r5 != 0) = true then (some ([], r5)) else ((depgraph_sort.f p0 p1).bind fun r18 => if decide ((r18.length : Int) < p0) = true then (some ([], 18)) else (some (r18, 0)))
set_option maxRecDepth 100000 in
set_option maxHeartbeats 4000000 in
theorem depgraph_Order.calls {p0 : Int} {p1 : List api_Link} {A1 : Option Addr} {cap1 : Nat} {C1 : Nat → Prop} {w : World} {g : Nat → Nat} {out : (List Int) × Int} (N : Nat) (r0 : Nat) (hp1 : RdS kd_api_Link w g C1 A1 cap1 p1) (hC1 : ∀ c, C1 c → c < N) (hr0 : r0 + 2 ≤ N) (H : depgraph_Order.f p0 p1 = some out) :
    Calls Try.prog 26 #[.int .i64 p0, .slice A1 p1.length cap1] w (fun e w' => ∃ v, e = .returned v ∧ ∃ (g' : Nat → Nat) (A_r0 : Option Addr) (cap_r0 : Nat), v = .tuple #[.slice A_r0 out.1.length cap_r0, .int .i64 out.2] ∧ OwS (kint .i64) 3 w' g' r0 A_r0 cap_r0 out.1 ∧ Fr (fun q => (r0 ≤ q ∧ q < r0 + 2) ∨ N ≤ q) w g w' g') := by
  unfold depgraph_Order.f at H
  refine calls_enter Try.func26 rfl Try.ntmps26 rfl (fun a hS => ?_)
  replace hS : Sl 22 a [(0, .int .i64 p0), (1, .slice A1 p1.length cap1)] := hS
  have hF : Fr (fun q => (r0 ≤ q ∧ q < r0 + 2) ∨ N ≤ q) w g w g := Fr.refl _ _ _
  refine c_pure [(0, .int .i64 p0), (1, .slice A1 p1.length cap1)] (fun R hR => st_val hS rfl rfl rfl (r_assign hS rfl rfl) fun a1 hS1 => st_val hS1 rfl rfl rfl (r_assign hS1 rfl rfl) fun a2 hS2 => wpList_nil (hR _ (hS2.re ⟨rfl, rfl, trivial⟩))) ?_
  clear hS
  clear a
  intro a hS
  refine wp_seq ?_
  obtain ⟨r5, hr6, H⟩ := bind_el H
  refine c_region (fun K hK => ?_)
  refine st_val hS rfl rfl rfl (r_move hS rfl rfl) fun a3 hS3 => st_val hS3 rfl rfl rfl (r_move hS3 rfl rfl) fun a4 hS4 => ?_
  refine st_enter hS4 rfl rfl rfl (r_call hS4 rfl rfl (by kernel_rfl)) (depgraph_validate.calls (C1 := C1) (p0 := p0) (p1 := p1) (g := g) (N + 2)  hp1 (fun q (hq : C1 q) => by have := hC1 q hq; omega) hr6) ?_
  rintro _ a7 w8 ⟨g8, rfl, F8⟩ hS7
  replace hp1 := RdS.fr hp1 F8 (by decide) (fun q (hq : C1 q) (hm : N + 2 ≤ q) => by have := hC1 q hq; omega)
  replace hF := hF.trans F8 (fun c' (hm : N + 2 ≤ c') => by show (r0 ≤ c' ∧ c' < r0 + 2) ∨ N ≤ c'; omega)
  refine st_val hS7 rfl rfl rfl (r_assign hS7 rfl rfl) fun a9 hS9 => wpList_nil (hK _ _ ?_)
  replace hS : Sl 22 _ [(0, .int .i64 p0), (1, .slice A1 p1.length cap1), (6, .int .i64 r5)] := hS9.re ⟨rfl, rfl, rfl, trivial⟩
  clear hK K
  try clear hS3 hS4 hS7 hS9
  obtain ⟨a, ha⟩ : ∃ a', a' = a9 := ⟨_, rfl⟩
  rw [← ha] at hS ⊢; clear ha
  refine c_pure [(0, .int .i64 p0), (1, .slice A1 p1.length cap1), (6, .int .i64 r5), (12, .bool (r5 != 0))] (fun R hR => st_val hS rfl rfl rfl (r_move hS rfl rfl) fun a10 hS10 => st_val hS10 rfl rfl rfl (r_bin hS10 rfl rfl rfl b_neq) fun a11 hS11 => wpList_nil (hR _ (hS11.re ⟨rfl, rfl, rfl, rfl, trivial⟩))) ?_
  clear hS
  clear a
  intro a hS
  refine c_cond hS rfl (fun hb12 => ?_) (fun hb12 => ?_)
  · replace H := ite_t hb12 H
    refine c_pure [(4, .slice none 0 0), (5, .int .i64 r5)] (fun R hR => st_val hS rfl rfl rfl (r_move hS rfl rfl) fun a13 hS13 => st_val hS13 rfl rfl rfl (r_assign hS13 rfl rfl) fun a14 hS14 => st_val hS14 rfl rfl rfl (r_assign hS14 rfl rfl) fun a15 hS15 => wpList_nil (hR _ (hS15.re ⟨rfl, rfl, trivial⟩))) ?_
    clear hS
    clear a
    intro a hS
    refine wp_ret ?_
    have e := Option.some.inj H
    subst e
    repeat (with_reducible first | refine then_ret ?_ | refine inBlock_ret ?_)
    exact c_ret2 hS Try.results26 rfl rfl ⟨_, rfl, g8, none, 0, rfl, OwS.nil (kint .i64) 3 w8 g8 r0, hF⟩
  · replace H := ite_f hb12 H
    refine wp_skip ?_
    change Code.wp _ _ _ _ _
    obtain ⟨r18, hr19, H⟩ := bind_el H
    refine c_region (fun K hK => ?_)
    refine st_val hS rfl rfl rfl (r_move hS rfl rfl) fun a16 hS16 => st_val hS16 rfl rfl rfl (r_move hS16 rfl rfl) fun a17 hS17 => ?_
    refine st_enter hS17 rfl rfl rfl (r_call hS17 rfl rfl (by kernel_rfl)) (depgraph_sort.calls (C1 := C1) (p0 := p0) (p1 := p1) (g := g8) (N + 2) (N + 0) hp1 (fun q (hq : C1 q) => by have := hC1 q hq; omega) (by omega) hr19) ?_
    rintro _ a24 w25 ⟨g25, A20, cap21, rfl, h22, F25⟩ hS24
    replace hp1 := RdS.fr hp1 F25 (by decide) (fun q (hq : C1 q) (hm : (N + 0 ≤ q ∧ q < N + 0 + 2) ∨ N + 2 ≤ q) => by have := hC1 q hq; omega)
    replace hF := hF.trans F25 (fun c' (hm : (N + 0 ≤ c' ∧ c' < N + 0 + 2) ∨ N + 2 ≤ c') => by show (r0 ≤ c' ∧ c' < r0 + 2) ∨ N ≤ c'; omega)
    refine st_val hS24 rfl rfl rfl (r_assign hS24 rfl rfl) fun a26 hS26 => wpList_nil (hK _ _ ?_)
    replace hS : Sl 22 _ [(0, .int .i64 p0), (7, .slice A20 r18.length cap21)] := hS26.re ⟨rfl, rfl, trivial⟩
    clear hK K
    try clear hS16 hS17 hS24 hS26
    obtain ⟨a, ha⟩ : ∃ a', a' = a26 := ⟨_, rfl⟩
    rw [← ha] at hS ⊢; clear ha
    refine wp_seq ?_
    refine c_pure [(7, .slice A20 r18.length cap21), (20, .bool (decide ((r18.length : Int) < p0)))] (fun R hR => st_val hS rfl rfl rfl (r_move hS rfl rfl) fun a27 hS27 => st_val hS27 rfl rfl rfl (r_len (e := 3) (sz := 1) (by_ := 8) hS27 rfl rfl (by kernel_rfl)) fun a28 hS28 => st_val hS28 rfl rfl rfl (r_move hS28 rfl rfl) fun a29 hS29 => st_val hS29 rfl rfl rfl (r_bin hS29 rfl rfl rfl b_lss) fun a30 hS30 => wpList_nil (hR _ (hS30.re ⟨rfl, rfl, trivial⟩))) ?_
    clear hS
    clear a
    intro a hS
    refine c_cond hS rfl (fun hb31 => ?_) (fun hb31 => ?_)
    · replace H := ite_t hb31 H
      refine c_pure [(4, .slice none 0 0), (5, .int .i64 18)] (fun R hR => st_val hS rfl rfl rfl (r_assign hS rfl rfl) fun a32 hS32 => st_val hS32 rfl rfl rfl (r_assign hS32 rfl rfl) fun a33 hS33 => wpList_nil (hR _ (hS33.re ⟨rfl, rfl, trivial⟩))) ?_
      clear hS
      clear a
      intro a hS
      refine wp_ret ?_
      have e := Option.some.inj H
      subst e
      repeat (with_reducible first | refine then_ret ?_ | refine inBlock_ret ?_)
      exact c_ret2 hS Try.results26 rfl rfl ⟨_, rfl, g25, none, 0, rfl, OwS.nil (kint .i64) 3 w25 g25 r0, hF⟩
    · replace H := ite_f hb31 H
      refine wp_skip ?_
      change Code.wp _ _ _ _ _
      refine c_pure [(4, .slice A20 r18.length cap21), (5, .int .i64 0)] (fun R hR => st_val hS rfl rfl rfl (r_move hS rfl rfl) fun a34 hS34 => st_val hS34 rfl rfl rfl (r_assign hS34 rfl rfl) fun a35 hS35 => st_val hS35 rfl rfl rfl (r_assign hS35 rfl rfl) fun a36 hS36 => wpList_nil (hR _ (hS36.re ⟨rfl, rfl, trivial⟩))) ?_
      clear hS
      clear a
      intro a hS
      refine wp_ret ?_
      have e := Option.some.inj H
      subst e
      have F37 := Fr.recol2 w25 g25 (N + 0) r0
      replace h22 := h22.recol2 r0
      replace hF := hF.trans F37 (fun c' (hm : c' = N + 0 ∨ c' = N + 0 + 1) => by show (r0 ≤ c' ∧ c' < r0 + 2) ∨ N ≤ c'; omega)
      repeat (with_reducible first | refine then_ret ?_ | refine inBlock_ret ?_)
      exact c_ret2 hS Try.results26 rfl rfl ⟨_, rfl, (recol2 g25 (N + 0) r0), A20, cap21, rfl, h22, hF⟩


end Go.Proofs.Ythmjgadmadlpkaa.Sim

namespace Go.Proofs.Ythmjgadmadlpkaa.Sim
open Go
set_option linter.unusedVariables false
set_option linter.unusedSimpArgs false

/-! ### depgraph_Check: function 66 -/
def depgraph_Check.f (p0 : Int) (p1 : List api_Link) : Option (Int) := (depgraph_validate.f p0 p1).bind fun r4 => if (r4 != 0) = true then (some r4) else ((depgraph_sort.f p0 p1).bind fun r16 => if decide ((r16.length : Int) < p0) = true then (some 18) else (some 0))
set_option maxRecDepth 100000 in
set_option maxHeartbeats 4000000 in
theorem depgraph_Check.calls {p0 : Int} {p1 : List api_Link} {A1 : Option Addr} {cap1 : Nat} {C1 : Nat → Prop} {w : World} {g : Nat → Nat} {out : Int} (N : Nat) (hp1 : RdS kd_api_Link w g C1 A1 cap1 p1) (hC1 : ∀ c, C1 c → c < N) (H : depgraph_Check.f p0 p1 = some out) :
    Calls Try.prog 66 #[.int .i64 p0, .slice A1 p1.length cap1] w (fun e w' => ∃ v, e = .returned v ∧ ∃ (g' : Nat → Nat), v = .int .i64 out ∧ Fr (fun q => N ≤ q) w g w' g') := by
  unfold depgraph_Check.f at H
  refine calls_enter Try.func66 rfl Try.ntmps66 rfl (fun a hS => ?_)
  replace hS : Sl 18 a [(0, .int .i64 p0), (1, .slice A1 p1.length cap1)] := hS
  have hF : Fr (fun q => N ≤ q) w g w g := Fr.refl _ _ _
  refine c_pure [(0, .int .i64 p0), (1, .slice A1 p1.length cap1)] (fun R hR => st_val hS rfl rfl rfl (r_assign hS rfl rfl) fun a1 hS1 => wpList_nil (hR _ (hS1.re ⟨rfl, rfl, trivial⟩))) ?_
  clear hS
  clear a
  intro a hS
  refine wp_seq ?_
  obtain ⟨r4, hr5, H⟩ := bind_el H
  refine c_region (fun K hK => ?_)
  refine st_val hS rfl rfl rfl (r_move hS rfl rfl) fun a2 hS2 => st_val hS2 rfl rfl rfl (r_move hS2 rfl rfl) fun a3 hS3 => ?_
  refine st_enter hS3 rfl rfl rfl (r_call hS3 rfl rfl (by kernel_rfl)) (depgraph_validate.calls (C1 := C1) (p0 := p0) (p1 := p1) (g := g) (N + 2)  hp1 (fun q (hq : C1 q) => by have := hC1 q hq; omega) hr5) ?_
  rintro _ a6 w7 ⟨g7, rfl, F7⟩ hS6
  replace hp1 := RdS.fr hp1 F7 (by decide) (fun q (hq : C1 q) (hm : N + 2 ≤ q) => by have := hC1 q hq; omega)
  replace hF := hF.trans F7 (fun c' (hm : N + 2 ≤ c') => by show N ≤ c'; omega)
  refine st_val hS6 rfl rfl rfl (r_assign hS6 rfl rfl) fun a8 hS8 => wpList_nil (hK _ _ ?_)
  replace hS : Sl 18 _ [(0, .int .i64 p0), (1, .slice A1 p1.length cap1), (5, .int .i64 r4)] := hS8.re ⟨rfl, rfl, rfl, trivial⟩
  clear hK K
  try clear hS2 hS3 hS6 hS8
  obtain ⟨a, ha⟩ : ∃ a', a' = a8 := ⟨_, rfl⟩
  rw [← ha] at hS ⊢; clear ha
  refine c_pure [(0, .int .i64 p0), (1, .slice A1 p1.length cap1), (5, .int .i64 r4), (10, .bool (r4 != 0))] (fun R hR => st_val hS rfl rfl rfl (r_move hS rfl rfl) fun a9 hS9 => st_val hS9 rfl rfl rfl (r_bin hS9 rfl rfl rfl b_neq) fun a10 hS10 => wpList_nil (hR _ (hS10.re ⟨rfl, rfl, rfl, rfl, trivial⟩))) ?_
  clear hS
  clear a
  intro a hS
  refine c_cond hS rfl (fun hb11 => ?_) (fun hb11 => ?_)
  · replace H := ite_t hb11 H
    refine c_pure [(4, .int .i64 r4)] (fun R hR => st_val hS rfl rfl rfl (r_move hS rfl rfl) fun a12 hS12 => st_val hS12 rfl rfl rfl (r_assign hS12 rfl rfl) fun a13 hS13 => wpList_nil (hR _ (hS13.re ⟨rfl, trivial⟩))) ?_
    clear hS
    clear a
    intro a hS
    refine wp_ret ?_
    have e := Option.some.inj H
    subst e
    repeat (with_reducible first | refine then_ret ?_ | refine inBlock_ret ?_)
    exact c_ret1 hS Try.results66 rfl ⟨_, rfl, g7, rfl, hF⟩
  · replace H := ite_f hb11 H
    refine wp_skip ?_
    change Code.wp _ _ _ _ _
    refine wp_seq ?_
    obtain ⟨r16, hr17, H⟩ := bind_el H
    refine c_region (fun K hK => ?_)
    refine st_val hS rfl rfl rfl (r_move hS rfl rfl) fun a14 hS14 => st_val hS14 rfl rfl rfl (r_move hS14 rfl rfl) fun a15 hS15 => ?_
    refine st_enter hS15 rfl rfl rfl (r_call hS15 rfl rfl (by kernel_rfl)) (depgraph_sort.calls (C1 := C1) (p0 := p0) (p1 := p1) (g := g7) (N + 2) (N + 0) hp1 (fun q (hq : C1 q) => by have := hC1 q hq; omega) (by omega) hr17) ?_
    rintro _ a22 w23 ⟨g23, A18, cap19, rfl, h20, F23⟩ hS22
    replace hp1 := RdS.fr hp1 F23 (by decide) (fun q (hq : C1 q) (hm : (N + 0 ≤ q ∧ q < N + 0 + 2) ∨ N + 2 ≤ q) => by have := hC1 q hq; omega)
    replace hF := hF.trans F23 (fun c' (hm : (N + 0 ≤ c' ∧ c' < N + 0 + 2) ∨ N + 2 ≤ c') => by show N ≤ c'; omega)
    refine st_val hS22 rfl rfl rfl (r_len (e := 3) (sz := 1) (by_ := 8) hS22 rfl rfl (by kernel_rfl)) fun a24 hS24 => st_val hS24 rfl rfl rfl (r_move hS24 rfl rfl) fun a25 hS25 => st_val hS25 rfl rfl rfl (r_bin hS25 rfl rfl rfl b_lss) fun a26 hS26 => wpList_nil (hK _ _ ?_)
    replace hS : Sl 18 _ [(17, .bool (decide ((r16.length : Int) < p0)))] := hS26.re ⟨rfl, trivial⟩
    clear hK K
    try clear hS14 hS15 hS22 hS24 hS25 hS26
    obtain ⟨a, ha⟩ : ∃ a', a' = a26 := ⟨_, rfl⟩
    rw [← ha] at hS ⊢; clear ha
    refine c_cond hS rfl (fun hb27 => ?_) (fun hb27 => ?_)
    · replace H := ite_t hb27 H
      refine c_pure [(4, .int .i64 18)] (fun R hR => st_val hS rfl rfl rfl (r_assign hS rfl rfl) fun a28 hS28 => wpList_nil (hR _ (hS28.re ⟨rfl, trivial⟩))) ?_
      clear hS
      clear a
      intro a hS
      refine wp_ret ?_
      have e := Option.some.inj H
      subst e
      repeat (with_reducible first | refine then_ret ?_ | refine inBlock_ret ?_)
      exact c_ret1 hS Try.results66 rfl ⟨_, rfl, g23, rfl, hF⟩
    · replace H := ite_f hb27 H
      refine wp_skip ?_
      change Code.wp _ _ _ _ _
      refine c_pure [(4, .int .i64 0)] (fun R hR => st_val hS rfl rfl rfl (r_assign hS rfl rfl) fun a29 hS29 => wpList_nil (hR _ (hS29.re ⟨rfl, trivial⟩))) ?_
      clear hS
      clear a
      intro a hS
      refine wp_ret ?_
      have e := Option.some.inj H
      subst e
      repeat (with_reducible first | refine then_ret ?_ | refine inBlock_ret ?_)
      exact c_ret1 hS Try.results66 rfl ⟨_, rfl, g23, rfl, hF⟩


end Go.Proofs.Ythmjgadmadlpkaa.Sim

namespace Go.Proofs.Ythmjgadmadlpkaa.Sim
open Go
set_option linter.unusedVariables false
set_option linter.unusedSimpArgs false

/-! ### resume_check: function 35 -/
def resume_check.l0 (p2 : List Int) : Nat → Int → Option (Fl (Int) (Unit))
  | 0, _ => none
  | k26 + 1, m0_0 => if decide (m0_0 < (p2.length : Int)) = true then ((idx p2 m0_0).bind fun x29 => if decide (9007199254740992 < x29) = true then (some (.out 1)) else (resume_check.l0 p2 k26 (wi (m0_0 + 1)))) else (some (.nxt ()))
def resume_check.f (p0 : Int) (p1 : List api_Link) (p2 : List Int) (p3 : Int) : Option (Int) := (depgraph_Check.f p0 p1).bind fun r4 => if (r4 != 0) = true then (some r4) else (if ((p2.length : Int) != p0) = true then (some 1) else ((resume_check.l0 p2 FUEL 0 : Option (Fl (Int) (Unit))).bind fun o21 => o21.go fun _ => if ((decide (p3 < 1)) || (decide (16 < p3))) = true then (some 1) else (some 0)))
set_option maxRecDepth 100000 in
set_option maxHeartbeats 4000000 in
theorem resume_check.calls {p0 : Int} {p1 : List api_Link} {A1 : Option Addr} {cap1 : Nat} {C1 : Nat → Prop} {p2 : List Int} {A2 : Option Addr} {cap2 : Nat} {C2 : Nat → Prop} {p3 : Int} {w : World} {g : Nat → Nat} {out : Int} (N : Nat) (hp1 : RdS kd_api_Link w g C1 A1 cap1 p1) (hC1 : ∀ c, C1 c → c < N) (hp2 : RdS (kint .u64) w g C2 A2 cap2 p2) (hC2 : ∀ c, C2 c → c < N) (H : resume_check.f p0 p1 p2 p3 = some out) :
    Calls Try.prog 35 #[.int .i64 p0, .slice A1 p1.length cap1, .slice A2 p2.length cap2, .int .i64 p3] w (fun e w' => ∃ v, e = .returned v ∧ ∃ (g' : Nat → Nat), v = .int .i64 out ∧ Fr (fun q => N ≤ q) w g w' g') := by
  unfold resume_check.f at H
  refine calls_enter Try.func35 rfl Try.ntmps35 rfl (fun a hS => ?_)
  replace hS : Sl 37 a [(0, .int .i64 p0), (1, .slice A1 p1.length cap1), (2, .slice A2 p2.length cap2), (3, .int .i64 p3)] := hS
  have hF : Fr (fun q => N ≤ q) w g w g := Fr.refl _ _ _
  refine c_pure [(0, .int .i64 p0), (1, .slice A1 p1.length cap1), (2, .slice A2 p2.length cap2), (3, .int .i64 p3)] (fun R hR => st_val hS rfl rfl rfl (r_assign hS rfl rfl) fun a1 hS1 => wpList_nil (hR _ (hS1.re ⟨rfl, rfl, rfl, rfl, trivial⟩))) ?_
  clear hS
  clear a
  intro a hS
  refine wp_seq ?_
  obtain ⟨r4, hr5, H⟩ := bind_el H
  refine c_region (fun K hK => ?_)
  refine st_val hS rfl rfl rfl (r_move hS rfl rfl) fun a2 hS2 => st_val hS2 rfl rfl rfl (r_move hS2 rfl rfl) fun a3 hS3 => ?_
  refine st_enter hS3 rfl rfl rfl (r_call hS3 rfl rfl (by kernel_rfl)) (depgraph_Check.calls (C1 := C1) (p0 := p0) (p1 := p1) (g := g) (N + 0)  hp1 (fun q (hq : C1 q) => by have := hC1 q hq; omega) hr5) ?_
  rintro _ a6 w7 ⟨g7, rfl, F7⟩ hS6
  replace hp1 := RdS.fr hp1 F7 (by decide) (fun q (hq : C1 q) (hm : N + 0 ≤ q) => by have := hC1 q hq; omega)
  replace hp2 := RdS.fr hp2 F7 (by decide) (fun q (hq : C2 q) (hm : N + 0 ≤ q) => by have := hC2 q hq; omega)
  replace hF := hF.trans F7 (fun c' (hm : N + 0 ≤ c') => by show N ≤ c'; omega)
  refine st_val hS6 rfl rfl rfl (r_assign hS6 rfl rfl) fun a8 hS8 => wpList_nil (hK _ _ ?_)
  replace hS : Sl 37 _ [(0, .int .i64 p0), (2, .slice A2 p2.length cap2), (3, .int .i64 p3), (9, .int .i64 r4)] := hS8.re ⟨rfl, rfl, rfl, rfl, trivial⟩
  clear hK K
  try clear hS2 hS3 hS6 hS8
  obtain ⟨a, ha⟩ : ∃ a', a' = a8 := ⟨_, rfl⟩
  rw [← ha] at hS ⊢; clear ha
  refine c_pure [(0, .int .i64 p0), (2, .slice A2 p2.length cap2), (3, .int .i64 p3), (9, .int .i64 r4), (16, .bool (r4 != 0))] (fun R hR => st_val hS rfl rfl rfl (r_move hS rfl rfl) fun a9 hS9 => st_val hS9 rfl rfl rfl (r_bin hS9 rfl rfl rfl b_neq) fun a10 hS10 => wpList_nil (hR _ (hS10.re ⟨rfl, rfl, rfl, rfl, rfl, trivial⟩))) ?_
  clear hS
  clear a
  intro a hS
  refine c_cond hS rfl (fun hb11 => ?_) (fun hb11 => ?_)
  · replace H := ite_t hb11 H
    refine c_pure [(8, .int .i64 r4)] (fun R hR => st_val hS rfl rfl rfl (r_move hS rfl rfl) fun a12 hS12 => st_val hS12 rfl rfl rfl (r_assign hS12 rfl rfl) fun a13 hS13 => wpList_nil (hR _ (hS13.re ⟨rfl, trivial⟩))) ?_
    clear hS
    clear a
    intro a hS
    refine wp_ret ?_
    have e := Option.some.inj H
    subst e
    repeat (with_reducible first | refine then_ret ?_ | refine inBlock_ret ?_)
    exact c_ret1 hS Try.results35 rfl ⟨_, rfl, g7, rfl, hF⟩
  · replace H := ite_f hb11 H
    refine wp_skip ?_
    change Code.wp _ _ _ _ _
    refine wp_seq ?_
    refine c_pure [(2, .slice A2 p2.length cap2), (3, .int .i64 p3), (21, .bool ((p2.length : Int) != p0))] (fun R hR => st_val hS rfl rfl rfl (r_move hS rfl rfl) fun a14 hS14 => st_val hS14 rfl rfl rfl (r_len (e := 33) (sz := 1) (by_ := 8) hS14 rfl rfl (by kernel_rfl)) fun a15 hS15 => st_val hS15 rfl rfl rfl (r_move hS15 rfl rfl) fun a16 hS16 => st_val hS16 rfl rfl rfl (r_bin hS16 rfl rfl rfl b_neq) fun a17 hS17 => wpList_nil (hR _ (hS17.re ⟨rfl, rfl, rfl, trivial⟩))) ?_
    clear hS
    clear a
    intro a hS
    refine c_cond hS rfl (fun hb18 => ?_) (fun hb18 => ?_)
    · replace H := ite_t hb18 H
      refine c_pure [(8, .int .i64 1)] (fun R hR => st_val hS rfl rfl rfl (r_assign hS rfl rfl) fun a19 hS19 => wpList_nil (hR _ (hS19.re ⟨rfl, trivial⟩))) ?_
      clear hS
      clear a
      intro a hS
      refine wp_ret ?_
      have e := Option.some.inj H
      subst e
      repeat (with_reducible first | refine then_ret ?_ | refine inBlock_ret ?_)
      exact c_ret1 hS Try.results35 rfl ⟨_, rfl, g7, rfl, hF⟩
    · replace H := ite_f hb18 H
      refine wp_skip ?_
      change Code.wp _ _ _ _ _
      obtain ⟨o21, H, Hl22⟩ := bind_el H
      refine c_cut (fun a w' => o21 = .nxt () ∧ w7 = w' ∧ Sl 37 a [(3, .int .i64 p3)]) ?_ ?_
      · refine c_pure [(3, .int .i64 p3), (22, .slice A2 p2.length cap2), (23, .int .i64 (p2.length : Int)), (24, .int .i64 0)] (fun R hR => st_val hS rfl rfl rfl (r_move hS rfl rfl) fun a23 hS23 => st_val hS23 rfl rfl rfl (r_len (e := 33) (sz := 1) (by_ := 8) hS23 rfl rfl (by kernel_rfl)) fun a24 hS24 => st_val hS24 rfl rfl rfl (r_move hS24 rfl rfl) fun a25 hS25 => wpList_nil (hR _ (hS25.re ⟨rfl, rfl, rfl, rfl, trivial⟩))) ?_
        clear hS
        clear a
        intro a hS
        refine wp_block ?_
        refine wp_loop_ghost (fun kq => fun a w' => ∃ (m0_0 : Int), resume_check.l0 p2 kq m0_0 = some o21 ∧ w7 = w' ∧ Sl 37 a [(3, .int .i64 p3), (22, .slice A2 p2.length cap2), (23, .int .i64 (p2.length : Int)), (24, .int .i64 m0_0)]) FUEL ?_ ?_
        · exact ⟨0, H, rfl, hS.re ⟨rfl, rfl, rfl, rfl, trivial⟩⟩
        · clear H
          clear hS
          rintro k26 a w' ⟨m0_0, hpre0, hw, hS⟩
          subst hw
          have H := hpre0
          clear hpre0
          cases k26 with
          | zero => exact absurd H (by simp [resume_check.l0])
          | succ k26 =>
            rw [resume_check.l0] at H
            refine c_pure [(3, .int .i64 p3), (22, .slice A2 p2.length cap2), (23, .int .i64 (p2.length : Int)), (24, .int .i64 m0_0), (25, .bool (decide (m0_0 < (p2.length : Int))))] (fun R hR => st_val hS rfl rfl rfl (r_bin hS rfl rfl rfl b_lss) fun a27 hS27 => wpList_nil (hR _ (hS27.re ⟨rfl, rfl, rfl, rfl, rfl, trivial⟩))) ?_
            clear hS
            clear a
            intro a hS
            refine c_if hS rfl (fun hb28 => ?_) (fun hb28 => ?_)
            · replace H := ite_t hb28 H
              refine wp_skip ?_
              change Code.wp _ _ _ _ _
              refine wp_seq ?_
              refine wp_block ?_
              obtain ⟨x29, hx30, H⟩ := bind_el H
              refine c_pure [(3, .int .i64 p3), (11, .int .u64 x29), (22, .slice A2 p2.length cap2), (23, .int .i64 (p2.length : Int)), (24, .int .i64 m0_0)] (fun R hR => st_val hS rfl rfl rfl (r_index (e := 33) (sz := 1) (by_ := 8) hS rfl rfl rfl (by kernel_rfl) (RdS.some_ hp2 hx30) (idx_lo hx30) (idx_hi hx30)) fun a31 hS31 => st_val hS31 rfl rfl rfl (r_load1 (n := 1) hS31 rfl rfl (by kernel_rfl) (RdS.cell (i := m0_0) (sz := 1) (j := 0) hp2 hx30 rfl)) fun a32 hS32 => st_val hS32 rfl rfl rfl (r_assign hS32 rfl rfl) fun a33 hS33 => wpList_nil (hR _ (hS33.re ⟨rfl, rfl, rfl, rfl, rfl, trivial⟩))) ?_
              clear hS
              clear a
              intro a hS
              refine c_pure [(3, .int .i64 p3), (22, .slice A2 p2.length cap2), (23, .int .i64 (p2.length : Int)), (24, .int .i64 m0_0), (29, .bool (decide (9007199254740992 < x29)))] (fun R hR => st_val hS rfl rfl rfl (r_move hS rfl rfl) fun a34 hS34 => st_val hS34 rfl rfl rfl (r_bin hS34 rfl rfl rfl b_gtr) fun a35 hS35 => wpList_nil (hR _ (hS35.re ⟨rfl, rfl, rfl, rfl, rfl, trivial⟩))) ?_
              clear hS
              clear a
              intro a hS
              refine c_cond hS rfl (fun hb36 => ?_) (fun hb36 => ?_)
              · replace H := ite_t hb36 H
                refine c_pure [(8, .int .i64 1)] (fun R hR => st_val hS rfl rfl rfl (r_assign hS rfl rfl) fun a37 hS37 => wpList_nil (hR _ (hS37.re ⟨rfl, trivial⟩))) ?_
                clear hS
                clear a
                intro a hS
                refine wp_ret ?_
                have e := Option.some.inj H
                subst e
                replace H := Fl.go_out Hl22
                have e := Option.some.inj H
                subst e
                repeat (with_reducible first | refine then_ret ?_ | refine inBlock_ret ?_)
                exact c_ret1 hS Try.results35 rfl ⟨_, rfl, g7, rfl, hF⟩
              · replace H := ite_f hb36 H
                refine wp_skip ?_
                change Code.wp _ _ _ _ _
                refine c_pure1 [(3, .int .i64 p3), (22, .slice A2 p2.length cap2), (23, .int .i64 (p2.length : Int)), (24, .int .i64 (wi (m0_0 + 1)))] (fun R hR => st_val hS rfl rfl rfl (r_bin hS rfl rfl rfl b_add) fun a38 hS38 => st_val hS38 rfl rfl rfl (r_move hS38 rfl rfl) fun a39 hS39 => wpList_nil (hR _ (hS39.re ⟨rfl, rfl, rfl, rfl, trivial⟩))) ?_
                clear hS
                clear a
                intro a hS
                refine ⟨k26, Nat.lt_succ_self _, ?_⟩
                exact ⟨wi (m0_0 + 1), H, rfl, hS.re ⟨rfl, rfl, rfl, rfl, trivial⟩⟩
            · replace H := ite_f hb28 H
              refine wp_exit ?_
              have e := Option.some.inj H
              exact ⟨e.symm, rfl, hS.re ⟨rfl, trivial⟩⟩
      · clear H
        clear hS
        rintro a w' ⟨hpre0, hw, hS⟩
        subst hpre0
        subst hw
        have H := Fl.go_nxt Hl22
        clear Hl22
        refine wp_seq ?_
        refine c_region (fun K hK => ?_)
        refine st_val hS rfl rfl rfl (r_move hS rfl rfl) fun a40 hS40 => st_val hS40 rfl rfl rfl (r_bin hS40 rfl rfl rfl b_lss) fun a41 hS41 => st_val hS41 rfl rfl rfl (r_move hS41 rfl rfl) fun a42 hS42 => ?_
        refine g_join (N := 37) 3 [(36, .bool ((decide (p3 < 1)) || (decide (16 < p3))))] ?_ (fun hk => ?_)
        rotate_left
        · rcases Bool.eq_false_or_eq_true (decide (p3 < 1)) with hb43 | hb43
          · refine st_off hS42 (want_off hS42 rfl rfl rfl hb43) rfl rfl fun a46 hS46 => st_off hS46 (want_off hS46 rfl rfl rfl hb43) rfl rfl fun a47 hS47 => st_val hS47 rfl rfl rfl (r_pickT hS47 rfl rfl rfl hb43) fun a48 hS48 => hk _ (hS48.re ⟨(by rw [hb43]; rfl), trivial⟩)
          · refine st_valW hS42 (want_on hS42 rfl rfl rfl hb43) rfl rfl (r_move hS42 rfl rfl) fun a49 hS49 => st_valW hS49 (want_on hS49 rfl rfl rfl hb43) rfl rfl (r_bin hS49 rfl rfl rfl b_gtr) fun a50 hS50 => st_val hS50 rfl rfl rfl (r_pickF hS50 rfl rfl rfl hb43) fun a51 hS51 => hk _ (hS51.re ⟨(by rw [hb43]; rfl), trivial⟩)
        intro a52 hS52
        refine wpList_nil (hK _ _ ?_)
        replace hS : Sl 37 _ [(36, .bool ((decide (p3 < 1)) || (decide (16 < p3))))] := hS52.re ⟨rfl, trivial⟩
        clear hK K
        try clear hS40 hS41 hS42 hS52
        obtain ⟨a, ha⟩ : ∃ a', a' = a52 := ⟨_, rfl⟩
        rw [← ha] at hS ⊢; clear ha
        refine c_cond hS rfl (fun hb53 => ?_) (fun hb53 => ?_)
        · replace H := ite_t hb53 H
          refine c_pure [(8, .int .i64 1)] (fun R hR => st_val hS rfl rfl rfl (r_assign hS rfl rfl) fun a54 hS54 => wpList_nil (hR _ (hS54.re ⟨rfl, trivial⟩))) ?_
          clear hS
          clear a
          intro a hS
          refine wp_ret ?_
          have e := Option.some.inj H
          subst e
          repeat (with_reducible first | refine then_ret ?_ | refine inBlock_ret ?_)
          exact c_ret1 hS Try.results35 rfl ⟨_, rfl, g7, rfl, hF⟩
        · replace H := ite_f hb53 H
          refine wp_skip ?_
          change Code.wp _ _ _ _ _
          refine c_pure [(8, .int .i64 0)] (fun R hR => st_val hS rfl rfl rfl (r_assign hS rfl rfl) fun a55 hS55 => wpList_nil (hR _ (hS55.re ⟨rfl, trivial⟩))) ?_
          clear hS
          clear a
          intro a hS
          refine wp_ret ?_
          have e := Option.some.inj H
          subst e
          repeat (with_reducible first | refine then_ret ?_ | refine inBlock_ret ?_)
          exact c_ret1 hS Try.results35 rfl ⟨_, rfl, g7, rfl, hF⟩


end Go.Proofs.Ythmjgadmadlpkaa.Sim

namespace Go.Proofs.Ythmjgadmadlpkaa.Sim
open Go
set_option linter.unusedVariables false
set_option linter.unusedSimpArgs false

/-! ### resume_CriticalPath: function 20 -/
def resume_CriticalPath.l1 (p1 : List api_Link) (m0_1 : Int) (x64 : Int) (x89 : Int) : Nat → (List Int) → Int → Option ((List Int) × Int)
  | 0, _, _ => none
  | k99 + 1, m1_0, m1_1 => if decide (m1_1 < (p1.length : Int)) = true then (((idx p1 m1_1).bind fun x106 => if (x106.Supplier == x64) = true then ((idx m1_0 x106.Consumer).bind fun x122 => (idx m1_0 x64).bind fun x124 => some (upd m1_0 x106.Consumer (max x122 x124))) else (some m1_0) : Option ((List Int))).bind fun v103 => resume_CriticalPath.l1 p1 m0_1 x64 x89 k99 v103 (wi (m1_1 + 1))) else (some (m1_0, (max m0_1 x89)))
def resume_CriticalPath.l0 (p1 : List api_Link) (p2 : List Int) (r19 : (List Int) × Int) : Nat → (List Int) → Int → Int → Option (Int)
  | 0, _, _, _ => none
  | k57 + 1, m0_0, m0_1, m0_2 => if decide (m0_2 < (r19.1.length : Int)) = true then (((idx r19.1 m0_2).bind fun x64 => (idx m0_0 x64).bind fun x69 => (idx p2 x64).bind fun x71 => (idx (upd m0_0 x64 (wu (x69 + x71))) x64).bind fun x89 => resume_CriticalPath.l1 p1 m0_1 x64 x89 FUEL (upd m0_0 x64 (wu (x69 + x71))) 0 : Option ((List Int) × Int)).bind fun v61 => resume_CriticalPath.l0 p1 p2 r19 k57 v61.1 v61.2 (wi (m0_2 + 1))) else (some m0_1)
def resume_CriticalPath.f (p0 : Int) (p1 : List api_Link) (p2 : List Int) : Option (Int × Int) := (resume_check.f p0 p1 p2 1).bind fun r6 => if (r6 != 0) = true then (some (0, r6)) else ((depgraph_Order.f p0 p1).bind fun r19 => if (r19.2 != 0) = true then (some (0, r19.2)) else ((mk p0 0).bind fun y39 => (resume_CriticalPath.l0 p1 p2 r19 FUEL y39 0 0 : Option (Int)).bind fun v50 => some (v50, 0)))
set_option maxRecDepth 100000 in
set_option maxHeartbeats 4000000 in
theorem resume_CriticalPath.calls {p0 : Int} {p1 : List api_Link} {A1 : Option Addr} {cap1 : Nat} {C1 : Nat → Prop} {p2 : List Int} {A2 : Option Addr} {cap2 : Nat} {C2 : Nat → Prop} {w : World} {g : Nat → Nat} {out : Int × Int} (N : Nat) (hp1 : RdS kd_api_Link w g C1 A1 cap1 p1) (hC1 : ∀ c, C1 c → c < N) (hp2 : RdS (kint .u64) w g C2 A2 cap2 p2) (hC2 : ∀ c, C2 c → c < N) (H : resume_CriticalPath.f p0 p1 p2 = some out) :
    Calls Try.prog 20 #[.int .i64 p0, .slice A1 p1.length cap1, .slice A2 p2.length cap2] w (fun e w' => ∃ v, e = .returned v ∧ ∃ (g' : Nat → Nat), v = .tuple #[.int .u64 out.1, .int .i64 out.2] ∧ Fr (fun q => N ≤ q) w g w' g') := by
  unfold resume_CriticalPath.f at H
  refine calls_enter Try.func20 rfl Try.ntmps20 rfl (fun a hS => ?_)
  replace hS : Sl 84 a [(0, .int .i64 p0), (1, .slice A1 p1.length cap1), (2, .slice A2 p2.length cap2)] := hS
  have hF : Fr (fun q => N ≤ q) w g w g := Fr.refl _ _ _
  refine c_pure [(0, .int .i64 p0), (1, .slice A1 p1.length cap1), (2, .slice A2 p2.length cap2)] (fun R hR => st_val hS rfl rfl rfl (r_assign hS rfl rfl) fun a1 hS1 => st_val hS1 rfl rfl rfl (r_assign hS1 rfl rfl) fun a2 hS2 => wpList_nil (hR _ (hS2.re ⟨rfl, rfl, rfl, trivial⟩))) ?_
  clear hS
  clear a
  intro a hS
  refine wp_seq ?_
  obtain ⟨r6, hr7, H⟩ := bind_el H
  refine c_region (fun K hK => ?_)
  refine st_val hS rfl rfl rfl (r_move hS rfl rfl) fun a3 hS3 => st_val hS3 rfl rfl rfl (r_move hS3 rfl rfl) fun a4 hS4 => st_val hS4 rfl rfl rfl (r_move hS4 rfl rfl) fun a5 hS5 => ?_
  refine st_enter hS5 rfl rfl rfl (r_call hS5 rfl rfl (by kernel_rfl)) (resume_check.calls (C1 := C1) (C2 := C2) (p0 := p0) (p1 := p1) (p2 := p2) (p3 := 1) (g := g) (N + 6)  hp1 (fun q (hq : C1 q) => by have := hC1 q hq; omega) hp2 (fun q (hq : C2 q) => by have := hC2 q hq; omega) hr7) ?_
  rintro _ a8 w9 ⟨g9, rfl, F9⟩ hS8
  replace hp1 := RdS.fr hp1 F9 (by decide) (fun q (hq : C1 q) (hm : N + 6 ≤ q) => by have := hC1 q hq; omega)
  replace hp2 := RdS.fr hp2 F9 (by decide) (fun q (hq : C2 q) (hm : N + 6 ≤ q) => by have := hC2 q hq; omega)
  replace hF := hF.trans F9 (fun c' (hm : N + 6 ≤ c') => by show N ≤ c'; omega)
  refine st_val hS8 rfl rfl rfl (r_assign hS8 rfl rfl) fun a10 hS10 => wpList_nil (hK _ _ ?_)
  replace hS : Sl 84 _ [(0, .int .i64 p0), (1, .slice A1 p1.length cap1), (2, .slice A2 p2.length cap2), (8, .int .i64 r6)] := hS10.re ⟨rfl, rfl, rfl, rfl, trivial⟩
  clear hK K
  try clear hS3 hS4 hS5 hS8 hS10
  obtain ⟨a, ha⟩ : ∃ a', a' = a10 := ⟨_, rfl⟩
  rw [← ha] at hS ⊢; clear ha
  refine c_pure [(0, .int .i64 p0), (1, .slice A1 p1.length cap1), (2, .slice A2 p2.length cap2), (8, .int .i64 r6), (22, .bool (r6 != 0))] (fun R hR => st_val hS rfl rfl rfl (r_move hS rfl rfl) fun a11 hS11 => st_val hS11 rfl rfl rfl (r_bin hS11 rfl rfl rfl b_neq) fun a12 hS12 => wpList_nil (hR _ (hS12.re ⟨rfl, rfl, rfl, rfl, rfl, trivial⟩))) ?_
  clear hS
  clear a
  intro a hS
  refine c_cond hS rfl (fun hb13 => ?_) (fun hb13 => ?_)
  · replace H := ite_t hb13 H
    refine c_pure [(6, .int .u64 0), (7, .int .i64 r6)] (fun R hR => st_val hS rfl rfl rfl (r_move hS rfl rfl) fun a14 hS14 => st_val hS14 rfl rfl rfl (r_assign hS14 rfl rfl) fun a15 hS15 => st_val hS15 rfl rfl rfl (r_assign hS15 rfl rfl) fun a16 hS16 => wpList_nil (hR _ (hS16.re ⟨rfl, rfl, trivial⟩))) ?_
    clear hS
    clear a
    intro a hS
    refine wp_ret ?_
    have e := Option.some.inj H
    subst e
    repeat (with_reducible first | refine then_ret ?_ | refine inBlock_ret ?_)
    exact c_ret2 hS Try.results20 rfl rfl ⟨_, rfl, g9, rfl, hF⟩
  · replace H := ite_f hb13 H
    refine wp_skip ?_
    change Code.wp _ _ _ _ _
    obtain ⟨r19, hr20, H⟩ := bind_el H
    refine c_region (fun K hK => ?_)
    refine st_val hS rfl rfl rfl (r_move hS rfl rfl) fun a17 hS17 => st_val hS17 rfl rfl rfl (r_move hS17 rfl rfl) fun a18 hS18 => ?_
    refine st_enter hS18 rfl rfl rfl (r_call hS18 rfl rfl (by kernel_rfl)) (depgraph_Order.calls (C1 := C1) (p0 := p0) (p1 := p1) (g := g9) (N + 6) (N + 0) hp1 (fun q (hq : C1 q) => by have := hC1 q hq; omega) (by omega) hr20) ?_
    rintro _ a25 w26 ⟨g26, A21, cap22, rfl, h23, F26⟩ hS25
    replace hp1 := RdS.fr hp1 F26 (by decide) (fun q (hq : C1 q) (hm : (N + 0 ≤ q ∧ q < N + 0 + 2) ∨ N + 6 ≤ q) => by have := hC1 q hq; omega)
    replace hp2 := RdS.fr hp2 F26 (by decide) (fun q (hq : C2 q) (hm : (N + 0 ≤ q ∧ q < N + 0 + 2) ∨ N + 6 ≤ q) => by have := hC2 q hq; omega)
    replace hF := hF.trans F26 (fun c' (hm : (N + 0 ≤ c' ∧ c' < N + 0 + 2) ∨ N + 6 ≤ c') => by show N ≤ c'; omega)
    refine st_val hS25 rfl rfl rfl (r_move hS25 rfl rfl) fun a27 hS27 => st_val hS27 rfl rfl rfl (r_extract hS27 rfl rfl rfl) fun a28 hS28 => st_val hS28 rfl rfl rfl (r_extract hS28 rfl rfl rfl) fun a29 hS29 => st_val hS29 rfl rfl rfl (r_assign hS29 rfl rfl) fun a30 hS30 => st_val hS30 rfl rfl rfl (r_assign hS30 rfl rfl) fun a31 hS31 => wpList_nil (hK _ _ ?_)
    replace hS : Sl 84 _ [(0, .int .i64 p0), (1, .slice A1 p1.length cap1), (2, .slice A2 p2.length cap2), (9, .slice A21 r19.1.length cap22), (10, .int .i64 r19.2)] := hS31.re ⟨rfl, rfl, rfl, rfl, rfl, trivial⟩
    clear hK K
    try clear hS17 hS18 hS25 hS27 hS28 hS29 hS30 hS31
    obtain ⟨a, ha⟩ : ∃ a', a' = a31 := ⟨_, rfl⟩
    rw [← ha] at hS ⊢; clear ha
    refine wp_seq ?_
    refine c_pure [(0, .int .i64 p0), (1, .slice A1 p1.length cap1), (2, .slice A2 p2.length cap2), (9, .slice A21 r19.1.length cap22), (10, .int .i64 r19.2), (31, .bool (r19.2 != 0))] (fun R hR => st_val hS rfl rfl rfl (r_move hS rfl rfl) fun a32 hS32 => st_val hS32 rfl rfl rfl (r_bin hS32 rfl rfl rfl b_neq) fun a33 hS33 => wpList_nil (hR _ (hS33.re ⟨rfl, rfl, rfl, rfl, rfl, rfl, trivial⟩))) ?_
    clear hS
    clear a
    intro a hS
    refine c_cond hS rfl (fun hb34 => ?_) (fun hb34 => ?_)
    · replace H := ite_t hb34 H
      refine c_pure [(6, .int .u64 0), (7, .int .i64 r19.2)] (fun R hR => st_val hS rfl rfl rfl (r_move hS rfl rfl) fun a35 hS35 => st_val hS35 rfl rfl rfl (r_assign hS35 rfl rfl) fun a36 hS36 => st_val hS36 rfl rfl rfl (r_assign hS36 rfl rfl) fun a37 hS37 => wpList_nil (hR _ (hS37.re ⟨rfl, rfl, trivial⟩))) ?_
      clear hS
      clear a
      intro a hS
      refine wp_ret ?_
      have e := Option.some.inj H
      subst e
      repeat (with_reducible first | refine then_ret ?_ | refine inBlock_ret ?_)
      exact c_ret2 hS Try.results20 rfl rfl ⟨_, rfl, g26, rfl, hF⟩
    · replace H := ite_f hb34 H
      refine wp_skip ?_
      change Code.wp _ _ _ _ _
      obtain ⟨y39, hy40, H⟩ := bind_el H
      refine c_region (fun K hK => ?_)
      refine st_val hS rfl rfl rfl (r_move hS rfl rfl) fun a38 hS38 => ?_
      refine st_eff hS38 rfl rfl rfl (e_make (e := 33) (sz := 1) (by_ := 8) (z := [.int .u64 0]) (kd := (kint .u64)) (N + 2) g26 hS38 rfl rfl (by kernel_rfl) (by kernel_rfl) rfl rfl rfl (fun _ _ _ => by exact rfl) hy40) ?_
      rintro _ a45 w46 g46 ⟨⟨A41, cap42, rfl, h43⟩, F46⟩ hS45
      replace h23 := OwS.fr h23 F46 (fun _ _ h => h)
      replace hp1 := RdS.fr hp1 F46 (by decide) (fun _ _ h => h)
      replace hp2 := RdS.fr hp2 F46 (by decide) (fun _ _ h => h)
      replace hF := hF.trans F46 (fun _ h => h.elim)
      refine st_val hS45 rfl rfl rfl (r_assign hS45 rfl rfl) fun a47 hS47 => wpList_nil (hK _ _ ?_)
      replace hS : Sl 84 _ [(1, .slice A1 p1.length cap1), (2, .slice A2 p2.length cap2), (9, .slice A21 r19.1.length cap22), (11, .slice A41 y39.length cap42)] := hS47.re ⟨rfl, rfl, rfl, rfl, trivial⟩
      clear hK K
      try clear hS38 hS45 hS47
      obtain ⟨a, ha⟩ : ∃ a', a' = a47 := ⟨_, rfl⟩
      rw [← ha] at hS ⊢; clear ha
      refine c_pure [(1, .slice A1 p1.length cap1), (2, .slice A2 p2.length cap2), (9, .slice A21 r19.1.length cap22), (11, .slice A41 y39.length cap42), (12, .int .u64 0)] (fun R hR => st_val hS rfl rfl rfl (r_assign hS rfl rfl) fun a48 hS48 => wpList_nil (hR _ (hS48.re ⟨rfl, rfl, rfl, rfl, rfl, trivial⟩))) ?_
      clear hS
      clear a
      intro a hS
      obtain ⟨v50, H, Hl52⟩ := bind_el H
      refine c_cut (fun a w49 => ∃ (g49 : Nat → Nat), Sl 84 a [(12, .int .u64 v50)] ∧ Fr (fun q => N ≤ q) w g w49 g49) ?_ ?_
      · refine c_pure [(1, .slice A1 p1.length cap1), (2, .slice A2 p2.length cap2), (11, .slice A41 y39.length cap42), (12, .int .u64 0), (35, .slice A21 r19.1.length cap22), (36, .int .i64 (r19.1.length : Int)), (37, .int .i64 0)] (fun R hR => st_val hS rfl rfl rfl (r_move hS rfl rfl) fun a53 hS53 => st_val hS53 rfl rfl rfl (r_len (e := 3) (sz := 1) (by_ := 8) hS53 rfl rfl (by kernel_rfl)) fun a54 hS54 => st_val hS54 rfl rfl rfl (r_move hS54 rfl rfl) fun a55 hS55 => wpList_nil (hR _ (hS55.re ⟨rfl, rfl, rfl, rfl, rfl, rfl, rfl, trivial⟩))) ?_
        clear hS
        clear a
        intro a hS
        refine wp_block ?_
        refine wp_loop_ghost (fun kq => fun a w56 => ∃ (m0_0 : List Int), ∃ (m0_1 : Int), ∃ (m0_2 : Int), ∃ (g56 : Nat → Nat), resume_CriticalPath.l0 p1 p2 r19 kq m0_0 m0_1 m0_2 = some v50 ∧ Sl 84 a [(1, .slice A1 p1.length cap1), (2, .slice A2 p2.length cap2), (11, .slice A41 m0_0.length cap42), (12, .int .u64 m0_1), (35, .slice A21 r19.1.length cap22), (36, .int .i64 (r19.1.length : Int)), (37, .int .i64 m0_2)] ∧ OwS (kint .i64) 3 w56 g56 (N + 0) A21 cap22 r19.1 ∧ OwS (kint .u64) 33 w56 g56 (N + 2) A41 cap42 m0_0 ∧ RdS kd_api_Link w56 g56 C1 A1 cap1 p1 ∧ RdS (kint .u64) w56 g56 C2 A2 cap2 p2 ∧ Fr (fun q => N ≤ q) w g w56 g56) FUEL ?_ ?_
        · exact ⟨y39, 0, 0, g46, H, hS.re ⟨rfl, rfl, rfl, rfl, rfl, rfl, rfl, trivial⟩, h23, h43, hp1, hp2, hF⟩
        · clear H
          clear hp1 hp2 h23 h43 hF
          clear hS
          rintro k57 a w56 ⟨m0_0, m0_1, m0_2, g56, hpre0, hS, h23, h43, hp1, hp2, hF⟩
          have H := hpre0
          clear hpre0
          cases k57 with
          | zero => exact absurd H (by simp [resume_CriticalPath.l0])
          | succ k57 =>
            rw [resume_CriticalPath.l0] at H
            refine c_pure [(1, .slice A1 p1.length cap1), (2, .slice A2 p2.length cap2), (11, .slice A41 m0_0.length cap42), (12, .int .u64 m0_1), (35, .slice A21 r19.1.length cap22), (36, .int .i64 (r19.1.length : Int)), (37, .int .i64 m0_2), (38, .bool (decide (m0_2 < (r19.1.length : Int))))] (fun R hR => st_val hS rfl rfl rfl (r_bin hS rfl rfl rfl b_lss) fun a58 hS58 => wpList_nil (hR _ (hS58.re ⟨rfl, rfl, rfl, rfl, rfl, rfl, rfl, rfl, trivial⟩))) ?_
            clear hS
            clear a
            intro a hS
            refine c_if hS rfl (fun hb59 => ?_) (fun hb59 => ?_)
            · replace H := ite_t hb59 H
              refine wp_skip ?_
              change Code.wp _ _ _ _ _
              obtain ⟨v61, H, Hl63⟩ := bind_el H
              refine c_cut (fun a w60 => ∃ (g60 : Nat → Nat), Sl 84 a [(1, .slice A1 p1.length cap1), (2, .slice A2 p2.length cap2), (11, .slice A41 v61.1.length cap42), (12, .int .u64 v61.2), (35, .slice A21 r19.1.length cap22), (36, .int .i64 (r19.1.length : Int)), (37, .int .i64 m0_2)] ∧ OwS (kint .i64) 3 w60 g60 (N + 0) A21 cap22 r19.1 ∧ OwS (kint .u64) 33 w60 g60 (N + 2) A41 cap42 v61.1 ∧ RdS kd_api_Link w60 g60 C1 A1 cap1 p1 ∧ RdS (kint .u64) w60 g60 C2 A2 cap2 p2 ∧ Fr (fun q => N ≤ q) w g w60 g60) ?_ ?_
              · refine wp_block ?_
                obtain ⟨x64, hx65, H⟩ := bind_el H
                refine c_pure [(1, .slice A1 p1.length cap1), (2, .slice A2 p2.length cap2), (11, .slice A41 m0_0.length cap42), (12, .int .u64 m0_1), (14, .int .i64 x64), (35, .slice A21 r19.1.length cap22), (36, .int .i64 (r19.1.length : Int)), (37, .int .i64 m0_2)] (fun R hR => st_val hS rfl rfl rfl (r_index (e := 3) (sz := 1) (by_ := 8) hS rfl rfl rfl (by kernel_rfl) (RdS.some_ (OwS.rd h23) hx65) (idx_lo hx65) (idx_hi hx65)) fun a66 hS66 => st_val hS66 rfl rfl rfl (r_load1 (n := 1) hS66 rfl rfl (by kernel_rfl) (RdS.cell (i := m0_2) (sz := 1) (j := 0) (OwS.rd h23) hx65 rfl)) fun a67 hS67 => st_val hS67 rfl rfl rfl (r_assign hS67 rfl rfl) fun a68 hS68 => wpList_nil (hR _ (hS68.re ⟨rfl, rfl, rfl, rfl, rfl, rfl, rfl, rfl, trivial⟩))) ?_
                clear hS
                clear a
                intro a hS
                obtain ⟨x69, hx70, H⟩ := bind_el H
                obtain ⟨x71, hx72, H⟩ := bind_el H
                refine c_draw (fun K hK => d_start (fun q => False) g56 [10] 11 #[false, false, false, false, false, false, false, false, false, false, false] (by kernel_rfl) rfl rfl (fun w73 hw73 => ?_))
                have F73 : Fr (fun _ => False) w56 g56 w73 g56 := by rw [hw73]; exact Fr.drew _ _ _
                replace h23 := OwS.fr h23 F73 (fun _ _ h => h)
                replace h43 := OwS.fr h43 F73 (fun _ _ h => h)
                replace hp1 := RdS.fr hp1 F73 (by decide) (fun _ _ h => h)
                replace hp2 := RdS.fr hp2 F73 (by decide) (fun _ _ h => h)
                replace hF := hF.trans F73 (fun _ h => h.elim)
                have hC : Fr (fun q => False) w73 g56 w73 g56 := Fr.refl _ _ _
                refine d_pure hS 0 #[true, false, false, false, false, false, false, false, false, false, false] rfl rfl rfl rfl (by kernel_rfl) (fun _ _ _ h => h) (fun _ => (r_move hS rfl rfl)) fun a74 hS74 => d_pure hS74 1 #[true, true, false, false, false, false, false, false, false, false, false] rfl rfl rfl rfl (by kernel_rfl) (fun _ _ _ h => h) (fun _ => (r_move hS74 rfl rfl)) fun a75 hS75 => d_pure hS75 2 #[true, true, true, false, false, false, false, false, false, false, false] rfl rfl rfl rfl (by kernel_rfl) (fun _ _ _ h => h) (fun _ => (r_index (e := 33) (sz := 1) (by_ := 8) hS75 rfl rfl rfl (by kernel_rfl) (RdS.some_ (OwS.rd h43) hx70) (idx_lo hx70) (idx_hi hx70))) fun a76 hS76 => d_take hS76 3 #[true, true, true, true, false, false, false, false, false, false, false] rfl rfl rfl rfl (by kernel_rfl) (fun _ _ _ h => h) ⟨_, hC⟩ (fun w' g' Fz => (r_load1 (n := 1) hS76 rfl rfl (by kernel_rfl) (RdS.cell (i := x64) (sz := 1) (j := 0) (OwS.rd (OwS.fr h43 Fz (fun _ _ h => h))) hx70 rfl))) fun a77 hS77 => d_pure hS77 4 #[true, true, true, true, true, false, false, false, false, false, false] rfl rfl rfl rfl (by kernel_rfl) (fun _ _ _ h => h) (fun _ => (r_move hS77 rfl rfl)) fun a78 hS78 => d_pure hS78 5 #[true, true, true, true, true, true, false, false, false, false, false] rfl rfl rfl rfl (by kernel_rfl) (fun _ _ _ h => h) (fun _ => (r_move hS78 rfl rfl)) fun a79 hS79 => d_pure hS79 6 #[true, true, true, true, true, true, true, false, false, false, false] rfl rfl rfl rfl (by kernel_rfl) (fun _ _ _ h => h) (fun _ => (r_index (e := 33) (sz := 1) (by_ := 8) hS79 rfl rfl rfl (by kernel_rfl) (RdS.some_ hp2 hx72) (idx_lo hx72) (idx_hi hx72))) fun a80 hS80 => d_take hS80 7 #[true, true, true, true, true, true, true, true, false, false, false] rfl rfl rfl rfl (by kernel_rfl) (fun _ _ _ h => h) ⟨_, hC⟩ (fun w' g' Fz => (r_load1 (n := 1) hS80 rfl rfl (by kernel_rfl) (RdS.cell (i := x64) (sz := 1) (j := 0) (RdS.fr hp2 Fz (by decide) (fun _ _ h => h)) hx72 rfl))) fun a81 hS81 => d_pure hS81 8 #[true, true, true, true, true, true, true, true, true, false, false] rfl rfl rfl rfl (by kernel_rfl) (fun _ _ _ h => h) (fun _ => (r_bin hS81 rfl rfl rfl b_add)) fun a82 hS82 => d_pure hS82 9 #[true, true, true, true, true, true, true, true, true, true, false] rfl rfl rfl rfl (by kernel_rfl) (fun _ _ _ h => h) (fun _ => (r_index (e := 33) (sz := 1) (by_ := 8) hS82 rfl rfl rfl (by kernel_rfl) (RdS.some_ (OwS.rd h43) hx70) (idx_lo hx70) (idx_hi hx70))) fun a83 hS83 => ?_
                refine d_one 10 #[true, true, true, true, true, true, true, true, true, true, true] rfl (by kernel_rfl) (arm_effS hS83 rfl rfl (e_storeE (n := 1) (bb := false) (kd := (kint .u64)) (j := 0) (x' := wu (x69 + x71)) (us := [.int .u64 (wu (x69 + x71))]) g56 hS83 rfl rfl rfl rfl (by kernel_rfl) rfl rfl (by intro v hv; simp only [List.mem_cons, List.not_mem_nil, or_false] at hv; rcases hv with rfl <;> rfl) h43 hx70 rfl (fun _ _ cs hR => by rw [show cs = _ from hR]; rfl)) (.inl (by decide)) ?_)
                rintro a84 w85 g85 ⟨h43, F85⟩ hS84
                replace h23 := OwS.fr h23 F85 (fun c' hc (hm : c' = N + 2) => by omega)
                replace hp1 := RdS.fr hp1 F85 (by decide) (fun q (hq : C1 q) (hm : q = N + 2) => by have := hC1 q hq; omega)
                replace hp2 := RdS.fr hp2 F85 (by decide) (fun q (hq : C2 q) (hm : q = N + 2) => by have := hC2 q hq; omega)
                replace hF := hF.trans F85 (fun c' (hm : c' = N + 2) => by show N ≤ c'; omega)
                have hT : Sl 84 a84 [(1, .slice A1 p1.length cap1), (2, .slice A2 p2.length cap2), (11, .slice A41 m0_0.length cap42), (12, .int .u64 m0_1), (14, .int .i64 x64), (35, .slice A21 r19.1.length cap22), (36, .int .i64 (r19.1.length : Int)), (37, .int .i64 m0_2)] := hS84.re ⟨rfl, rfl, rfl, rfl, rfl, rfl, rfl, rfl, trivial⟩
                replace hS84 : Sl 84 a84 [(1, .slice A1 p1.length cap1), (2, .slice A2 p2.length cap2), (11, .slice A41 (upd m0_0 x64 (wu (x69 + x71))).length cap42), (12, .int .u64 m0_1), (14, .int .i64 x64), (35, .slice A21 r19.1.length cap22), (36, .int .i64 (r19.1.length : Int)), (37, .int .i64 m0_2)] := by simpa only [upd_length] using hT
                clear hT
                refine d_done (by kernel_rfl) (hK _ _ ?_)
                replace hS : Sl 84 _ [(1, .slice A1 p1.length cap1), (2, .slice A2 p2.length cap2), (11, .slice A41 (upd m0_0 x64 (wu (x69 + x71))).length cap42), (12, .int .u64 m0_1), (14, .int .i64 x64), (35, .slice A21 r19.1.length cap22), (36, .int .i64 (r19.1.length : Int)), (37, .int .i64 m0_2)] := hS84.re ⟨rfl, rfl, rfl, rfl, rfl, rfl, rfl, rfl, trivial⟩
                clear hK K hC
                try clear hS74 hS75 hS76 hS77 hS78 hS79 hS80 hS81 hS82 hS83 hS84
                obtain ⟨a, ha⟩ : ∃ a', a' = a84 := ⟨_, rfl⟩
                rw [← ha] at hS ⊢; clear ha
                obtain ⟨x89, hx90, H⟩ := bind_el H
                refine c_pure [(1, .slice A1 p1.length cap1), (2, .slice A2 p2.length cap2), (11, .slice A41 (upd m0_0 x64 (wu (x69 + x71))).length cap42), (12, .int .u64 (max m0_1 x89)), (14, .int .i64 x64), (35, .slice A21 r19.1.length cap22), (36, .int .i64 (r19.1.length : Int)), (37, .int .i64 m0_2)] (fun R hR => st_val hS rfl rfl rfl (r_move hS rfl rfl) fun a86 hS86 => st_val hS86 rfl rfl rfl (r_move hS86 rfl rfl) fun a87 hS87 => st_val hS87 rfl rfl rfl (r_move hS87 rfl rfl) fun a88 hS88 => st_val hS88 rfl rfl rfl (r_index (e := 33) (sz := 1) (by_ := 8) hS88 rfl rfl rfl (by kernel_rfl) (RdS.some_ (OwS.rd h43) hx90) (idx_lo hx90) (idx_hi hx90)) fun a91 hS91 => st_val hS91 rfl rfl rfl (r_load1 (n := 1) hS91 rfl rfl (by kernel_rfl) (RdS.cell (i := x64) (sz := 1) (j := 0) (OwS.rd h43) hx90 rfl)) fun a92 hS92 => st_val hS92 rfl rfl rfl (r_max hS92 rfl rfl rfl) fun a93 hS93 => st_val hS93 rfl rfl rfl (r_assign hS93 rfl rfl) fun a94 hS94 => wpList_nil (hR _ (hS94.re ⟨rfl, rfl, rfl, rfl, rfl, rfl, rfl, rfl, trivial⟩))) ?_
                clear hS
                clear a
                intro a hS
                refine c_pure [(1, .slice A1 p1.length cap1), (2, .slice A2 p2.length cap2), (11, .slice A41 (upd m0_0 x64 (wu (x69 + x71))).length cap42), (12, .int .u64 (max m0_1 x89)), (14, .int .i64 x64), (35, .slice A21 r19.1.length cap22), (36, .int .i64 (r19.1.length : Int)), (37, .int .i64 m0_2), (57, .slice A1 p1.length cap1), (58, .int .i64 (p1.length : Int)), (59, .int .i64 0)] (fun R hR => st_val hS rfl rfl rfl (r_move hS rfl rfl) fun a95 hS95 => st_val hS95 rfl rfl rfl (r_len (e := 43) (sz := 2) (by_ := 16) hS95 rfl rfl (by kernel_rfl)) fun a96 hS96 => st_val hS96 rfl rfl rfl (r_move hS96 rfl rfl) fun a97 hS97 => wpList_nil (hR _ (hS97.re ⟨rfl, rfl, rfl, rfl, rfl, rfl, rfl, rfl, rfl, rfl, rfl, trivial⟩))) ?_
                clear hS
                clear a
                intro a hS
                refine wp_block ?_
                refine wp_loop_ghost (fun kq => fun a w98 => ∃ (m1_0 : List Int), ∃ (m1_1 : Int), ∃ (g98 : Nat → Nat), resume_CriticalPath.l1 p1 m0_1 x64 x89 kq m1_0 m1_1 = some v61 ∧ Sl 84 a [(1, .slice A1 p1.length cap1), (2, .slice A2 p2.length cap2), (11, .slice A41 m1_0.length cap42), (12, .int .u64 (max m0_1 x89)), (14, .int .i64 x64), (35, .slice A21 r19.1.length cap22), (36, .int .i64 (r19.1.length : Int)), (37, .int .i64 m0_2), (57, .slice A1 p1.length cap1), (58, .int .i64 (p1.length : Int)), (59, .int .i64 m1_1)] ∧ OwS (kint .i64) 3 w98 g98 (N + 0) A21 cap22 r19.1 ∧ OwS (kint .u64) 33 w98 g98 (N + 2) A41 cap42 m1_0 ∧ RdS kd_api_Link w98 g98 C1 A1 cap1 p1 ∧ RdS (kint .u64) w98 g98 C2 A2 cap2 p2 ∧ Fr (fun q => N ≤ q) w g w98 g98) FUEL ?_ ?_
                · exact ⟨(upd m0_0 x64 (wu (x69 + x71))), 0, g85, H, hS.re ⟨rfl, rfl, rfl, rfl, rfl, rfl, rfl, rfl, rfl, rfl, rfl, trivial⟩, h23, h43, hp1, hp2, hF⟩
                · clear H
                  clear hp1 hp2 h23 h43 hF
                  clear hS
                  rintro k99 a w98 ⟨m1_0, m1_1, g98, hpre0, hS, h23, h43, hp1, hp2, hF⟩
                  have H := hpre0
                  clear hpre0
                  cases k99 with
                  | zero => exact absurd H (by simp [resume_CriticalPath.l1])
                  | succ k99 =>
                    rw [resume_CriticalPath.l1] at H
                    refine c_pure [(1, .slice A1 p1.length cap1), (2, .slice A2 p2.length cap2), (11, .slice A41 m1_0.length cap42), (12, .int .u64 (max m0_1 x89)), (14, .int .i64 x64), (35, .slice A21 r19.1.length cap22), (36, .int .i64 (r19.1.length : Int)), (37, .int .i64 m0_2), (57, .slice A1 p1.length cap1), (58, .int .i64 (p1.length : Int)), (59, .int .i64 m1_1), (60, .bool (decide (m1_1 < (p1.length : Int))))] (fun R hR => st_val hS rfl rfl rfl (r_bin hS rfl rfl rfl b_lss) fun a100 hS100 => wpList_nil (hR _ (hS100.re ⟨rfl, rfl, rfl, rfl, rfl, rfl, rfl, rfl, rfl, rfl, rfl, rfl, trivial⟩))) ?_
                    clear hS
                    clear a
                    intro a hS
                    refine c_if hS rfl (fun hb101 => ?_) (fun hb101 => ?_)
                    · replace H := ite_t hb101 H
                      refine wp_skip ?_
                      change Code.wp _ _ _ _ _
                      obtain ⟨v103, H, Hl105⟩ := bind_el H
                      refine c_cut (fun a w102 => ∃ (g102 : Nat → Nat), Sl 84 a [(1, .slice A1 p1.length cap1), (2, .slice A2 p2.length cap2), (11, .slice A41 v103.length cap42), (12, .int .u64 (max m0_1 x89)), (14, .int .i64 x64), (35, .slice A21 r19.1.length cap22), (36, .int .i64 (r19.1.length : Int)), (37, .int .i64 m0_2), (57, .slice A1 p1.length cap1), (58, .int .i64 (p1.length : Int)), (59, .int .i64 m1_1)] ∧ OwS (kint .i64) 3 w102 g102 (N + 0) A21 cap22 r19.1 ∧ OwS (kint .u64) 33 w102 g102 (N + 2) A41 cap42 v103 ∧ RdS kd_api_Link w102 g102 C1 A1 cap1 p1 ∧ RdS (kint .u64) w102 g102 C2 A2 cap2 p2 ∧ Fr (fun q => N ≤ q) w g w102 g102) ?_ ?_
                      · refine wp_block ?_
                        obtain ⟨x106, hx107, H⟩ := bind_el H
                        refine c_region (fun K hK => ?_)
                        refine st_val hS rfl rfl rfl (r_index (e := 43) (sz := 2) (by_ := 16) hS rfl rfl rfl (by kernel_rfl) (RdS.some_ hp1 hx107) (idx_lo hx107) (idx_hi hx107)) fun a108 hS108 => st_val hS108 rfl rfl rfl (r_loadN (n := 2) (cs := [.int .i64 x106.Consumer, .int .i64 x106.Supplier]) hS108 rfl rfl (by kernel_rfl) rfl (RdS.cells_off hp1 hx107 0 2)) fun a109 hS109 => ?_
                        refine st_eff hS109 rfl rfl rfl (e_alloc (cs := [.int .i64 0, .int .i64 0]) (N + 4) g98 hS109 rfl (by kernel_rfl)) ?_
                        rintro _ a113 w114 g114 ⟨⟨b110, rfl, h111⟩, F114⟩ hS113
                        replace h23 := OwS.fr h23 F114 (fun _ _ h => h)
                        replace h43 := OwS.fr h43 F114 (fun _ _ h => h)
                        replace hp1 := RdS.fr hp1 F114 (by decide) (fun _ _ h => h)
                        replace hp2 := RdS.fr hp2 F114 (by decide) (fun _ _ h => h)
                        replace hF := hF.trans F114 (fun _ h => h.elim)
                        refine st_effS hS113 rfl rfl (e_storeB (n := 2) (bb := true) (cs' := [.int .i64 x106.Consumer, .int .i64 x106.Supplier]) g114 hS113 rfl rfl rfl (by kernel_rfl) rfl rfl rfl h111 rfl rfl) ?_
                        rintro a115 w116 g116 ⟨h111, F116⟩ hS115
                        replace h23 := OwS.fr h23 F116 (fun c' hc (hm : c' = N + 4) => by omega)
                        replace h43 := OwS.fr h43 F116 (fun c' hc (hm : c' = N + 4) => by omega)
                        replace hp1 := RdS.fr hp1 F116 (by decide) (fun q (hq : C1 q) (hm : q = N + 4) => by have := hC1 q hq; omega)
                        replace hp2 := RdS.fr hp2 F116 (by decide) (fun q (hq : C2 q) (hm : q = N + 4) => by have := hC2 q hq; omega)
                        replace hF := hF.trans F116 (fun c' (hm : c' = N + 4) => by show N ≤ c'; omega)
                        refine wpList_nil (hK _ _ ?_)
                        replace hS : Sl 84 _ [(1, .slice A1 p1.length cap1), (2, .slice A2 p2.length cap2), (11, .slice A41 m1_0.length cap42), (12, .int .u64 (max m0_1 x89)), (14, .int .i64 x64), (16, .pointer (some ⟨b110, 0, none⟩)), (35, .slice A21 r19.1.length cap22), (36, .int .i64 (r19.1.length : Int)), (37, .int .i64 m0_2), (57, .slice A1 p1.length cap1), (58, .int .i64 (p1.length : Int)), (59, .int .i64 m1_1)] := hS115.re ⟨rfl, rfl, rfl, rfl, rfl, rfl, rfl, rfl, rfl, rfl, rfl, rfl, trivial⟩
                        clear hK K
                        try clear hS108 hS109 hS113 hS115
                        obtain ⟨a, ha⟩ : ∃ a', a' = a115 := ⟨_, rfl⟩
                        rw [← ha] at hS ⊢; clear ha
                        refine c_pure [(1, .slice A1 p1.length cap1), (2, .slice A2 p2.length cap2), (11, .slice A41 m1_0.length cap42), (12, .int .u64 (max m0_1 x89)), (14, .int .i64 x64), (16, .pointer (some ⟨b110, 0, none⟩)), (35, .slice A21 r19.1.length cap22), (36, .int .i64 (r19.1.length : Int)), (37, .int .i64 m0_2), (57, .slice A1 p1.length cap1), (58, .int .i64 (p1.length : Int)), (59, .int .i64 m1_1), (66, .bool (x106.Supplier == x64))] (fun R hR => st_val hS rfl rfl rfl (r_fieldB (off := 1) hS rfl rfl (by kernel_rfl)) fun a117 hS117 => st_val hS117 rfl rfl rfl (r_load1 (n := 1) hS117 rfl rfl (by kernel_rfl) (Bx.cell h111 rfl)) fun a118 hS118 => st_val hS118 rfl rfl rfl (r_move hS118 rfl rfl) fun a119 hS119 => st_val hS119 rfl rfl rfl (r_bin hS119 rfl rfl rfl b_eql) fun a120 hS120 => wpList_nil (hR _ (hS120.re ⟨rfl, rfl, rfl, rfl, rfl, rfl, rfl, rfl, rfl, rfl, rfl, rfl, rfl, trivial⟩))) ?_
                        clear hS
                        clear a
                        intro a hS
                        refine c_cond hS rfl (fun hb121 => ?_) (fun hb121 => ?_)
                        · replace H := ite_t hb121 H
                          obtain ⟨x122, hx123, H⟩ := bind_el H
                          obtain ⟨x124, hx125, H⟩ := bind_el H
                          refine c_draw1 (fun K hK => d_start (fun q => False) g116 [14] 15 #[false, false, false, false, false, false, false, false, false, false, false, false, false, false, false] (by kernel_rfl) rfl rfl (fun w126 hw126 => ?_))
                          have F126 : Fr (fun _ => False) w116 g116 w126 g116 := by rw [hw126]; exact Fr.drew _ _ _
                          replace h111 := h111.fr F126 (fun h => h)
                          replace h23 := OwS.fr h23 F126 (fun _ _ h => h)
                          replace h43 := OwS.fr h43 F126 (fun _ _ h => h)
                          replace hp1 := RdS.fr hp1 F126 (by decide) (fun _ _ h => h)
                          replace hp2 := RdS.fr hp2 F126 (by decide) (fun _ _ h => h)
                          replace hF := hF.trans F126 (fun _ h => h.elim)
                          have hC : Fr (fun q => False) w126 g116 w126 g116 := Fr.refl _ _ _
                          refine d_pure hS 0 #[true, false, false, false, false, false, false, false, false, false, false, false, false, false, false] rfl rfl rfl rfl (by kernel_rfl) (fun _ _ _ h => h) (fun _ => (r_move hS rfl rfl)) fun a127 hS127 => d_pure hS127 1 #[true, true, false, false, false, false, false, false, false, false, false, false, false, false, false] rfl rfl rfl rfl (by kernel_rfl) (fun _ _ _ h => h) (fun _ => (r_fieldB (off := 0) hS127 rfl rfl (by kernel_rfl))) fun a128 hS128 => d_take hS128 2 #[true, true, true, false, false, false, false, false, false, false, false, false, false, false, false] rfl rfl rfl rfl (by kernel_rfl) (fun _ _ _ h => h) ⟨_, hC⟩ (fun w' g' Fz => (r_load1 (n := 1) hS128 rfl rfl (by kernel_rfl) (Bx.cell (h111.fr Fz (fun h => h)) rfl))) fun a129 hS129 => d_pure hS129 3 #[true, true, true, true, false, false, false, false, false, false, false, false, false, false, false] rfl rfl rfl rfl (by kernel_rfl) (fun _ _ _ h => h) (fun _ => (r_move hS129 rfl rfl)) fun a130 hS130 => d_pure hS130 4 #[true, true, true, true, true, false, false, false, false, false, false, false, false, false, false] rfl rfl rfl rfl (by kernel_rfl) (fun _ _ _ h => h) (fun _ => (r_fieldB (off := 0) hS130 rfl rfl (by kernel_rfl))) fun a131 hS131 => d_take hS131 5 #[true, true, true, true, true, true, false, false, false, false, false, false, false, false, false] rfl rfl rfl rfl (by kernel_rfl) (fun _ _ _ h => h) ⟨_, hC⟩ (fun w' g' Fz => (r_load1 (n := 1) hS131 rfl rfl (by kernel_rfl) (Bx.cell (h111.fr Fz (fun h => h)) rfl))) fun a132 hS132 => d_pure hS132 6 #[true, true, true, true, true, true, true, false, false, false, false, false, false, false, false] rfl rfl rfl rfl (by kernel_rfl) (fun _ _ _ h => h) (fun _ => (r_index (e := 33) (sz := 1) (by_ := 8) hS132 rfl rfl rfl (by kernel_rfl) (RdS.some_ (OwS.rd h43) hx123) (idx_lo hx123) (idx_hi hx123))) fun a133 hS133 => d_take hS133 7 #[true, true, true, true, true, true, true, true, false, false, false, false, false, false, false] rfl rfl rfl rfl (by kernel_rfl) (fun _ _ _ h => h) ⟨_, hC⟩ (fun w' g' Fz => (r_load1 (n := 1) hS133 rfl rfl (by kernel_rfl) (RdS.cell (i := x106.Consumer) (sz := 1) (j := 0) (OwS.rd (OwS.fr h43 Fz (fun _ _ h => h))) hx123 rfl))) fun a134 hS134 => d_pure hS134 8 #[true, true, true, true, true, true, true, true, true, false, false, false, false, false, false] rfl rfl rfl rfl (by kernel_rfl) (fun _ _ _ h => h) (fun _ => (r_move hS134 rfl rfl)) fun a135 hS135 => d_pure hS135 9 #[true, true, true, true, true, true, true, true, true, true, false, false, false, false, false] rfl rfl rfl rfl (by kernel_rfl) (fun _ _ _ h => h) (fun _ => (r_move hS135 rfl rfl)) fun a136 hS136 => d_pure hS136 10 #[true, true, true, true, true, true, true, true, true, true, true, false, false, false, false] rfl rfl rfl rfl (by kernel_rfl) (fun _ _ _ h => h) (fun _ => (r_index (e := 33) (sz := 1) (by_ := 8) hS136 rfl rfl rfl (by kernel_rfl) (RdS.some_ (OwS.rd h43) hx125) (idx_lo hx125) (idx_hi hx125))) fun a137 hS137 => d_take hS137 11 #[true, true, true, true, true, true, true, true, true, true, true, true, false, false, false] rfl rfl rfl rfl (by kernel_rfl) (fun _ _ _ h => h) ⟨_, hC⟩ (fun w' g' Fz => (r_load1 (n := 1) hS137 rfl rfl (by kernel_rfl) (RdS.cell (i := x64) (sz := 1) (j := 0) (OwS.rd (OwS.fr h43 Fz (fun _ _ h => h))) hx125 rfl))) fun a138 hS138 => d_pure hS138 12 #[true, true, true, true, true, true, true, true, true, true, true, true, true, false, false] rfl rfl rfl rfl (by kernel_rfl) (fun _ _ _ h => h) (fun _ => (r_max hS138 rfl rfl rfl)) fun a139 hS139 => d_pure hS139 13 #[true, true, true, true, true, true, true, true, true, true, true, true, true, true, false] rfl rfl rfl rfl (by kernel_rfl) (fun _ _ _ h => h) (fun _ => (r_index (e := 33) (sz := 1) (by_ := 8) hS139 rfl rfl rfl (by kernel_rfl) (RdS.some_ (OwS.rd h43) hx123) (idx_lo hx123) (idx_hi hx123))) fun a140 hS140 => ?_
                          refine d_one 14 #[true, true, true, true, true, true, true, true, true, true, true, true, true, true, true] rfl (by kernel_rfl) (arm_effS hS140 rfl rfl (e_storeE (n := 1) (bb := false) (kd := (kint .u64)) (j := 0) (x' := (max x122 x124)) (us := [.int .u64 (max x122 x124)]) g116 hS140 rfl rfl rfl rfl (by kernel_rfl) rfl rfl (by intro v hv; simp only [List.mem_cons, List.not_mem_nil, or_false] at hv; rcases hv with rfl <;> rfl) h43 hx123 rfl (fun _ _ cs hR => by rw [show cs = _ from hR]; rfl)) (.inl (by decide)) ?_)
                          rintro a141 w142 g142 ⟨h43, F142⟩ hS141
                          replace h111 := h111.fr F142 (fun (hm : N + 4 = N + 2) => by omega)
                          replace h23 := OwS.fr h23 F142 (fun c' hc (hm : c' = N + 2) => by omega)
                          replace hp1 := RdS.fr hp1 F142 (by decide) (fun q (hq : C1 q) (hm : q = N + 2) => by have := hC1 q hq; omega)
                          replace hp2 := RdS.fr hp2 F142 (by decide) (fun q (hq : C2 q) (hm : q = N + 2) => by have := hC2 q hq; omega)
                          replace hF := hF.trans F142 (fun c' (hm : c' = N + 2) => by show N ≤ c'; omega)
                          have hT : Sl 84 a141 [(1, .slice A1 p1.length cap1), (2, .slice A2 p2.length cap2), (11, .slice A41 m1_0.length cap42), (12, .int .u64 (max m0_1 x89)), (14, .int .i64 x64), (35, .slice A21 r19.1.length cap22), (36, .int .i64 (r19.1.length : Int)), (37, .int .i64 m0_2), (57, .slice A1 p1.length cap1), (58, .int .i64 (p1.length : Int)), (59, .int .i64 m1_1)] := hS141.re ⟨rfl, rfl, rfl, rfl, rfl, rfl, rfl, rfl, rfl, rfl, rfl, trivial⟩
                          replace hS141 : Sl 84 a141 [(1, .slice A1 p1.length cap1), (2, .slice A2 p2.length cap2), (11, .slice A41 (upd m1_0 x106.Consumer (max x122 x124)).length cap42), (12, .int .u64 (max m0_1 x89)), (14, .int .i64 x64), (35, .slice A21 r19.1.length cap22), (36, .int .i64 (r19.1.length : Int)), (37, .int .i64 m0_2), (57, .slice A1 p1.length cap1), (58, .int .i64 (p1.length : Int)), (59, .int .i64 m1_1)] := by simpa only [upd_length] using hT
                          clear hT
                          refine d_done (by kernel_rfl) (hK _ _ ?_)
                          replace hS : Sl 84 _ [(1, .slice A1 p1.length cap1), (2, .slice A2 p2.length cap2), (11, .slice A41 (upd m1_0 x106.Consumer (max x122 x124)).length cap42), (12, .int .u64 (max m0_1 x89)), (14, .int .i64 x64), (35, .slice A21 r19.1.length cap22), (36, .int .i64 (r19.1.length : Int)), (37, .int .i64 m0_2), (57, .slice A1 p1.length cap1), (58, .int .i64 (p1.length : Int)), (59, .int .i64 m1_1)] := hS141.re ⟨rfl, rfl, rfl, rfl, rfl, rfl, rfl, rfl, rfl, rfl, rfl, trivial⟩
                          clear hK K hC
                          try clear hS127 hS128 hS129 hS130 hS131 hS132 hS133 hS134 hS135 hS136 hS137 hS138 hS139 hS140 hS141
                          obtain ⟨a, ha⟩ : ∃ a', a' = a141 := ⟨_, rfl⟩
                          rw [← ha] at hS ⊢; clear ha
                          have e := Option.some.inj H
                          subst e
                          exact ⟨g142, hS.re ⟨rfl, rfl, rfl, rfl, rfl, rfl, rfl, rfl, rfl, rfl, rfl, trivial⟩, h23, h43, hp1, hp2, hF⟩
                        · replace H := ite_f hb121 H
                          refine wp_skip ?_
                          have e := Option.some.inj H
                          subst e
                          exact ⟨g116, hS.re ⟨rfl, rfl, rfl, rfl, rfl, rfl, rfl, rfl, rfl, rfl, rfl, trivial⟩, h23, h43, hp1, hp2, hF⟩
                      · clear H
                        clear hp1 hp2 h23 h43 hF
                        clear hS
                        rintro a w102 ⟨g102, hS, h23, h43, hp1, hp2, hF⟩
                        have H := Hl105
                        clear Hl105
                        refine c_pure1 [(1, .slice A1 p1.length cap1), (2, .slice A2 p2.length cap2), (11, .slice A41 v103.length cap42), (12, .int .u64 (max m0_1 x89)), (14, .int .i64 x64), (35, .slice A21 r19.1.length cap22), (36, .int .i64 (r19.1.length : Int)), (37, .int .i64 m0_2), (57, .slice A1 p1.length cap1), (58, .int .i64 (p1.length : Int)), (59, .int .i64 (wi (m1_1 + 1)))] (fun R hR => st_val hS rfl rfl rfl (r_bin hS rfl rfl rfl b_add) fun a143 hS143 => st_val hS143 rfl rfl rfl (r_move hS143 rfl rfl) fun a144 hS144 => wpList_nil (hR _ (hS144.re ⟨rfl, rfl, rfl, rfl, rfl, rfl, rfl, rfl, rfl, rfl, rfl, trivial⟩))) ?_
                        clear hS
                        clear a
                        intro a hS
                        refine ⟨k99, Nat.lt_succ_self _, ?_⟩
                        exact ⟨v103, wi (m1_1 + 1), g102, H, hS.re ⟨rfl, rfl, rfl, rfl, rfl, rfl, rfl, rfl, rfl, rfl, rfl, trivial⟩, h23, h43, hp1, hp2, hF⟩
                    · replace H := ite_f hb101 H
                      refine wp_exit ?_
                      have e := Option.some.inj H
                      subst e
                      exact ⟨g98, hS.re ⟨rfl, rfl, rfl, rfl, rfl, rfl, rfl, trivial⟩, h23, h43, hp1, hp2, hF⟩
              · clear H
                clear hp1 hp2 h23 h43 hF
                clear hS
                rintro a w60 ⟨g60, hS, h23, h43, hp1, hp2, hF⟩
                have H := Hl63
                clear Hl63
                refine c_pure1 [(1, .slice A1 p1.length cap1), (2, .slice A2 p2.length cap2), (11, .slice A41 v61.1.length cap42), (12, .int .u64 v61.2), (35, .slice A21 r19.1.length cap22), (36, .int .i64 (r19.1.length : Int)), (37, .int .i64 (wi (m0_2 + 1)))] (fun R hR => st_val hS rfl rfl rfl (r_bin hS rfl rfl rfl b_add) fun a145 hS145 => st_val hS145 rfl rfl rfl (r_move hS145 rfl rfl) fun a146 hS146 => wpList_nil (hR _ (hS146.re ⟨rfl, rfl, rfl, rfl, rfl, rfl, rfl, trivial⟩))) ?_
                clear hS
                clear a
                intro a hS
                refine ⟨k57, Nat.lt_succ_self _, ?_⟩
                exact ⟨v61.1, v61.2, wi (m0_2 + 1), g60, H, hS.re ⟨rfl, rfl, rfl, rfl, rfl, rfl, rfl, trivial⟩, h23, h43, hp1, hp2, hF⟩
            · replace H := ite_f hb59 H
              refine wp_exit ?_
              have e := Option.some.inj H
              subst e
              exact ⟨g56, hS.re ⟨rfl, trivial⟩, hF⟩
      · clear H
        clear hp1 hp2 h23 h43 hF
        clear hS
        rintro a w49 ⟨g49, hS, hF⟩
        have H := Hl52
        clear Hl52
        refine c_pure [(6, .int .u64 v50), (7, .int .i64 0)] (fun R hR => st_val hS rfl rfl rfl (r_move hS rfl rfl) fun a147 hS147 => st_val hS147 rfl rfl rfl (r_assign hS147 rfl rfl) fun a148 hS148 => st_val hS148 rfl rfl rfl (r_assign hS148 rfl rfl) fun a149 hS149 => wpList_nil (hR _ (hS149.re ⟨rfl, rfl, trivial⟩))) ?_
        clear hS
        clear a
        intro a hS
        refine wp_ret ?_
        have e := Option.some.inj H
        subst e
        repeat (with_reducible first | refine then_ret ?_ | refine inBlock_ret ?_)
        exact c_ret2 hS Try.results20 rfl rfl ⟨_, rfl, g49, rfl, hF⟩


end Go.Proofs.Ythmjgadmadlpkaa.Sim

namespace Go.Proofs.Ythmjgadmadlpkaa.Sim
open Go
set_option linter.unusedVariables false
set_option linter.unusedSimpArgs false

/-! ### resume_Makespan: function 23 -/
def resume_Makespan.l0 (p0 : List api_Slot) : Nat → Int → Int → Option (Int)
  | 0, _, _ => none
  | k11 + 1, m0_0, m0_1 => if decide (m0_1 < (p0.length : Int)) = true then ((idx p0 m0_1).bind fun x14 => resume_Makespan.l0 p0 k11 (max m0_0 x14.End) (wi (m0_1 + 1))) else (some m0_0)
def resume_Makespan.f (p0 : List api_Slot) : Option (Int) := (resume_Makespan.l0 p0 FUEL 0 0 : Option (Int)).bind fun v4 => some v4
set_option maxRecDepth 100000 in
set_option maxHeartbeats 4000000 in
theorem resume_Makespan.calls {p0 : List api_Slot} {A0 : Option Addr} {cap0 : Nat} {C0 : Nat → Prop} {w : World} {g : Nat → Nat} {out : Int} (N : Nat) (hp0 : RdS kd_api_Slot w g C0 A0 cap0 p0) (hC0 : ∀ c, C0 c → c < N) (H : resume_Makespan.f p0 = some out) :
    Calls Try.prog 23 #[.slice A0 p0.length cap0] w (fun e w' => ∃ v, e = .returned v ∧ ∃ (g' : Nat → Nat), v = .int .u64 out ∧ Fr (fun q => N ≤ q) w g w' g') := by
  unfold resume_Makespan.f at H
  refine calls_enter Try.func23 rfl Try.ntmps23 rfl (fun a hS => ?_)
  replace hS : Sl 18 a [(0, .slice A0 p0.length cap0)] := hS
  have hF : Fr (fun q => N ≤ q) w g w g := Fr.refl _ _ _
  refine c_pure [(0, .slice A0 p0.length cap0)] (fun R hR => st_val hS rfl rfl rfl (r_assign hS rfl rfl) fun a1 hS1 => wpList_nil (hR _ (hS1.re ⟨rfl, trivial⟩))) ?_
  clear hS
  clear a
  intro a hS
  refine c_pure [(0, .slice A0 p0.length cap0), (3, .int .u64 0)] (fun R hR => st_val hS rfl rfl rfl (r_assign hS rfl rfl) fun a2 hS2 => wpList_nil (hR _ (hS2.re ⟨rfl, rfl, trivial⟩))) ?_
  clear hS
  clear a
  intro a hS
  obtain ⟨v4, H, Hl6⟩ := bind_el H
  refine c_cut (fun a w3 => ∃ (g3 : Nat → Nat), Sl 18 a [(3, .int .u64 v4)] ∧ Fr (fun q => N ≤ q) w g w3 g3) ?_ ?_
  · refine c_pure [(3, .int .u64 0), (6, .slice A0 p0.length cap0), (7, .int .i64 (p0.length : Int)), (8, .int .i64 0)] (fun R hR => st_val hS rfl rfl rfl (r_move hS rfl rfl) fun a7 hS7 => st_val hS7 rfl rfl rfl (r_len (e := 38) (sz := 4) (by_ := 32) hS7 rfl rfl (by kernel_rfl)) fun a8 hS8 => st_val hS8 rfl rfl rfl (r_move hS8 rfl rfl) fun a9 hS9 => wpList_nil (hR _ (hS9.re ⟨rfl, rfl, rfl, rfl, trivial⟩))) ?_
    clear hS
    clear a
    intro a hS
    refine wp_block ?_
    refine wp_loop_ghost (fun kq => fun a w10 => ∃ (m0_0 : Int), ∃ (m0_1 : Int), ∃ (g10 : Nat → Nat), resume_Makespan.l0 p0 kq m0_0 m0_1 = some v4 ∧ Sl 18 a [(3, .int .u64 m0_0), (6, .slice A0 p0.length cap0), (7, .int .i64 (p0.length : Int)), (8, .int .i64 m0_1)] ∧ RdS kd_api_Slot w10 g10 C0 A0 cap0 p0 ∧ Fr (fun q => N ≤ q) w g w10 g10) FUEL ?_ ?_
    · exact ⟨0, 0, g, H, hS.re ⟨rfl, rfl, rfl, rfl, trivial⟩, hp0, hF⟩
    · clear H
      clear hp0 hF
      clear hS
      rintro k11 a w10 ⟨m0_0, m0_1, g10, hpre0, hS, hp0, hF⟩
      have H := hpre0
      clear hpre0
      cases k11 with
      | zero => exact absurd H (by simp [resume_Makespan.l0])
      | succ k11 =>
        rw [resume_Makespan.l0] at H
        refine c_pure [(3, .int .u64 m0_0), (6, .slice A0 p0.length cap0), (7, .int .i64 (p0.length : Int)), (8, .int .i64 m0_1), (9, .bool (decide (m0_1 < (p0.length : Int))))] (fun R hR => st_val hS rfl rfl rfl (r_bin hS rfl rfl rfl b_lss) fun a12 hS12 => wpList_nil (hR _ (hS12.re ⟨rfl, rfl, rfl, rfl, rfl, trivial⟩))) ?_
        clear hS
        clear a
        intro a hS
        refine c_if hS rfl (fun hb13 => ?_) (fun hb13 => ?_)
        · replace H := ite_t hb13 H
          refine wp_skip ?_
          change Code.wp _ _ _ _ _
          refine wp_seq ?_
          refine wp_block ?_
          obtain ⟨x14, hx15, H⟩ := bind_el H
          refine c_region (fun K hK => ?_)
          refine st_val hS rfl rfl rfl (r_index (e := 38) (sz := 4) (by_ := 32) hS rfl rfl rfl (by kernel_rfl) (RdS.some_ hp0 hx15) (idx_lo hx15) (idx_hi hx15)) fun a16 hS16 => st_val hS16 rfl rfl rfl (r_loadN (n := 4) (cs := [.int .i64 x14.Device, .int .i64 x14.Worker, .int .u64 x14.Start, .int .u64 x14.End]) hS16 rfl rfl (by kernel_rfl) rfl (RdS.cells_off hp0 hx15 0 4)) fun a17 hS17 => ?_
          refine st_eff hS17 rfl rfl rfl (e_alloc (cs := [.int .i64 0, .int .i64 0, .int .u64 0, .int .u64 0]) (N + 0) g10 hS17 rfl (by kernel_rfl)) ?_
          rintro _ a21 w22 g22 ⟨⟨b18, rfl, h19⟩, F22⟩ hS21
          replace hp0 := RdS.fr hp0 F22 (by decide) (fun _ _ h => h)
          replace hF := hF.trans F22 (fun _ h => h.elim)
          refine st_effS hS21 rfl rfl (e_storeB (n := 4) (bb := true) (cs' := [.int .i64 x14.Device, .int .i64 x14.Worker, .int .u64 x14.Start, .int .u64 x14.End]) g22 hS21 rfl rfl rfl (by kernel_rfl) rfl rfl rfl h19 rfl rfl) ?_
          rintro a23 w24 g24 ⟨h19, F24⟩ hS23
          replace hp0 := RdS.fr hp0 F24 (by decide) (fun q (hq : C0 q) (hm : q = N + 0) => by have := hC0 q hq; omega)
          replace hF := hF.trans F24 (fun c' (hm : c' = N + 0) => by show N ≤ c'; omega)
          refine wpList_nil (hK _ _ ?_)
          replace hS : Sl 18 _ [(3, .int .u64 m0_0), (5, .pointer (some ⟨b18, 0, none⟩)), (6, .slice A0 p0.length cap0), (7, .int .i64 (p0.length : Int)), (8, .int .i64 m0_1)] := hS23.re ⟨rfl, rfl, rfl, rfl, rfl, trivial⟩
          clear hK K
          try clear hS16 hS17 hS21 hS23
          obtain ⟨a, ha⟩ : ∃ a', a' = a23 := ⟨_, rfl⟩
          rw [← ha] at hS ⊢; clear ha
          refine c_pure1 [(3, .int .u64 (max m0_0 x14.End)), (6, .slice A0 p0.length cap0), (7, .int .i64 (p0.length : Int)), (8, .int .i64 m0_1)] (fun R hR => st_val hS rfl rfl rfl (r_move hS rfl rfl) fun a25 hS25 => st_val hS25 rfl rfl rfl (r_fieldB (off := 3) hS25 rfl rfl (by kernel_rfl)) fun a26 hS26 => st_val hS26 rfl rfl rfl (r_load1 (n := 1) hS26 rfl rfl (by kernel_rfl) (Bx.cell h19 rfl)) fun a27 hS27 => st_val hS27 rfl rfl rfl (r_max hS27 rfl rfl rfl) fun a28 hS28 => st_val hS28 rfl rfl rfl (r_assign hS28 rfl rfl) fun a29 hS29 => wpList_nil (hR _ (hS29.re ⟨rfl, rfl, rfl, rfl, trivial⟩))) ?_
          clear hS
          clear a
          intro a hS
          change Code.wp _ _ _ _ _
          refine c_pure1 [(3, .int .u64 (max m0_0 x14.End)), (6, .slice A0 p0.length cap0), (7, .int .i64 (p0.length : Int)), (8, .int .i64 (wi (m0_1 + 1)))] (fun R hR => st_val hS rfl rfl rfl (r_bin hS rfl rfl rfl b_add) fun a30 hS30 => st_val hS30 rfl rfl rfl (r_move hS30 rfl rfl) fun a31 hS31 => wpList_nil (hR _ (hS31.re ⟨rfl, rfl, rfl, rfl, trivial⟩))) ?_
          clear hS
          clear a
          intro a hS
          refine ⟨k11, Nat.lt_succ_self _, ?_⟩
          exact ⟨(max m0_0 x14.End), wi (m0_1 + 1), g24, H, hS.re ⟨rfl, rfl, rfl, rfl, trivial⟩, hp0, hF⟩
        · replace H := ite_f hb13 H
          refine wp_exit ?_
          have e := Option.some.inj H
          subst e
          exact ⟨g10, hS.re ⟨rfl, trivial⟩, hF⟩
  · clear H
    clear hp0 hF
    clear hS
    rintro a w3 ⟨g3, hS, hF⟩
    have H := Hl6
    clear Hl6
    refine c_pure [(2, .int .u64 v4)] (fun R hR => st_val hS rfl rfl rfl (r_move hS rfl rfl) fun a32 hS32 => st_val hS32 rfl rfl rfl (r_assign hS32 rfl rfl) fun a33 hS33 => wpList_nil (hR _ (hS33.re ⟨rfl, trivial⟩))) ?_
    clear hS
    clear a
    intro a hS
    refine wp_ret ?_
    have e := Option.some.inj H
    subst e
    repeat (with_reducible first | refine then_ret ?_ | refine inBlock_ret ?_)
    exact c_ret1 hS Try.results23 rfl ⟨_, rfl, g3, rfl, hF⟩


end Go.Proofs.Ythmjgadmadlpkaa.Sim

namespace Go.Proofs.Ythmjgadmadlpkaa.Sim
open Go
set_option linter.unusedVariables false
set_option linter.unusedSimpArgs false

/-! ### slices_Clone_uint64_uint64: function 72 -/
def slices_Clone_uint64_uint64.f (p0 : List Int) : Option ((List Int)) := (app ([] : List Int) p0).bind fun y13 => some y13
set_option maxRecDepth 100000 in
set_option maxHeartbeats 4000000 in
theorem slices_Clone_uint64_uint64.calls {p0 : List Int} {A0 : Option Addr} {cap0 : Nat} {C0 : Nat → Prop} {w : World} {g : Nat → Nat} {out : (List Int)} (N : Nat) (r0 : Nat) (hp0 : RdS (kint .u64) w g C0 A0 cap0 p0) (hC0 : ∀ c, C0 c → c < N) (hr0 : r0 + 2 ≤ N) (H : slices_Clone_uint64_uint64.f p0 = some out) :
    Calls Try.prog 72 #[.slice A0 p0.length cap0] w (fun e w' => ∃ v, e = .returned v ∧ ∃ (g' : Nat → Nat) (A_r0 : Option Addr) (cap_r0 : Nat), v = .slice A_r0 out.length cap_r0 ∧ OwS (kint .u64) 33 w' g' r0 A_r0 cap_r0 out ∧ Fr (fun q => (r0 ≤ q ∧ q < r0 + 2) ∨ N ≤ q) w g w' g') := by
  unfold slices_Clone_uint64_uint64.f at H
  refine calls_enter Try.func72 rfl Try.ntmps72 rfl (fun a hS => ?_)
  replace hS : Sl 8 a [(0, .slice A0 p0.length cap0)] := hS
  have hF : Fr (fun q => (r0 ≤ q ∧ q < r0 + 2) ∨ N ≤ q) w g w g := Fr.refl _ _ _
  refine c_pure [(0, .slice A0 p0.length cap0)] (fun R hR => st_val hS rfl rfl rfl (r_assign hS rfl rfl) fun a1 hS1 => wpList_nil (hR _ (hS1.re ⟨rfl, trivial⟩))) ?_
  clear hS
  clear a
  intro a hS
  refine wp_seq ?_
  refine c_pure [(0, .slice A0 p0.length cap0), (4, .bool A0.isNone)] (fun R hR => st_val hS rfl rfl rfl (r_move hS rfl rfl) fun a2 hS2 => st_val hS2 rfl rfl rfl (r_slNil (E := 33) hS2 rfl rfl (by kernel_rfl)) fun a3 hS3 => wpList_nil (hR _ (hS3.re ⟨rfl, rfl, trivial⟩))) ?_
  clear hS
  clear a
  intro a hS
  refine c_cond hS rfl (fun hb4 => ?_) (fun hb4 => ?_)
  · have hn5 := RdS.none_ hp0 hb4
    subst hn5
    replace H : some [] = some out := by first | exact H | simpa [app] using H
    refine c_pure [(2, .slice none 0 0)] (fun R hR => st_val hS rfl rfl rfl (r_assign hS rfl rfl) fun a6 hS6 => wpList_nil (hR _ (hS6.re ⟨rfl, trivial⟩))) ?_
    clear hS
    clear a
    intro a hS
    refine wp_ret ?_
    have e := Option.some.inj H
    subst e
    repeat (with_reducible first | refine then_ret ?_ | refine inBlock_ret ?_)
    exact c_ret1 hS Try.results72 rfl ⟨_, rfl, g, none, 0, rfl, OwS.nil (kint .u64) 33 w g r0, hF⟩
  · refine wp_skip ?_
    change Code.wp _ _ _ _ _
    obtain ⟨y13, hy14, H⟩ := bind_el H
    refine c_region (fun K hK => ?_)
    refine st_eff hS rfl rfl rfl (e_lit (e := 33) (parts := []) (cs := []) (kint .u64) ([] : List Int) (N + 0) g hS rfl rfl (fun _ => by kernel_rfl) rfl (by decide) Rows.nil) ?_
    rintro _ a10 w11 g11 ⟨⟨A7, rfl, h8⟩, F11⟩ hS10
    replace hp0 := RdS.fr hp0 F11 (by decide) (fun _ _ h => h)
    replace hF := hF.trans F11 (fun _ h => h.elim)
    refine st_val hS10 rfl rfl rfl (r_move hS10 rfl rfl) fun a12 hS12 => ?_
    refine st_eff hS12 rfl rfl rfl (e_append (e := 33) (sz := 1) (by_ := 8) (z := [.int .u64 0]) (kd := (kint .u64)) g11 hS12 rfl rfl rfl rfl (by kernel_rfl) (by kernel_rfl) rfl rfl rfl rfl h8 hp0 (fun _ _ _ h => h) hy14) ?_
    rintro _ a19 w20 g20 ⟨⟨A15, cap16, rfl, h17⟩, F20⟩ hS19
    replace hp0 := RdS.fr hp0 F20 (by decide) (fun q (hq : C0 q) (hm : q = N + 0) => by have := hC0 q hq; omega)
    replace hF := hF.trans F20 (fun c' (hm : c' = N + 0) => by show (r0 ≤ c' ∧ c' < r0 + 2) ∨ N ≤ c'; omega)
    refine st_val hS19 rfl rfl rfl (r_assign hS19 rfl rfl) fun a21 hS21 => wpList_nil (hK _ _ ?_)
    replace hS : Sl 8 _ [(2, .slice A15 y13.length cap16)] := hS21.re ⟨rfl, trivial⟩
    clear hK K
    try clear hS10 hS12 hS19 hS21
    obtain ⟨a, ha⟩ : ∃ a', a' = a21 := ⟨_, rfl⟩
    rw [← ha] at hS ⊢; clear ha
    refine wp_ret ?_
    have e := Option.some.inj H
    subst e
    have F22 := Fr.recol2 w20 g20 (N + 0) r0
    replace h17 := h17.recol2 r0
    replace hF := hF.trans F22 (fun c' (hm : c' = N + 0 ∨ c' = N + 0 + 1) => by show (r0 ≤ c' ∧ c' < r0 + 2) ∨ N ≤ c'; omega)
    repeat (with_reducible first | refine then_ret ?_ | refine inBlock_ret ?_)
    exact c_ret1 hS Try.results72 rfl ⟨_, rfl, (recol2 g20 (N + 0) r0), A15, cap16, rfl, h17, hF⟩


end Go.Proofs.Ythmjgadmadlpkaa.Sim

namespace Go.Proofs.Ythmjgadmadlpkaa.Sim
open Go
set_option linter.unusedVariables false
set_option linter.unusedSimpArgs false

/-! ### resume_scheduler_advance_1: function 73 -/
def resume_scheduler_advance_1.f (p0 : Int) (p2 : resume_scheduler) : Option (Bool) := some (decide (p0 ≤ p2.now))
set_option maxRecDepth 100000 in
set_option maxHeartbeats 4000000 in
theorem resume_scheduler_advance_1.calls {p0 : Int} {cb1 : Nat} {bb1 : Nat} {p2 : resume_scheduler} {c2 : Nat} {C_links_p2 : Nat → Prop} {b_p2 : Nat} {A_links_p2 : Option Addr} {cap_links_p2 : Nat} {A_slot_p2 : Option Addr} {cap_slot_p2 : Nat} {A_begun_p2 : Option Addr} {cap_begun_p2 : Nat} {A_free_p2 : Option Addr} {cap_free_p2 : Nat} {w : World} {g : Nat → Nat} {out : Bool} (N : Nat) (hp1 : Bx w g cb1 bb1 73 [.pointer (some ⟨b_p2, 0, none⟩)]) (hc1 : cb1 + 1 ≤ N) (hp2 : resume_scheduler_At w g c2 C_links_p2 b_p2 A_links_p2 cap_links_p2 A_slot_p2 cap_slot_p2 A_begun_p2 cap_begun_p2 A_free_p2 cap_free_p2 p2) (hc2 : c2 + 7 ≤ N) (hC_links_p2 : ∀ c, C_links_p2 c → c < N ∧ (c < c2 ∨ c2 + 7 ≤ c)) (H : resume_scheduler_advance_1.f p0 p2 = some out) :
    Calls Try.prog 73 #[.int .u64 p0, .pointer (some ⟨bb1, 0, none⟩)] w (fun e w' => ∃ v, e = .returned v ∧ ∃ (g' : Nat → Nat), v = .bool out ∧ Fr (fun q => N ≤ q) w g w' g') := by
  unfold resume_scheduler_advance_1.f at H
  refine calls_enter Try.func73 rfl Try.ntmps73 rfl (fun a hS => ?_)
  replace hS : Sl 10 a [(0, .int .u64 p0), (1, .pointer (some ⟨bb1, 0, none⟩))] := hS
  have hF : Fr (fun q => N ≤ q) w g w g := Fr.refl _ _ _
  obtain ⟨hb2, hf2_links, hf2_slot, hf2_begun, hf2_free⟩ := hp2
  refine c_pure [(0, .int .u64 p0), (1, .pointer (some ⟨bb1, 0, none⟩))] (fun R hR => st_val hS rfl rfl rfl (r_assign hS rfl rfl) fun a1 hS1 => wpList_nil (hR _ (hS1.re ⟨rfl, rfl, trivial⟩))) ?_
  clear hS
  clear a
  intro a hS
  refine c_pure [(3, .bool (decide (p0 ≤ p2.now)))] (fun R hR => st_val hS rfl rfl rfl (r_move hS rfl rfl) fun a2 hS2 => st_val hS2 rfl rfl rfl (r_load1 (n := 1) hS2 rfl rfl (by kernel_rfl) (Bx.cell hp1 rfl)) fun a3 hS3 => st_val hS3 rfl rfl rfl (r_nil hS3 rfl rfl) fun a4 hS4 => st_val hS4 rfl rfl rfl (r_fieldB (off := 4) hS4 rfl rfl (by kernel_rfl)) fun a5 hS5 => st_val hS5 rfl rfl rfl (r_load1 (n := 1) hS5 rfl rfl (by kernel_rfl) (Bx.cell hb2 rfl)) fun a6 hS6 => st_val hS6 rfl rfl rfl (r_bin hS6 rfl rfl rfl b_leq) fun a7 hS7 => st_val hS7 rfl rfl rfl (r_assign hS7 rfl rfl) fun a8 hS8 => wpList_nil (hR _ (hS8.re ⟨rfl, trivial⟩))) ?_
  clear hS
  clear a
  intro a hS
  refine wp_ret ?_
  have e := Option.some.inj H
  subst e
  repeat (with_reducible first | refine then_ret ?_ | refine inBlock_ret ?_)
  exact c_ret1 hS Try.results73 rfl ⟨_, rfl, g, rfl, hF⟩


end Go.Proofs.Ythmjgadmadlpkaa.Sim

namespace Go.Proofs.Ythmjgadmadlpkaa.Sim
open Go
set_option linter.unusedVariables false
set_option linter.unusedSimpArgs false

/-! ### slices_IndexFunc_uint64_uint64_advance_1: function 69 -/
def slices_IndexFunc_uint64_uint64_advance_1.l0 (p0 : List Int) (p3 : resume_scheduler) : Nat → Int → Option (Fl (Int) (Unit))
  | 0, _ => none
  | k10 + 1, m0_0 => if decide (m0_0 < (p0.length : Int)) = true then ((idx p0 m0_0).bind fun x18 => (resume_scheduler_advance_1.f x18 p3).bind fun r22 => if r22 = true then (some (.out m0_0)) else (slices_IndexFunc_uint64_uint64_advance_1.l0 p0 p3 k10 (wi (m0_0 + 1)))) else (some (.nxt ()))
def slices_IndexFunc_uint64_uint64_advance_1.f (p0 : List Int) (p3 : resume_scheduler) : Option (Int) := (slices_IndexFunc_uint64_uint64_advance_1.l0 p0 p3 FUEL 0 : Option (Fl (Int) (Unit))).bind fun o4 => o4.go fun _ => some (-1)
set_option maxRecDepth 100000 in
set_option maxHeartbeats 4000000 in
theorem slices_IndexFunc_uint64_uint64_advance_1.calls {p0 : List Int} {A0 : Option Addr} {cap0 : Nat} {C0 : Nat → Prop} {cb2 : Nat} {bb2 : Nat} {p3 : resume_scheduler} {c3 : Nat} {C_links_p3 : Nat → Prop} {b_p3 : Nat} {A_links_p3 : Option Addr} {cap_links_p3 : Nat} {A_slot_p3 : Option Addr} {cap_slot_p3 : Nat} {A_begun_p3 : Option Addr} {cap_begun_p3 : Nat} {A_free_p3 : Option Addr} {cap_free_p3 : Nat} {w : World} {g : Nat → Nat} {out : Int} (N : Nat) (hp0 : RdS (kint .u64) w g C0 A0 cap0 p0) (hC0 : ∀ c, C0 c → c < N) (hp2 : Bx w g cb2 bb2 73 [.pointer (some ⟨b_p3, 0, none⟩)]) (hc2 : cb2 + 1 ≤ N) (hp3 : resume_scheduler_At w g c3 C_links_p3 b_p3 A_links_p3 cap_links_p3 A_slot_p3 cap_slot_p3 A_begun_p3 cap_begun_p3 A_free_p3 cap_free_p3 p3) (hc3 : c3 + 7 ≤ N) (hC_links_p3 : ∀ c, C_links_p3 c → c < N ∧ (c < c3 ∨ c3 + 7 ≤ c)) (H : slices_IndexFunc_uint64_uint64_advance_1.f p0 p3 = some out) :
    Calls Try.prog 69 #[.slice A0 p0.length cap0, .func (.func 73) #[] #[.pointer (some ⟨bb2, 0, none⟩)]] w (fun e w' => ∃ v, e = .returned v ∧ ∃ (g' : Nat → Nat), v = .int .i64 out ∧ Fr (fun q => N ≤ q) w g w' g') := by
  unfold slices_IndexFunc_uint64_uint64_advance_1.f at H
  refine calls_enter Try.func69 rfl Try.ntmps69 rfl (fun a hS => ?_)
  replace hS : Sl 19 a [(0, .slice A0 p0.length cap0), (1, .func (.func 73) #[] #[.pointer (some ⟨bb2, 0, none⟩)])] := hS
  have hF : Fr (fun q => N ≤ q) w g w g := Fr.refl _ _ _
  obtain ⟨hb3, hf3_links, hf3_slot, hf3_begun, hf3_free⟩ := hp3
  refine c_pure [(0, .slice A0 p0.length cap0), (1, .func (.func 73) #[] #[.pointer (some ⟨bb2, 0, none⟩)])] (fun R hR => st_val hS rfl rfl rfl (r_assign hS rfl rfl) fun a1 hS1 => wpList_nil (hR _ (hS1.re ⟨rfl, rfl, trivial⟩))) ?_
  clear hS
  clear a
  intro a hS
  obtain ⟨o4, H, Hl5⟩ := bind_el H
  refine c_cut (fun a w2 => ∃ (g2 : Nat → Nat), o4 = .nxt () ∧ Sl 19 a [] ∧ Bx w2 g2 (c3) b_p3 76 [.slice A_links_p3 p3.links.length cap_links_p3, .slice A_slot_p3 p3.slot.length cap_slot_p3, .slice A_begun_p3 p3.begun.length cap_begun_p3, .slice A_free_p3 p3.free.length cap_free_p3, .int .u64 p3.now] ∧ OwS kbool 4 w2 g2 (c3 + 3) A_begun_p3 cap_begun_p3 p3.begun ∧ OwS (kint .u64) 33 w2 g2 (c3 + 5) A_free_p3 cap_free_p3 p3.free ∧ RdS kd_api_Link w2 g2 C_links_p3 A_links_p3 cap_links_p3 p3.links ∧ OwS kd_api_Slot 38 w2 g2 (c3 + 1) A_slot_p3 cap_slot_p3 p3.slot ∧ Fr (fun q => N ≤ q) w g w2 g2) ?_ ?_
  · refine c_pure [(0, .slice A0 p0.length cap0), (1, .func (.func 73) #[] #[.pointer (some ⟨bb2, 0, none⟩)]), (7, .int .i64 (p0.length : Int)), (8, .int .i64 0)] (fun R hR => st_val hS rfl rfl rfl (r_move hS rfl rfl) fun a6 hS6 => st_val hS6 rfl rfl rfl (r_len (e := 33) (sz := 1) (by_ := 8) hS6 rfl rfl (by kernel_rfl)) fun a7 hS7 => st_val hS7 rfl rfl rfl (r_move hS7 rfl rfl) fun a8 hS8 => wpList_nil (hR _ (hS8.re ⟨rfl, rfl, rfl, rfl, trivial⟩))) ?_
    clear hS
    clear a
    intro a hS
    refine wp_block ?_
    refine wp_loop_ghost (fun kq => fun a w9 => ∃ (m0_0 : Int), ∃ (g9 : Nat → Nat), slices_IndexFunc_uint64_uint64_advance_1.l0 p0 p3 kq m0_0 = some o4 ∧ Sl 19 a [(0, .slice A0 p0.length cap0), (1, .func (.func 73) #[] #[.pointer (some ⟨bb2, 0, none⟩)]), (7, .int .i64 (p0.length : Int)), (8, .int .i64 m0_0)] ∧ RdS (kint .u64) w9 g9 C0 A0 cap0 p0 ∧ Bx w9 g9 (cb2) bb2 73 [.pointer (some ⟨b_p3, 0, none⟩)] ∧ Bx w9 g9 (c3) b_p3 76 [.slice A_links_p3 p3.links.length cap_links_p3, .slice A_slot_p3 p3.slot.length cap_slot_p3, .slice A_begun_p3 p3.begun.length cap_begun_p3, .slice A_free_p3 p3.free.length cap_free_p3, .int .u64 p3.now] ∧ OwS kbool 4 w9 g9 (c3 + 3) A_begun_p3 cap_begun_p3 p3.begun ∧ OwS (kint .u64) 33 w9 g9 (c3 + 5) A_free_p3 cap_free_p3 p3.free ∧ RdS kd_api_Link w9 g9 C_links_p3 A_links_p3 cap_links_p3 p3.links ∧ OwS kd_api_Slot 38 w9 g9 (c3 + 1) A_slot_p3 cap_slot_p3 p3.slot ∧ Fr (fun q => N ≤ q) w g w9 g9) FUEL ?_ ?_
    · exact ⟨0, g, H, hS.re ⟨rfl, rfl, rfl, rfl, trivial⟩, hp0, hp2, hb3, hf3_begun, hf3_free, hf3_links, hf3_slot, hF⟩
    · clear H
      clear hp0 hp2 hf3_links hf3_slot hf3_begun hf3_free hb3 hF
      clear hS
      rintro k10 a w9 ⟨m0_0, g9, hpre0, hS, hp0, hp2, hb3, hf3_begun, hf3_free, hf3_links, hf3_slot, hF⟩
      have H := hpre0
      clear hpre0
      cases k10 with
      | zero => exact absurd H (by simp [slices_IndexFunc_uint64_uint64_advance_1.l0])
      | succ k10 =>
        rw [slices_IndexFunc_uint64_uint64_advance_1.l0] at H
        refine c_pure [(0, .slice A0 p0.length cap0), (1, .func (.func 73) #[] #[.pointer (some ⟨bb2, 0, none⟩)]), (7, .int .i64 (p0.length : Int)), (8, .int .i64 m0_0), (9, .bool (decide (m0_0 < (p0.length : Int))))] (fun R hR => st_val hS rfl rfl rfl (r_bin hS rfl rfl rfl b_lss) fun a11 hS11 => wpList_nil (hR _ (hS11.re ⟨rfl, rfl, rfl, rfl, rfl, trivial⟩))) ?_
        clear hS
        clear a
        intro a hS
        refine c_if hS rfl (fun hb12 => ?_) (fun hb12 => ?_)
        · replace H := ite_t hb12 H
          refine wp_skip ?_
          change Code.wp _ _ _ _ _
          refine wp_seq ?_
          refine wp_block ?_
          refine c_pure [(0, .slice A0 p0.length cap0), (1, .func (.func 73) #[] #[.pointer (some ⟨bb2, 0, none⟩)]), (5, .int .i64 m0_0), (7, .int .i64 (p0.length : Int)), (8, .int .i64 m0_0)] (fun R hR => st_val hS rfl rfl rfl (r_move hS rfl rfl) fun a13 hS13 => st_val hS13 rfl rfl rfl (r_assign hS13 rfl rfl) fun a14 hS14 => wpList_nil (hR _ (hS14.re ⟨rfl, rfl, rfl, rfl, rfl, trivial⟩))) ?_
          clear hS
          clear a
          intro a hS
          obtain ⟨x18, hx19, H⟩ := bind_el H
          obtain ⟨r22, hr23, H⟩ := bind_el H
          refine c_region (fun K hK => ?_)
          refine st_val hS rfl rfl rfl (r_move hS rfl rfl) fun a15 hS15 => st_val hS15 rfl rfl rfl (r_move hS15 rfl rfl) fun a16 hS16 => st_val hS16 rfl rfl rfl (r_move hS16 rfl rfl) fun a17 hS17 => st_val hS17 rfl rfl rfl (r_index (e := 33) (sz := 1) (by_ := 8) hS17 rfl rfl rfl (by kernel_rfl) (RdS.some_ hp0 hx19) (idx_lo hx19) (idx_hi hx19)) fun a20 hS20 => st_val hS20 rfl rfl rfl (r_load1 (n := 1) hS20 rfl rfl (by kernel_rfl) (RdS.cell (i := m0_0) (sz := 1) (j := 0) hp0 hx19 rfl)) fun a21 hS21 => ?_
          refine st_enter hS21 rfl rfl rfl (r_callv hS21 rfl rfl rfl rfl (by kernel_rfl)) (resume_scheduler_advance_1.calls (cb1 := cb2) (bb1 := bb2) (c2 := c3) (b_p2 := b_p3) (A_links_p2 := A_links_p3) (cap_links_p2 := cap_links_p3) (C_links_p2 := C_links_p3) (A_slot_p2 := A_slot_p3) (cap_slot_p2 := cap_slot_p3) (A_begun_p2 := A_begun_p3) (cap_begun_p2 := cap_begun_p3) (A_free_p2 := A_free_p3) (cap_free_p2 := cap_free_p3) (p0 := x18) (p2 := p3) (g := g9) (N + 0)  hp2 (by omega) ⟨hb3, hf3_links, hf3_slot, hf3_begun, hf3_free⟩ (by omega) (fun q (hq : C_links_p3 q) => by have := hC_links_p3 q hq; omega) hr23) ?_
          rintro _ a24 w25 ⟨g25, rfl, F25⟩ hS24
          replace hp0 := RdS.fr hp0 F25 (by decide) (fun q (hq : C0 q) (hm : N + 0 ≤ q) => by have := hC0 q hq; omega)
          replace hp2 := hp2.fr F25 (fun (hm : N + 0 ≤ cb2) => by omega)
          replace hb3 := hb3.fr F25 (fun (hm : N + 0 ≤ c3) => by omega)
          replace hf3_begun := OwS.fr hf3_begun F25 (fun c' hc (hm : N + 0 ≤ c') => by omega)
          replace hf3_free := OwS.fr hf3_free F25 (fun c' hc (hm : N + 0 ≤ c') => by omega)
          replace hf3_links := RdS.fr hf3_links F25 (by decide) (fun q (hq : C_links_p3 q) (hm : N + 0 ≤ q) => by have := hC_links_p3 q hq; omega)
          replace hf3_slot := OwS.fr hf3_slot F25 (fun c' hc (hm : N + 0 ≤ c') => by omega)
          replace hF := hF.trans F25 (fun c' (hm : N + 0 ≤ c') => by show N ≤ c'; omega)
          refine wpList_nil (hK _ _ ?_)
          replace hS : Sl 19 _ [(0, .slice A0 p0.length cap0), (1, .func (.func 73) #[] #[.pointer (some ⟨bb2, 0, none⟩)]), (5, .int .i64 m0_0), (7, .int .i64 (p0.length : Int)), (8, .int .i64 m0_0), (16, .bool r22)] := hS24.re ⟨rfl, rfl, rfl, rfl, rfl, rfl, trivial⟩
          clear hK K
          try clear hS15 hS16 hS17 hS20 hS21 hS24
          obtain ⟨a, ha⟩ : ∃ a', a' = a24 := ⟨_, rfl⟩
          rw [← ha] at hS ⊢; clear ha
          refine c_cond hS rfl (fun hb26 => ?_) (fun hb26 => ?_)
          · replace H := ite_t hb26 H
            refine c_pure [(4, .int .i64 m0_0)] (fun R hR => st_val hS rfl rfl rfl (r_move hS rfl rfl) fun a27 hS27 => st_val hS27 rfl rfl rfl (r_assign hS27 rfl rfl) fun a28 hS28 => wpList_nil (hR _ (hS28.re ⟨rfl, trivial⟩))) ?_
            clear hS
            clear a
            intro a hS
            refine wp_ret ?_
            have e := Option.some.inj H
            subst e
            replace H := Fl.go_out Hl5
            have e := Option.some.inj H
            subst e
            repeat (with_reducible first | refine then_ret ?_ | refine inBlock_ret ?_)
            exact c_ret1 hS Try.results69 rfl ⟨_, rfl, g25, rfl, hF⟩
          · replace H := ite_f hb26 H
            refine wp_skip ?_
            change Code.wp _ _ _ _ _
            refine c_pure1 [(0, .slice A0 p0.length cap0), (1, .func (.func 73) #[] #[.pointer (some ⟨bb2, 0, none⟩)]), (7, .int .i64 (p0.length : Int)), (8, .int .i64 (wi (m0_0 + 1)))] (fun R hR => st_val hS rfl rfl rfl (r_bin hS rfl rfl rfl b_add) fun a29 hS29 => st_val hS29 rfl rfl rfl (r_move hS29 rfl rfl) fun a30 hS30 => wpList_nil (hR _ (hS30.re ⟨rfl, rfl, rfl, rfl, trivial⟩))) ?_
            clear hS
            clear a
            intro a hS
            refine ⟨k10, Nat.lt_succ_self _, ?_⟩
            exact ⟨wi (m0_0 + 1), g25, H, hS.re ⟨rfl, rfl, rfl, rfl, trivial⟩, hp0, hp2, hb3, hf3_begun, hf3_free, hf3_links, hf3_slot, hF⟩
        · replace H := ite_f hb12 H
          refine wp_exit ?_
          have e := Option.some.inj H
          exact ⟨g9, e.symm, hS.re trivial, hb3, hf3_begun, hf3_free, hf3_links, hf3_slot, hF⟩
  · clear H
    clear hp0 hp2 hf3_links hf3_slot hf3_begun hf3_free hb3 hF
    clear hS
    rintro a w2 ⟨g2, hpre0, hS, hb3, hf3_begun, hf3_free, hf3_links, hf3_slot, hF⟩
    subst hpre0
    have H := Fl.go_nxt Hl5
    clear Hl5
    refine c_pure [(4, .int .i64 (-1))] (fun R hR => st_val hS rfl rfl rfl (r_assign hS rfl rfl) fun a31 hS31 => wpList_nil (hR _ (hS31.re ⟨rfl, trivial⟩))) ?_
    clear hS
    clear a
    intro a hS
    refine wp_ret ?_
    have e := Option.some.inj H
    subst e
    repeat (with_reducible first | refine then_ret ?_ | refine inBlock_ret ?_)
    exact c_ret1 hS Try.results69 rfl ⟨_, rfl, g2, rfl, hF⟩


end Go.Proofs.Ythmjgadmadlpkaa.Sim

namespace Go.Proofs.Ythmjgadmadlpkaa.Sim
open Go
set_option linter.unusedVariables false
set_option linter.unusedSimpArgs false

/-! ### slices_DeleteFunc_uint64_uint64_advance_1: function 71 -/
def slices_DeleteFunc_uint64_uint64_advance_1.l0 (p3 : resume_scheduler) : Nat → (List Int) → Int → Int → Option ((List Int) × Int)
  | 0, _, _, _ => none
  | k23 + 1, m0_0, m0_1, m0_2 => if decide (m0_2 < (m0_0.length : Int)) = true then (((idx m0_0 m0_2).bind fun x35 => (resume_scheduler_advance_1.f x35 p3).bind fun r42 => if (!r42) = true then ((idx m0_0 m0_1).bind fun x51 => some ((upd m0_0 m0_1 x35), wi (m0_1 + 1))) else (some (m0_0, m0_1)) : Option ((List Int) × Int)).bind fun v30 => slices_DeleteFunc_uint64_uint64_advance_1.l0 p3 k23 v30.1 v30.2 (wi (m0_2 + 1))) else (some (m0_0, m0_1))
def slices_DeleteFunc_uint64_uint64_advance_1.f (p0 : List Int) (p3 : resume_scheduler) : Option ((List Int)) := (slices_IndexFunc_uint64_uint64_advance_1.f p0 p3).bind fun r4 => if (r4 == (-1)) = true then (some p0) else ((slices_DeleteFunc_uint64_uint64_advance_1.l0 p3 FUEL p0 r4 (wi (r4 + 1)) : Option ((List Int) × Int)).bind fun v16 => (slc v16.1 v16.2 (v16.1.length : Int)).bind fun y64 => (slc (clr v16.1 v16.2 0) 0 v16.2).bind fun y73 => some y73)
set_option maxRecDepth 100000 in
set_option maxHeartbeats 4000000 in
theorem slices_DeleteFunc_uint64_uint64_advance_1.calls {p0 : List Int} {A0 : Option Addr} {cap0 : Nat} {c0 : Nat} {cb2 : Nat} {bb2 : Nat} {p3 : resume_scheduler} {c3 : Nat} {C_links_p3 : Nat → Prop} {b_p3 : Nat} {A_links_p3 : Option Addr} {cap_links_p3 : Nat} {A_slot_p3 : Option Addr} {cap_slot_p3 : Nat} {A_begun_p3 : Option Addr} {cap_begun_p3 : Nat} {A_free_p3 : Option Addr} {cap_free_p3 : Nat} {w : World} {g : Nat → Nat} {out : (List Int)} (N : Nat) (r0 : Nat) (hp0 : OwS (kint .u64) 33 w g c0 A0 cap0 p0) (hc0 : c0 + 2 ≤ N) (hp2 : Bx w g cb2 bb2 73 [.pointer (some ⟨b_p3, 0, none⟩)]) (hc2 : cb2 + 1 ≤ N) (hp3 : resume_scheduler_At w g c3 C_links_p3 b_p3 A_links_p3 cap_links_p3 A_slot_p3 cap_slot_p3 A_begun_p3 cap_begun_p3 A_free_p3 cap_free_p3 p3) (hc3 : c3 + 7 ≤ N) (hC_links_p3 : ∀ c, C_links_p3 c → c < N ∧ (c < c3 ∨ c3 + 7 ≤ c)) (hg0_C_links_p3 : ∀ c, C_links_p3 c → c < c0 ∨ c0 + 2 ≤ c) (ho0_3 : c0 + 2 ≤ c3 ∨ c3 + 7 ≤ c0) (hk0_2 : cb2 < c0 ∨ c0 + 2 ≤ cb2) (hr0 : r0 + 2 ≤ N) (hv0_0 : r0 + 2 ≤ c0 ∨ c0 + 2 ≤ r0) (H : slices_DeleteFunc_uint64_uint64_advance_1.f p0 p3 = some out) :
    Calls Try.prog 71 #[.slice A0 p0.length cap0, .func (.func 73) #[] #[.pointer (some ⟨bb2, 0, none⟩)]] w (fun e w' => ∃ v, e = .returned v ∧ ∃ (g' : Nat → Nat) (A_r0 : Option Addr) (cap_r0 : Nat), v = .slice A_r0 out.length cap_r0 ∧ OwS (kint .u64) 33 w' g' r0 A_r0 cap_r0 out ∧ Fr (fun q => (c0 ≤ q ∧ q < c0 + 2) ∨ (r0 ≤ q ∧ q < r0 + 2) ∨ N ≤ q) w g w' g') := by
  unfold slices_DeleteFunc_uint64_uint64_advance_1.f at H
  refine calls_enter Try.func71 rfl Try.ntmps71 rfl (fun a hS => ?_)
  replace hS : Sl 42 a [(0, .slice A0 p0.length cap0), (1, .func (.func 73) #[] #[.pointer (some ⟨bb2, 0, none⟩)])] := hS
  have hF : Fr (fun q => (c0 ≤ q ∧ q < c0 + 2) ∨ (r0 ≤ q ∧ q < r0 + 2) ∨ N ≤ q) w g w g := Fr.refl _ _ _
  obtain ⟨hb3, hf3_links, hf3_slot, hf3_begun, hf3_free⟩ := hp3
  refine c_pure [(0, .slice A0 p0.length cap0), (1, .func (.func 73) #[] #[.pointer (some ⟨bb2, 0, none⟩)])] (fun R hR => st_val hS rfl rfl rfl (r_assign hS rfl rfl) fun a1 hS1 => wpList_nil (hR _ (hS1.re ⟨rfl, rfl, trivial⟩))) ?_
  clear hS
  clear a
  intro a hS
  obtain ⟨r4, hr5, H⟩ := bind_el H
  refine c_region (fun K hK => ?_)
  refine st_val hS rfl rfl rfl (r_move hS rfl rfl) fun a2 hS2 => st_val hS2 rfl rfl rfl (r_move hS2 rfl rfl) fun a3 hS3 => ?_
  refine st_enter hS3 rfl rfl rfl (r_call hS3 rfl rfl (by kernel_rfl)) (slices_IndexFunc_uint64_uint64_advance_1.calls (C0 := (fun q => q = c0)) (cb2 := cb2) (bb2 := bb2) (c3 := c3) (b_p3 := b_p3) (A_links_p3 := A_links_p3) (cap_links_p3 := cap_links_p3) (C_links_p3 := C_links_p3) (A_slot_p3 := A_slot_p3) (cap_slot_p3 := cap_slot_p3) (A_begun_p3 := A_begun_p3) (cap_begun_p3 := cap_begun_p3) (A_free_p3 := A_free_p3) (cap_free_p3 := cap_free_p3) (p0 := p0) (p3 := p3) (g := g) (N + 0)  (OwD.rdf (fun _ _ _ _ _ _ h => h) hp0) (fun q (hq : q = c0) => by omega) hp2 (by omega) ⟨hb3, hf3_links, hf3_slot, hf3_begun, hf3_free⟩ (by omega) (fun q (hq : C_links_p3 q) => by have := hC_links_p3 q hq; have := hg0_C_links_p3 q hq; omega) hr5) ?_
  rintro _ a6 w7 ⟨g7, rfl, F7⟩ hS6
  replace hp0 := OwS.fr hp0 F7 (fun c' hc (hm : N + 0 ≤ c') => by omega)
  replace hp2 := hp2.fr F7 (fun (hm : N + 0 ≤ cb2) => by omega)
  replace hb3 := hb3.fr F7 (fun (hm : N + 0 ≤ c3) => by omega)
  replace hf3_begun := OwS.fr hf3_begun F7 (fun c' hc (hm : N + 0 ≤ c') => by omega)
  replace hf3_free := OwS.fr hf3_free F7 (fun c' hc (hm : N + 0 ≤ c') => by omega)
  replace hf3_links := RdS.fr hf3_links F7 (by decide) (fun q (hq : C_links_p3 q) (hm : N + 0 ≤ q) => by have := hC_links_p3 q hq; have := hg0_C_links_p3 q hq; omega)
  replace hf3_slot := OwS.fr hf3_slot F7 (fun c' hc (hm : N + 0 ≤ c') => by omega)
  replace hF := hF.trans F7 (fun c' (hm : N + 0 ≤ c') => by show (c0 ≤ c' ∧ c' < c0 + 2) ∨ (r0 ≤ c' ∧ c' < r0 + 2) ∨ N ≤ c'; omega)
  refine st_val hS6 rfl rfl rfl (r_assign hS6 rfl rfl) fun a8 hS8 => wpList_nil (hK _ _ ?_)
  replace hS : Sl 42 _ [(0, .slice A0 p0.length cap0), (1, .func (.func 73) #[] #[.pointer (some ⟨bb2, 0, none⟩)]), (5, .int .i64 r4)] := hS8.re ⟨rfl, rfl, rfl, trivial⟩
  clear hK K
  try clear hS2 hS3 hS6 hS8
  obtain ⟨a, ha⟩ : ∃ a', a' = a8 := ⟨_, rfl⟩
  rw [← ha] at hS ⊢; clear ha
  refine wp_seq ?_
  refine c_pure [(0, .slice A0 p0.length cap0), (1, .func (.func 73) #[] #[.pointer (some ⟨bb2, 0, none⟩)]), (5, .int .i64 r4), (12, .bool (r4 == (-1)))] (fun R hR => st_val hS rfl rfl rfl (r_move hS rfl rfl) fun a9 hS9 => st_val hS9 rfl rfl rfl (r_bin hS9 rfl rfl rfl b_eql) fun a10 hS10 => wpList_nil (hR _ (hS10.re ⟨rfl, rfl, rfl, rfl, trivial⟩))) ?_
  clear hS
  clear a
  intro a hS
  refine c_cond hS rfl (fun hb11 => ?_) (fun hb11 => ?_)
  · replace H := ite_t hb11 H
    refine c_pure [(4, .slice A0 p0.length cap0)] (fun R hR => st_val hS rfl rfl rfl (r_move hS rfl rfl) fun a12 hS12 => st_val hS12 rfl rfl rfl (r_assign hS12 rfl rfl) fun a13 hS13 => wpList_nil (hR _ (hS13.re ⟨rfl, trivial⟩))) ?_
    clear hS
    clear a
    intro a hS
    refine wp_ret ?_
    have e := Option.some.inj H
    subst e
    have F14 := Fr.recol2 w7 g7 (c0) r0
    replace hp0 := hp0.recol2 r0
    replace hb3 := hb3.fr F14 (fun (hm : c3 = c0 ∨ c3 = c0 + 1) => by omega)
    replace hf3_begun := OwS.fr hf3_begun F14 (fun c' hc (hm : c' = c0 ∨ c' = c0 + 1) => by omega)
    replace hf3_free := OwS.fr hf3_free F14 (fun c' hc (hm : c' = c0 ∨ c' = c0 + 1) => by omega)
    replace hf3_links := RdS.fr hf3_links F14 (by decide) (fun q (hq : C_links_p3 q) (hm : q = c0 ∨ q = c0 + 1) => by have := hC_links_p3 q hq; have := hg0_C_links_p3 q hq; omega)
    replace hf3_slot := OwS.fr hf3_slot F14 (fun c' hc (hm : c' = c0 ∨ c' = c0 + 1) => by omega)
    replace hF := hF.trans F14 (fun c' (hm : c' = c0 ∨ c' = c0 + 1) => by show (c0 ≤ c' ∧ c' < c0 + 2) ∨ (r0 ≤ c' ∧ c' < r0 + 2) ∨ N ≤ c'; omega)
    repeat (with_reducible first | refine then_ret ?_ | refine inBlock_ret ?_)
    exact c_ret1 hS Try.results71 rfl ⟨_, rfl, (recol2 g7 (c0) r0), A0, cap0, rfl, hp0, hF⟩
  · replace H := ite_f hb11 H
    refine wp_skip ?_
    change Code.wp _ _ _ _ _
    obtain ⟨v16, H, Hl18⟩ := bind_el H
    refine c_cut (fun a w15 => ∃ (g15 : Nat → Nat), Sl 42 a [(0, .slice A0 v16.1.length cap0), (5, .int .i64 v16.2)] ∧ OwS (kint .u64) 33 w15 g15 (c0) A0 cap0 v16.1 ∧ Bx w15 g15 (c3) b_p3 76 [.slice A_links_p3 p3.links.length cap_links_p3, .slice A_slot_p3 p3.slot.length cap_slot_p3, .slice A_begun_p3 p3.begun.length cap_begun_p3, .slice A_free_p3 p3.free.length cap_free_p3, .int .u64 p3.now] ∧ OwS kbool 4 w15 g15 (c3 + 3) A_begun_p3 cap_begun_p3 p3.begun ∧ OwS (kint .u64) 33 w15 g15 (c3 + 5) A_free_p3 cap_free_p3 p3.free ∧ RdS kd_api_Link w15 g15 C_links_p3 A_links_p3 cap_links_p3 p3.links ∧ OwS kd_api_Slot 38 w15 g15 (c3 + 1) A_slot_p3 cap_slot_p3 p3.slot ∧ Fr (fun q => (c0 ≤ q ∧ q < c0 + 2) ∨ (r0 ≤ q ∧ q < r0 + 2) ∨ N ≤ q) w g w15 g15) ?_ ?_
    · refine c_pure [(0, .slice A0 p0.length cap0), (1, .func (.func 73) #[] #[.pointer (some ⟨bb2, 0, none⟩)]), (5, .int .i64 r4), (6, .int .i64 (wi (r4 + 1)))] (fun R hR => st_val hS rfl rfl rfl (r_move hS rfl rfl) fun a19 hS19 => st_val hS19 rfl rfl rfl (r_bin hS19 rfl rfl rfl b_add) fun a20 hS20 => st_val hS20 rfl rfl rfl (r_assign hS20 rfl rfl) fun a21 hS21 => wpList_nil (hR _ (hS21.re ⟨rfl, rfl, rfl, rfl, trivial⟩))) ?_
      clear hS
      clear a
      intro a hS
      refine wp_block ?_
      refine wp_loop_ghost (fun kq => fun a w22 => ∃ (m0_0 : List Int), ∃ (m0_1 : Int), ∃ (m0_2 : Int), ∃ (g22 : Nat → Nat), slices_DeleteFunc_uint64_uint64_advance_1.l0 p3 kq m0_0 m0_1 m0_2 = some v16 ∧ Sl 42 a [(0, .slice A0 m0_0.length cap0), (1, .func (.func 73) #[] #[.pointer (some ⟨bb2, 0, none⟩)]), (5, .int .i64 m0_1), (6, .int .i64 m0_2)] ∧ OwS (kint .u64) 33 w22 g22 (c0) A0 cap0 m0_0 ∧ Bx w22 g22 (cb2) bb2 73 [.pointer (some ⟨b_p3, 0, none⟩)] ∧ Bx w22 g22 (c3) b_p3 76 [.slice A_links_p3 p3.links.length cap_links_p3, .slice A_slot_p3 p3.slot.length cap_slot_p3, .slice A_begun_p3 p3.begun.length cap_begun_p3, .slice A_free_p3 p3.free.length cap_free_p3, .int .u64 p3.now] ∧ OwS kbool 4 w22 g22 (c3 + 3) A_begun_p3 cap_begun_p3 p3.begun ∧ OwS (kint .u64) 33 w22 g22 (c3 + 5) A_free_p3 cap_free_p3 p3.free ∧ RdS kd_api_Link w22 g22 C_links_p3 A_links_p3 cap_links_p3 p3.links ∧ OwS kd_api_Slot 38 w22 g22 (c3 + 1) A_slot_p3 cap_slot_p3 p3.slot ∧ Fr (fun q => (c0 ≤ q ∧ q < c0 + 2) ∨ (r0 ≤ q ∧ q < r0 + 2) ∨ N ≤ q) w g w22 g22) FUEL ?_ ?_
      · exact ⟨p0, r4, wi (r4 + 1), g7, H, hS.re ⟨rfl, rfl, rfl, rfl, trivial⟩, hp0, hp2, hb3, hf3_begun, hf3_free, hf3_links, hf3_slot, hF⟩
      · clear H
        clear hp0 hp2 hf3_links hf3_slot hf3_begun hf3_free hb3 hF
        clear hS
        rintro k23 a w22 ⟨m0_0, m0_1, m0_2, g22, hpre0, hS, hp0, hp2, hb3, hf3_begun, hf3_free, hf3_links, hf3_slot, hF⟩
        have H := hpre0
        clear hpre0
        cases k23 with
        | zero => exact absurd H (by simp [slices_DeleteFunc_uint64_uint64_advance_1.l0])
        | succ k23 =>
          rw [slices_DeleteFunc_uint64_uint64_advance_1.l0] at H
          refine wp_seq ?_
          refine c_pure [(0, .slice A0 m0_0.length cap0), (1, .func (.func 73) #[] #[.pointer (some ⟨bb2, 0, none⟩)]), (5, .int .i64 m0_1), (6, .int .i64 m0_2), (19, .bool (decide (m0_2 < (m0_0.length : Int))))] (fun R hR => st_val hS rfl rfl rfl (r_move hS rfl rfl) fun a24 hS24 => st_val hS24 rfl rfl rfl (r_move hS24 rfl rfl) fun a25 hS25 => st_val hS25 rfl rfl rfl (r_len (e := 33) (sz := 1) (by_ := 8) hS25 rfl rfl (by kernel_rfl)) fun a26 hS26 => st_val hS26 rfl rfl rfl (r_bin hS26 rfl rfl rfl b_lss) fun a27 hS27 => wpList_nil (hR _ (hS27.re ⟨rfl, rfl, rfl, rfl, rfl, trivial⟩))) ?_
          clear hS
          clear a
          intro a hS
          refine c_cond hS rfl (fun hb28 => ?_) (fun hb28 => ?_)
          · replace H := ite_t hb28 H
            refine wp_skip ?_
            change Code.wp _ _ _ _ _
            obtain ⟨v30, H, Hl32⟩ := bind_el H
            refine c_cut (fun a w29 => ∃ (g29 : Nat → Nat), Sl 42 a [(0, .slice A0 v30.1.length cap0), (1, .func (.func 73) #[] #[.pointer (some ⟨bb2, 0, none⟩)]), (5, .int .i64 v30.2), (6, .int .i64 m0_2)] ∧ OwS (kint .u64) 33 w29 g29 (c0) A0 cap0 v30.1 ∧ Bx w29 g29 (cb2) bb2 73 [.pointer (some ⟨b_p3, 0, none⟩)] ∧ Bx w29 g29 (c3) b_p3 76 [.slice A_links_p3 p3.links.length cap_links_p3, .slice A_slot_p3 p3.slot.length cap_slot_p3, .slice A_begun_p3 p3.begun.length cap_begun_p3, .slice A_free_p3 p3.free.length cap_free_p3, .int .u64 p3.now] ∧ OwS kbool 4 w29 g29 (c3 + 3) A_begun_p3 cap_begun_p3 p3.begun ∧ OwS (kint .u64) 33 w29 g29 (c3 + 5) A_free_p3 cap_free_p3 p3.free ∧ RdS kd_api_Link w29 g29 C_links_p3 A_links_p3 cap_links_p3 p3.links ∧ OwS kd_api_Slot 38 w29 g29 (c3 + 1) A_slot_p3 cap_slot_p3 p3.slot ∧ Fr (fun q => (c0 ≤ q ∧ q < c0 + 2) ∨ (r0 ≤ q ∧ q < r0 + 2) ∨ N ≤ q) w g w29 g29) ?_ ?_
            · refine wp_block ?_
              obtain ⟨x35, hx36, H⟩ := bind_el H
              refine c_pure [(0, .slice A0 m0_0.length cap0), (1, .func (.func 73) #[] #[.pointer (some ⟨bb2, 0, none⟩)]), (5, .int .i64 m0_1), (6, .int .i64 m0_2), (7, .int .u64 x35)] (fun R hR => st_val hS rfl rfl rfl (r_move hS rfl rfl) fun a33 hS33 => st_val hS33 rfl rfl rfl (r_move hS33 rfl rfl) fun a34 hS34 => st_val hS34 rfl rfl rfl (r_index (e := 33) (sz := 1) (by_ := 8) hS34 rfl rfl rfl (by kernel_rfl) (RdS.some_ (OwS.rd hp0) hx36) (idx_lo hx36) (idx_hi hx36)) fun a37 hS37 => st_val hS37 rfl rfl rfl (r_load1 (n := 1) hS37 rfl rfl (by kernel_rfl) (RdS.cell (i := m0_2) (sz := 1) (j := 0) (OwS.rd hp0) hx36 rfl)) fun a38 hS38 => st_val hS38 rfl rfl rfl (r_assign hS38 rfl rfl) fun a39 hS39 => wpList_nil (hR _ (hS39.re ⟨rfl, rfl, rfl, rfl, rfl, trivial⟩))) ?_
              clear hS
              clear a
              intro a hS
              obtain ⟨r42, hr43, H⟩ := bind_el H
              refine c_region (fun K hK => ?_)
              refine st_val hS rfl rfl rfl (r_move hS rfl rfl) fun a40 hS40 => st_val hS40 rfl rfl rfl (r_move hS40 rfl rfl) fun a41 hS41 => ?_
              refine st_enter hS41 rfl rfl rfl (r_callv hS41 rfl rfl rfl rfl (by kernel_rfl)) (resume_scheduler_advance_1.calls (cb1 := cb2) (bb1 := bb2) (c2 := c3) (b_p2 := b_p3) (A_links_p2 := A_links_p3) (cap_links_p2 := cap_links_p3) (C_links_p2 := C_links_p3) (A_slot_p2 := A_slot_p3) (cap_slot_p2 := cap_slot_p3) (A_begun_p2 := A_begun_p3) (cap_begun_p2 := cap_begun_p3) (A_free_p2 := A_free_p3) (cap_free_p2 := cap_free_p3) (p0 := x35) (p2 := p3) (g := g22) (N + 0)  hp2 (by omega) ⟨hb3, hf3_links, hf3_slot, hf3_begun, hf3_free⟩ (by omega) (fun q (hq : C_links_p3 q) => by have := hC_links_p3 q hq; have := hg0_C_links_p3 q hq; omega) hr43) ?_
              rintro _ a44 w45 ⟨g45, rfl, F45⟩ hS44
              replace hp0 := OwS.fr hp0 F45 (fun c' hc (hm : N + 0 ≤ c') => by omega)
              replace hp2 := hp2.fr F45 (fun (hm : N + 0 ≤ cb2) => by omega)
              replace hb3 := hb3.fr F45 (fun (hm : N + 0 ≤ c3) => by omega)
              replace hf3_begun := OwS.fr hf3_begun F45 (fun c' hc (hm : N + 0 ≤ c') => by omega)
              replace hf3_free := OwS.fr hf3_free F45 (fun c' hc (hm : N + 0 ≤ c') => by omega)
              replace hf3_links := RdS.fr hf3_links F45 (by decide) (fun q (hq : C_links_p3 q) (hm : N + 0 ≤ q) => by have := hC_links_p3 q hq; have := hg0_C_links_p3 q hq; omega)
              replace hf3_slot := OwS.fr hf3_slot F45 (fun c' hc (hm : N + 0 ≤ c') => by omega)
              replace hF := hF.trans F45 (fun c' (hm : N + 0 ≤ c') => by show (c0 ≤ c' ∧ c' < c0 + 2) ∨ (r0 ≤ c' ∧ c' < r0 + 2) ∨ N ≤ c'; omega)
              refine st_val hS44 rfl rfl rfl (r_not hS44 rfl rfl) fun a46 hS46 => wpList_nil (hK _ _ ?_)
              replace hS : Sl 42 _ [(0, .slice A0 m0_0.length cap0), (1, .func (.func 73) #[] #[.pointer (some ⟨bb2, 0, none⟩)]), (5, .int .i64 m0_1), (6, .int .i64 m0_2), (7, .int .u64 x35), (29, .bool (!r42))] := hS46.re ⟨rfl, rfl, rfl, rfl, rfl, rfl, trivial⟩
              clear hK K
              try clear hS40 hS41 hS44 hS46
              obtain ⟨a, ha⟩ : ∃ a', a' = a46 := ⟨_, rfl⟩
              rw [← ha] at hS ⊢; clear ha
              refine c_cond hS rfl (fun hb47 => ?_) (fun hb47 => ?_)
              · replace H := ite_t hb47 H
                obtain ⟨x51, hx52, H⟩ := bind_el H
                refine c_region (fun K hK => ?_)
                refine st_val hS rfl rfl rfl (r_move hS rfl rfl) fun a48 hS48 => st_val hS48 rfl rfl rfl (r_move hS48 rfl rfl) fun a49 hS49 => st_val hS49 rfl rfl rfl (r_move hS49 rfl rfl) fun a50 hS50 => st_val hS50 rfl rfl rfl (r_index (e := 33) (sz := 1) (by_ := 8) hS50 rfl rfl rfl (by kernel_rfl) (RdS.some_ (OwS.rd hp0) hx52) (idx_lo hx52) (idx_hi hx52)) fun a53 hS53 => ?_
                refine st_effS hS53 rfl rfl (e_storeE (n := 1) (bb := false) (kd := (kint .u64)) (j := 0) (x' := x35) (us := [.int .u64 x35]) g45 hS53 rfl rfl rfl rfl (by kernel_rfl) rfl rfl (by intro v hv; simp only [List.mem_cons, List.not_mem_nil, or_false] at hv; rcases hv with rfl <;> rfl) hp0 hx52 rfl (fun _ _ cs hR => by rw [show cs = _ from hR]; rfl)) ?_
                rintro a54 w55 g55 ⟨hp0, F55⟩ hS54
                replace hp2 := hp2.fr F55 (fun (hm : cb2 = c0) => by omega)
                replace hb3 := hb3.fr F55 (fun (hm : c3 = c0) => by omega)
                replace hf3_begun := OwS.fr hf3_begun F55 (fun c' hc (hm : c' = c0) => by omega)
                replace hf3_free := OwS.fr hf3_free F55 (fun c' hc (hm : c' = c0) => by omega)
                replace hf3_links := RdS.fr hf3_links F55 (by decide) (fun q (hq : C_links_p3 q) (hm : q = c0) => by have := hC_links_p3 q hq; have := hg0_C_links_p3 q hq; omega)
                replace hf3_slot := OwS.fr hf3_slot F55 (fun c' hc (hm : c' = c0) => by omega)
                replace hF := hF.trans F55 (fun c' (hm : c' = c0) => by show (c0 ≤ c' ∧ c' < c0 + 2) ∨ (r0 ≤ c' ∧ c' < r0 + 2) ∨ N ≤ c'; omega)
                have hT : Sl 42 a54 [(0, .slice A0 m0_0.length cap0), (1, .func (.func 73) #[] #[.pointer (some ⟨bb2, 0, none⟩)]), (5, .int .i64 m0_1), (6, .int .i64 m0_2)] := hS54.re ⟨rfl, rfl, rfl, rfl, trivial⟩
                replace hS54 : Sl 42 a54 [(0, .slice A0 (upd m0_0 m0_1 x35).length cap0), (1, .func (.func 73) #[] #[.pointer (some ⟨bb2, 0, none⟩)]), (5, .int .i64 m0_1), (6, .int .i64 m0_2)] := by simpa only [upd_length] using hT
                clear hT
                refine wpList_nil (hK _ _ ?_)
                replace hS : Sl 42 _ [(0, .slice A0 (upd m0_0 m0_1 x35).length cap0), (1, .func (.func 73) #[] #[.pointer (some ⟨bb2, 0, none⟩)]), (5, .int .i64 m0_1), (6, .int .i64 m0_2)] := hS54.re ⟨rfl, rfl, rfl, rfl, trivial⟩
                clear hK K
                try clear hS48 hS49 hS50 hS53 hS54
                obtain ⟨a, ha⟩ : ∃ a', a' = a54 := ⟨_, rfl⟩
                rw [← ha] at hS ⊢; clear ha
                refine c_pure1 [(0, .slice A0 (upd m0_0 m0_1 x35).length cap0), (1, .func (.func 73) #[] #[.pointer (some ⟨bb2, 0, none⟩)]), (5, .int .i64 (wi (m0_1 + 1))), (6, .int .i64 m0_2)] (fun R hR => st_val hS rfl rfl rfl (r_move hS rfl rfl) fun a56 hS56 => st_val hS56 rfl rfl rfl (r_bin hS56 rfl rfl rfl b_add) fun a57 hS57 => st_val hS57 rfl rfl rfl (r_assign hS57 rfl rfl) fun a58 hS58 => wpList_nil (hR _ (hS58.re ⟨rfl, rfl, rfl, rfl, trivial⟩))) ?_
                clear hS
                clear a
                intro a hS
                have e := Option.some.inj H
                subst e
                exact ⟨g55, hS.re ⟨rfl, rfl, rfl, rfl, trivial⟩, hp0, hp2, hb3, hf3_begun, hf3_free, hf3_links, hf3_slot, hF⟩
              · replace H := ite_f hb47 H
                refine wp_skip ?_
                have e := Option.some.inj H
                subst e
                exact ⟨g45, hS.re ⟨rfl, rfl, rfl, rfl, trivial⟩, hp0, hp2, hb3, hf3_begun, hf3_free, hf3_links, hf3_slot, hF⟩
            · clear H
              clear hp0 hp2 hf3_links hf3_slot hf3_begun hf3_free hb3 hF
              clear hS
              rintro a w29 ⟨g29, hS, hp0, hp2, hb3, hf3_begun, hf3_free, hf3_links, hf3_slot, hF⟩
              have H := Hl32
              clear Hl32
              refine c_pure1 [(0, .slice A0 v30.1.length cap0), (1, .func (.func 73) #[] #[.pointer (some ⟨bb2, 0, none⟩)]), (5, .int .i64 v30.2), (6, .int .i64 (wi (m0_2 + 1)))] (fun R hR => st_val hS rfl rfl rfl (r_move hS rfl rfl) fun a59 hS59 => st_val hS59 rfl rfl rfl (r_bin hS59 rfl rfl rfl b_add) fun a60 hS60 => st_val hS60 rfl rfl rfl (r_assign hS60 rfl rfl) fun a61 hS61 => wpList_nil (hR _ (hS61.re ⟨rfl, rfl, rfl, rfl, trivial⟩))) ?_
              clear hS
              clear a
              intro a hS
              refine ⟨k23, Nat.lt_succ_self _, ?_⟩
              exact ⟨v30.1, v30.2, wi (m0_2 + 1), g29, H, hS.re ⟨rfl, rfl, rfl, rfl, trivial⟩, hp0, hp2, hb3, hf3_begun, hf3_free, hf3_links, hf3_slot, hF⟩
          · replace H := ite_f hb28 H
            refine wp_exit ?_
            have e := Option.some.inj H
            subst e
            exact ⟨g22, hS.re ⟨rfl, rfl, trivial⟩, hp0, hb3, hf3_begun, hf3_free, hf3_links, hf3_slot, hF⟩
    · clear H
      clear hp0 hp2 hf3_links hf3_slot hf3_begun hf3_free hb3 hF
      clear hS
      rintro a w15 ⟨g15, hS, hp0, hb3, hf3_begun, hf3_free, hf3_links, hf3_slot, hF⟩
      have H := Hl18
      clear Hl18
      obtain ⟨y64, hy65, H⟩ := bind_el H
      refine c_region (fun K hK => ?_)
      refine st_val hS rfl rfl rfl (r_move hS rfl rfl) fun a62 hS62 => st_val hS62 rfl rfl rfl (r_move hS62 rfl rfl) fun a63 hS63 => ?_
      have h66 := RdS.slc (OwS.rd hp0) hy65
      refine st_val hS63 rfl rfl rfl (r_slice (e := 33) (sz := 1) (by_ := 8) (l := v16.2) (h := (v16.1.length : Int)) hS63 rfl rfl (by kernel_rfl) rfl rfl hy65 (OwS.rd hp0).1) fun a68 hS68 => ?_
      refine st_effN hS68 rfl rfl (e_clear (e := 33) (by_ := 8) (z := .int .u64 0) (kd := (kint .u64)) (x0 := 0) g15 hS68 rfl rfl (by kernel_rfl) (by kernel_rfl) rfl rfl hy65 hp0 (fun _ _ _ => by exact rfl)) ?_
      rintro _ a69 w70 g70 ⟨⟨rfl, hp0⟩, F70⟩ hS69
      replace hb3 := hb3.fr F70 (fun (hm : c3 = c0) => by omega)
      replace hf3_begun := OwS.fr hf3_begun F70 (fun c' hc (hm : c' = c0) => by omega)
      replace hf3_free := OwS.fr hf3_free F70 (fun c' hc (hm : c' = c0) => by omega)
      replace hf3_links := RdS.fr hf3_links F70 (by decide) (fun q (hq : C_links_p3 q) (hm : q = c0) => by have := hC_links_p3 q hq; have := hg0_C_links_p3 q hq; omega)
      replace hf3_slot := OwS.fr hf3_slot F70 (fun c' hc (hm : c' = c0) => by omega)
      replace hF := hF.trans F70 (fun c' (hm : c' = c0) => by show (c0 ≤ c' ∧ c' < c0 + 2) ∨ (r0 ≤ c' ∧ c' < r0 + 2) ∨ N ≤ c'; omega)
      have hT : Sl 42 a69 [(0, .slice A0 v16.1.length cap0), (5, .int .i64 v16.2)] := hS69.re ⟨rfl, rfl, trivial⟩
      replace hS69 : Sl 42 a69 [(0, .slice A0 (clr v16.1 v16.2 0).length cap0), (5, .int .i64 v16.2)] := by simpa only [clr_length (slc_some hy65).2.1] using hT
      clear hT
      refine wpList_nil (hK _ _ ?_)
      replace hS : Sl 42 _ [(0, .slice A0 (clr v16.1 v16.2 0).length cap0), (5, .int .i64 v16.2)] := hS69.re ⟨rfl, rfl, trivial⟩
      clear hK K
      try clear hS62 hS63 hS68 hS69
      obtain ⟨a, ha⟩ : ∃ a', a' = a69 := ⟨_, rfl⟩
      rw [← ha] at hS ⊢; clear ha
      obtain ⟨y73, hy74, H⟩ := bind_el H
      refine c_region (fun K hK => ?_)
      refine st_val hS rfl rfl rfl (r_move hS rfl rfl) fun a71 hS71 => st_val hS71 rfl rfl rfl (r_move hS71 rfl rfl) fun a72 hS72 => ?_
      have h75 := OwS.slc0 hp0 hy74
      refine st_val hS72 rfl rfl rfl (r_slice (e := 33) (sz := 1) (by_ := 8) (l := 0) (h := v16.2) hS72 rfl rfl (by kernel_rfl) rfl rfl hy74 (OwS.rd hp0).1) fun a77 hS77 => st_val hS77 rfl rfl rfl (r_assign hS77 rfl rfl) fun a78 hS78 => wpList_nil (hK _ _ ?_)
      replace hS : Sl 42 _ [(4, .slice (slA A0 cap0 (0 : Int).toNat 1) y73.length (cap0 - (0 : Int).toNat))] := hS78.re ⟨rfl, trivial⟩
      clear hK K
      try clear hS71 hS72 hS77 hS78
      obtain ⟨a, ha⟩ : ∃ a', a' = a78 := ⟨_, rfl⟩
      rw [← ha] at hS ⊢; clear ha
      refine wp_ret ?_
      have e := Option.some.inj H
      subst e
      have F79 := Fr.recol2 w70 g70 (c0) r0
      replace h75 := h75.recol2 r0
      replace hb3 := hb3.fr F79 (fun (hm : c3 = c0 ∨ c3 = c0 + 1) => by omega)
      replace hf3_begun := OwS.fr hf3_begun F79 (fun c' hc (hm : c' = c0 ∨ c' = c0 + 1) => by omega)
      replace hf3_free := OwS.fr hf3_free F79 (fun c' hc (hm : c' = c0 ∨ c' = c0 + 1) => by omega)
      replace hf3_links := RdS.fr hf3_links F79 (by decide) (fun q (hq : C_links_p3 q) (hm : q = c0 ∨ q = c0 + 1) => by have := hC_links_p3 q hq; have := hg0_C_links_p3 q hq; omega)
      replace hf3_slot := OwS.fr hf3_slot F79 (fun c' hc (hm : c' = c0 ∨ c' = c0 + 1) => by omega)
      replace hF := hF.trans F79 (fun c' (hm : c' = c0 ∨ c' = c0 + 1) => by show (c0 ≤ c' ∧ c' < c0 + 2) ∨ (r0 ≤ c' ∧ c' < r0 + 2) ∨ N ≤ c'; omega)
      repeat (with_reducible first | refine then_ret ?_ | refine inBlock_ret ?_)
      exact c_ret1 hS Try.results71 rfl ⟨_, rfl, (recol2 g70 (c0) r0), (slA A0 cap0 (0 : Int).toNat 1), (cap0 - (0 : Int).toNat), rfl, h75, hF⟩


end Go.Proofs.Ythmjgadmadlpkaa.Sim

namespace Go.Proofs.Ythmjgadmadlpkaa.Sim
open Go
set_option linter.unusedVariables false
set_option linter.unusedSimpArgs false

/-! ### slices_Min_uint64_uint64: function 74 -/
def slices_Min_uint64_uint64.l0 (p0 : List Int) : Nat → Int → Int → Option (Int)
  | 0, _, _ => none
  | k16 + 1, m0_0, m0_1 => if decide (m0_1 < (p0.length : Int)) = true then ((idx p0 m0_1).bind fun x25 => slices_Min_uint64_uint64.l0 p0 k16 (min m0_0 x25) (wi (m0_1 + 1))) else (some m0_0)
def slices_Min_uint64_uint64.f (p0 : List Int) : Option (Int) := if decide ((p0.length : Int) < 1) = true then (none) else ((idx p0 0).bind fun x7 => (slices_Min_uint64_uint64.l0 p0 FUEL x7 1 : Option (Int)).bind fun v12 => some v12)
set_option maxRecDepth 100000 in
set_option maxHeartbeats 4000000 in
theorem slices_Min_uint64_uint64.calls {p0 : List Int} {A0 : Option Addr} {cap0 : Nat} {C0 : Nat → Prop} {w : World} {g : Nat → Nat} {out : Int} (N : Nat) (hp0 : RdS (kint .u64) w g C0 A0 cap0 p0) (hC0 : ∀ c, C0 c → c < N) (H : slices_Min_uint64_uint64.f p0 = some out) :
    Calls Try.prog 74 #[.slice A0 p0.length cap0] w (fun e w' => ∃ v, e = .returned v ∧ ∃ (g' : Nat → Nat), v = .int .u64 out ∧ Fr (fun q => N ≤ q) w g w' g') := by
  unfold slices_Min_uint64_uint64.f at H
  refine calls_enter Try.func74 rfl Try.ntmps74 rfl (fun a hS => ?_)
  replace hS : Sl 25 a [(0, .slice A0 p0.length cap0)] := hS
  have hF : Fr (fun q => N ≤ q) w g w g := Fr.refl _ _ _
  refine c_pure [(0, .slice A0 p0.length cap0)] (fun R hR => st_val hS rfl rfl rfl (r_assign hS rfl rfl) fun a1 hS1 => wpList_nil (hR _ (hS1.re ⟨rfl, trivial⟩))) ?_
  clear hS
  clear a
  intro a hS
  refine wp_seq ?_
  refine c_pure [(0, .slice A0 p0.length cap0), (7, .bool (decide ((p0.length : Int) < 1)))] (fun R hR => st_val hS rfl rfl rfl (r_move hS rfl rfl) fun a2 hS2 => st_val hS2 rfl rfl rfl (r_len (e := 33) (sz := 1) (by_ := 8) hS2 rfl rfl (by kernel_rfl)) fun a3 hS3 => st_val hS3 rfl rfl rfl (r_bin hS3 rfl rfl rfl b_lss) fun a4 hS4 => wpList_nil (hR _ (hS4.re ⟨rfl, rfl, trivial⟩))) ?_
  clear hS
  clear a
  intro a hS
  refine c_cond hS rfl (fun hb5 => ?_) (fun hb5 => ?_)
  · replace H := ite_t hb5 H
    exact absurd H (by simp)
  · replace H := ite_f hb5 H
    refine wp_skip ?_
    change Code.wp _ _ _ _ _
    obtain ⟨x7, hx8, H⟩ := bind_el H
    refine c_pure [(0, .slice A0 p0.length cap0), (3, .int .u64 x7)] (fun R hR => st_val hS rfl rfl rfl (r_move hS rfl rfl) fun a6 hS6 => st_val hS6 rfl rfl rfl (r_index (e := 33) (sz := 1) (by_ := 8) hS6 rfl rfl rfl (by kernel_rfl) (RdS.some_ hp0 hx8) (idx_lo hx8) (idx_hi hx8)) fun a9 hS9 => st_val hS9 rfl rfl rfl (r_load1 (n := 1) hS9 rfl rfl (by kernel_rfl) (RdS.cell (i := 0) (sz := 1) (j := 0) hp0 hx8 rfl)) fun a10 hS10 => st_val hS10 rfl rfl rfl (r_assign hS10 rfl rfl) fun a11 hS11 => wpList_nil (hR _ (hS11.re ⟨rfl, rfl, trivial⟩))) ?_
    clear hS
    clear a
    intro a hS
    obtain ⟨v12, H, Hl14⟩ := bind_el H
    refine c_cut (fun a w' => w = w' ∧ Sl 25 a [(3, .int .u64 v12)]) ?_ ?_
    · refine c_pure [(0, .slice A0 p0.length cap0), (3, .int .u64 x7), (4, .int .i64 1)] (fun R hR => st_val hS rfl rfl rfl (r_assign hS rfl rfl) fun a15 hS15 => wpList_nil (hR _ (hS15.re ⟨rfl, rfl, rfl, trivial⟩))) ?_
      clear hS
      clear a
      intro a hS
      refine wp_block ?_
      refine wp_loop_ghost (fun kq => fun a w' => ∃ (m0_0 : Int), ∃ (m0_1 : Int), slices_Min_uint64_uint64.l0 p0 kq m0_0 m0_1 = some v12 ∧ w = w' ∧ Sl 25 a [(0, .slice A0 p0.length cap0), (3, .int .u64 m0_0), (4, .int .i64 m0_1)]) FUEL ?_ ?_
      · exact ⟨x7, 1, H, rfl, hS.re ⟨rfl, rfl, rfl, trivial⟩⟩
      · clear H
        clear hS
        rintro k16 a w' ⟨m0_0, m0_1, hpre0, hw, hS⟩
        subst hw
        have H := hpre0
        clear hpre0
        cases k16 with
        | zero => exact absurd H (by simp [slices_Min_uint64_uint64.l0])
        | succ k16 =>
          rw [slices_Min_uint64_uint64.l0] at H
          refine wp_seq ?_
          refine c_pure [(0, .slice A0 p0.length cap0), (3, .int .u64 m0_0), (4, .int .i64 m0_1), (15, .bool (decide (m0_1 < (p0.length : Int))))] (fun R hR => st_val hS rfl rfl rfl (r_move hS rfl rfl) fun a17 hS17 => st_val hS17 rfl rfl rfl (r_move hS17 rfl rfl) fun a18 hS18 => st_val hS18 rfl rfl rfl (r_len (e := 33) (sz := 1) (by_ := 8) hS18 rfl rfl (by kernel_rfl)) fun a19 hS19 => st_val hS19 rfl rfl rfl (r_bin hS19 rfl rfl rfl b_lss) fun a20 hS20 => wpList_nil (hR _ (hS20.re ⟨rfl, rfl, rfl, rfl, trivial⟩))) ?_
          clear hS
          clear a
          intro a hS
          refine c_cond hS rfl (fun hb21 => ?_) (fun hb21 => ?_)
          · replace H := ite_t hb21 H
            refine wp_skip ?_
            change Code.wp _ _ _ _ _
            refine wp_seq ?_
            refine wp_block ?_
            obtain ⟨x25, hx26, H⟩ := bind_el H
            refine c_pure1 [(0, .slice A0 p0.length cap0), (3, .int .u64 (min m0_0 x25)), (4, .int .i64 m0_1)] (fun R hR => st_val hS rfl rfl rfl (r_move hS rfl rfl) fun a22 hS22 => st_val hS22 rfl rfl rfl (r_move hS22 rfl rfl) fun a23 hS23 => st_val hS23 rfl rfl rfl (r_move hS23 rfl rfl) fun a24 hS24 => st_val hS24 rfl rfl rfl (r_index (e := 33) (sz := 1) (by_ := 8) hS24 rfl rfl rfl (by kernel_rfl) (RdS.some_ hp0 hx26) (idx_lo hx26) (idx_hi hx26)) fun a27 hS27 => st_val hS27 rfl rfl rfl (r_load1 (n := 1) hS27 rfl rfl (by kernel_rfl) (RdS.cell (i := m0_1) (sz := 1) (j := 0) hp0 hx26 rfl)) fun a28 hS28 => st_val hS28 rfl rfl rfl (r_min hS28 rfl rfl rfl) fun a29 hS29 => st_val hS29 rfl rfl rfl (r_assign hS29 rfl rfl) fun a30 hS30 => wpList_nil (hR _ (hS30.re ⟨rfl, rfl, rfl, trivial⟩))) ?_
            clear hS
            clear a
            intro a hS
            change Code.wp _ _ _ _ _
            refine c_pure1 [(0, .slice A0 p0.length cap0), (3, .int .u64 (min m0_0 x25)), (4, .int .i64 (wi (m0_1 + 1)))] (fun R hR => st_val hS rfl rfl rfl (r_move hS rfl rfl) fun a31 hS31 => st_val hS31 rfl rfl rfl (r_bin hS31 rfl rfl rfl b_add) fun a32 hS32 => st_val hS32 rfl rfl rfl (r_assign hS32 rfl rfl) fun a33 hS33 => wpList_nil (hR _ (hS33.re ⟨rfl, rfl, rfl, trivial⟩))) ?_
            clear hS
            clear a
            intro a hS
            refine ⟨k16, Nat.lt_succ_self _, ?_⟩
            exact ⟨(min m0_0 x25), wi (m0_1 + 1), H, rfl, hS.re ⟨rfl, rfl, rfl, trivial⟩⟩
          · replace H := ite_f hb21 H
            refine wp_exit ?_
            have e := Option.some.inj H
            subst e
            exact ⟨rfl, hS.re ⟨rfl, trivial⟩⟩
    · clear H
      clear hS
      rintro a w' ⟨hw, hS⟩
      subst hw
      have H := Hl14
      clear Hl14
      refine c_pure [(2, .int .u64 v12)] (fun R hR => st_val hS rfl rfl rfl (r_move hS rfl rfl) fun a34 hS34 => st_val hS34 rfl rfl rfl (r_assign hS34 rfl rfl) fun a35 hS35 => wpList_nil (hR _ (hS35.re ⟨rfl, trivial⟩))) ?_
      clear hS
      clear a
      intro a hS
      refine wp_ret ?_
      have e := Option.some.inj H
      subst e
      repeat (with_reducible first | refine then_ret ?_ | refine inBlock_ret ?_)
      exact c_ret1 hS Try.results74 rfl ⟨_, rfl, g, rfl, hF⟩


end Go.Proofs.Ythmjgadmadlpkaa.Sim
