/-
  Texts of this session, part 4 of 6: the words of the walk, plain functions with the same answers as the Go functions and the proofs of it, plain lemmas. No condition.
  They are, one behind the other: QResumeVerify QLaw31Awake QLaw31Durations QRef24Invalid QRef24Basic QRef24Matrix QRef24Check QRef24Remove QRef24Order QRef31Input QRef31CriticalPath.
-/
import Derived.Test.YthmjgadmadlpkaaProg
import Derived.Test.YthmjgadmadlpkaaZResumeScheduleAgrees3

namespace Go.Proofs.Ythmjgadmadlpkaa.Sim
open Go
set_option linter.unusedVariables false
set_option linter.unusedSimpArgs false

/-! ### resume_Verify: function 25 -/
def resume_Verify.l1 (m0_0 : List api_Slot) (x52 : api_Slot) (y75 : List api_Slot) : Nat → Int → Option (Fl (Fl (Int) ((List api_Slot))) ((List api_Slot)))
  | 0, _ => none
  | k83 + 1, m1_0 => if decide (m1_0 < (y75.length : Int)) = true then ((idx y75 m1_0).bind fun x86 => if (((x52.Worker == x86.Worker) && (decide (x52.Start < x86.End))) && (decide (x86.Start < x52.End))) = true then (some (.out (.out 17))) else (resume_Verify.l1 m0_0 x52 y75 k83 (wi (m1_0 + 1)))) else (some (.nxt (upd m0_0 x52.Device x52)))
def resume_Verify.l0 (p4 : List api_Slot) : Nat → (List api_Slot) → Int → Option (Fl (Int) ((List api_Slot)))
  | 0, _, _ => none
  | k44 + 1, m0_0, m0_1 => if decide (m0_1 < (p4.length : Int)) = true then (((idx p4 m0_1).bind fun x52 => (idx m0_0 x52.Device).bind fun x68 => (slc p4 0 m0_1).bind fun y75 => resume_Verify.l1 m0_0 x52 y75 FUEL 0 : Option (Fl (Fl (Int) ((List api_Slot))) ((List api_Slot)))).bind fun o49 => o49.go fun v48 => resume_Verify.l0 p4 k44 v48 (wi (m0_1 + 1))) else (some (.nxt m0_0))
def resume_Verify.l2 (p1 : List api_Link) (v37 : (List api_Slot)) : Nat → Int → Option (Fl (Int) (Unit))
  | 0, _ => none
  | k156 + 1, m2_0 => if decide (m2_0 < (p1.length : Int)) = true then ((idx p1 m2_0).bind fun x159 => (idx v37 x159.Consumer).bind fun x174 => (idx v37 x159.Supplier).bind fun x182 => if decide (x174.Start < x182.End) = true then (some (.out 9)) else (resume_Verify.l2 p1 v37 k156 (wi (m2_0 + 1)))) else (some (.nxt ()))
def resume_Verify.f (p0 : Int) (p1 : List api_Link) (p2 : List Int) (p3 : Int) (p4 : List api_Slot) : Option (Int) := (resume_check.f p0 p1 p2 p3).bind fun r6 => if (r6 != 0) = true then (some r6) else ((resume_validSlots.f p2 p3 p4).bind fun r19 => if (!r19) = true then (some 1) else ((mk p0 (api_Slot.mk 0 0 0 0)).bind fun y27 => (resume_Verify.l0 p4 FUEL y27 0 : Option (Fl (Int) ((List api_Slot)))).bind fun o38 => o38.go fun v37 => (resume_Verify.l2 p1 v37 FUEL 0 : Option (Fl (Int) (Unit))).bind fun o150 => o150.go fun _ => some 0))
set_option maxRecDepth 100000 in
set_option maxHeartbeats 4000000 in
theorem resume_Verify.calls {p0 : Int} {p1 : List api_Link} {A1 : Option Addr} {cap1 : Nat} {C1 : Nat → Prop} {p2 : List Int} {A2 : Option Addr} {cap2 : Nat} {C2 : Nat → Prop} {p3 : Int} {p4 : List api_Slot} {A4 : Option Addr} {cap4 : Nat} {C4 : Nat → Prop} {w : World} {g : Nat → Nat} {out : Int} (N : Nat) (hp1 : RdS kd_api_Link w g C1 A1 cap1 p1) (hC1 : ∀ c, C1 c → c < N) (hp2 : RdS (kint .u64) w g C2 A2 cap2 p2) (hC2 : ∀ c, C2 c → c < N) (hp4 : RdS kd_api_Slot w g C4 A4 cap4 p4) (hC4 : ∀ c, C4 c → c < N) (H : resume_Verify.f p0 p1 p2 p3 p4 = some out) :
    Calls Try.prog 25 #[.int .i64 p0, .slice A1 p1.length cap1, .slice A2 p2.length cap2, .int .i64 p3, .slice A4 p4.length cap4] w (fun e w' => ∃ v, e = .returned v ∧ ∃ (g' : Nat → Nat), v = .int .i64 out ∧ Fr (fun q => N ≤ q) w g w' g') := by
  unfold resume_Verify.f at H
  refine calls_enter Try.func25 rfl Try.ntmps25 rfl (fun a hS => ?_)
  replace hS : Sl 95 a [(0, .int .i64 p0), (1, .slice A1 p1.length cap1), (2, .slice A2 p2.length cap2), (3, .int .i64 p3), (4, .slice A4 p4.length cap4)] := hS
  have hF : Fr (fun q => N ≤ q) w g w g := Fr.refl _ _ _
  refine c_pure [(0, .int .i64 p0), (1, .slice A1 p1.length cap1), (2, .slice A2 p2.length cap2), (3, .int .i64 p3), (4, .slice A4 p4.length cap4)] (fun R hR => st_val hS rfl rfl rfl (r_assign hS rfl rfl) fun a1 hS1 => wpList_nil (hR _ (hS1.re ⟨rfl, rfl, rfl, rfl, rfl, trivial⟩))) ?_
  clear hS
  clear a
  intro a hS
  refine wp_seq ?_
  obtain ⟨r6, hr7, H⟩ := bind_el H
  refine c_region (fun K hK => ?_)
  refine st_val hS rfl rfl rfl (r_move hS rfl rfl) fun a2 hS2 => st_val hS2 rfl rfl rfl (r_move hS2 rfl rfl) fun a3 hS3 => st_val hS3 rfl rfl rfl (r_move hS3 rfl rfl) fun a4 hS4 => st_val hS4 rfl rfl rfl (r_move hS4 rfl rfl) fun a5 hS5 => ?_
  refine st_enter hS5 rfl rfl rfl (r_call hS5 rfl rfl (by kernel_rfl)) (resume_check.calls (C1 := C1) (C2 := C2) (p0 := p0) (p1 := p1) (p2 := p2) (p3 := p3) (g := g) (N + 8)  hp1 (fun q (hq : C1 q) => by have := hC1 q hq; omega) hp2 (fun q (hq : C2 q) => by have := hC2 q hq; omega) hr7) ?_
  rintro _ a8 w9 ⟨g9, rfl, F9⟩ hS8
  replace hp1 := RdS.fr hp1 F9 (by decide) (fun q (hq : C1 q) (hm : N + 8 ≤ q) => by have := hC1 q hq; omega)
  replace hp2 := RdS.fr hp2 F9 (by decide) (fun q (hq : C2 q) (hm : N + 8 ≤ q) => by have := hC2 q hq; omega)
  replace hp4 := RdS.fr hp4 F9 (by decide) (fun q (hq : C4 q) (hm : N + 8 ≤ q) => by have := hC4 q hq; omega)
  replace hF := hF.trans F9 (fun c' (hm : N + 8 ≤ c') => by show N ≤ c'; omega)
  refine st_val hS8 rfl rfl rfl (r_assign hS8 rfl rfl) fun a10 hS10 => wpList_nil (hK _ _ ?_)
  replace hS : Sl 95 _ [(0, .int .i64 p0), (1, .slice A1 p1.length cap1), (2, .slice A2 p2.length cap2), (3, .int .i64 p3), (4, .slice A4 p4.length cap4), (11, .int .i64 r6)] := hS10.re ⟨rfl, rfl, rfl, rfl, rfl, rfl, trivial⟩
  clear hK K
  try clear hS2 hS3 hS4 hS5 hS8 hS10
  obtain ⟨a, ha⟩ : ∃ a', a' = a10 := ⟨_, rfl⟩
  rw [← ha] at hS ⊢; clear ha
  refine c_pure [(0, .int .i64 p0), (1, .slice A1 p1.length cap1), (2, .slice A2 p2.length cap2), (3, .int .i64 p3), (4, .slice A4 p4.length cap4), (11, .int .i64 r6), (25, .bool (r6 != 0))] (fun R hR => st_val hS rfl rfl rfl (r_move hS rfl rfl) fun a11 hS11 => st_val hS11 rfl rfl rfl (r_bin hS11 rfl rfl rfl b_neq) fun a12 hS12 => wpList_nil (hR _ (hS12.re ⟨rfl, rfl, rfl, rfl, rfl, rfl, rfl, trivial⟩))) ?_
  clear hS
  clear a
  intro a hS
  refine c_cond hS rfl (fun hb13 => ?_) (fun hb13 => ?_)
  · replace H := ite_t hb13 H
    refine c_pure [(10, .int .i64 r6)] (fun R hR => st_val hS rfl rfl rfl (r_move hS rfl rfl) fun a14 hS14 => st_val hS14 rfl rfl rfl (r_assign hS14 rfl rfl) fun a15 hS15 => wpList_nil (hR _ (hS15.re ⟨rfl, trivial⟩))) ?_
    clear hS
    clear a
    intro a hS
    refine wp_ret ?_
    have e := Option.some.inj H
    subst e
    repeat (with_reducible first | refine then_ret ?_ | refine inBlock_ret ?_)
    exact c_ret1 hS Try.results25 rfl ⟨_, rfl, g9, rfl, hF⟩
  · replace H := ite_f hb13 H
    refine wp_skip ?_
    change Code.wp _ _ _ _ _
    refine wp_seq ?_
    obtain ⟨r19, hr20, H⟩ := bind_el H
    refine c_region (fun K hK => ?_)
    refine st_val hS rfl rfl rfl (r_move hS rfl rfl) fun a16 hS16 => st_val hS16 rfl rfl rfl (r_move hS16 rfl rfl) fun a17 hS17 => st_val hS17 rfl rfl rfl (r_move hS17 rfl rfl) fun a18 hS18 => ?_
    refine st_enter hS18 rfl rfl rfl (r_call hS18 rfl rfl (by kernel_rfl)) (resume_validSlots.calls (C0 := C2) (C2 := C4) (p0 := p2) (p1 := p3) (p2 := p4) (g := g9) (N + 8)  hp2 (fun q (hq : C2 q) => by have := hC2 q hq; omega) hp4 (fun q (hq : C4 q) => by have := hC4 q hq; omega) hr20) ?_
    rintro _ a21 w22 ⟨g22, rfl, F22⟩ hS21
    replace hp1 := RdS.fr hp1 F22 (by decide) (fun q (hq : C1 q) (hm : N + 8 ≤ q) => by have := hC1 q hq; omega)
    replace hp2 := RdS.fr hp2 F22 (by decide) (fun q (hq : C2 q) (hm : N + 8 ≤ q) => by have := hC2 q hq; omega)
    replace hp4 := RdS.fr hp4 F22 (by decide) (fun q (hq : C4 q) (hm : N + 8 ≤ q) => by have := hC4 q hq; omega)
    replace hF := hF.trans F22 (fun c' (hm : N + 8 ≤ c') => by show N ≤ c'; omega)
    refine st_val hS21 rfl rfl rfl (r_not hS21 rfl rfl) fun a23 hS23 => wpList_nil (hK _ _ ?_)
    replace hS : Sl 95 _ [(0, .int .i64 p0), (1, .slice A1 p1.length cap1), (4, .slice A4 p4.length cap4), (31, .bool (!r19))] := hS23.re ⟨rfl, rfl, rfl, rfl, trivial⟩
    clear hK K
    try clear hS16 hS17 hS18 hS21 hS23
    obtain ⟨a, ha⟩ : ∃ a', a' = a23 := ⟨_, rfl⟩
    rw [← ha] at hS ⊢; clear ha
    refine c_cond hS rfl (fun hb24 => ?_) (fun hb24 => ?_)
    · replace H := ite_t hb24 H
      refine c_pure [(10, .int .i64 1)] (fun R hR => st_val hS rfl rfl rfl (r_assign hS rfl rfl) fun a25 hS25 => wpList_nil (hR _ (hS25.re ⟨rfl, trivial⟩))) ?_
      clear hS
      clear a
      intro a hS
      refine wp_ret ?_
      have e := Option.some.inj H
      subst e
      repeat (with_reducible first | refine then_ret ?_ | refine inBlock_ret ?_)
      exact c_ret1 hS Try.results25 rfl ⟨_, rfl, g22, rfl, hF⟩
    · replace H := ite_f hb24 H
      refine wp_skip ?_
      change Code.wp _ _ _ _ _
      obtain ⟨y27, hy28, H⟩ := bind_el H
      refine c_region (fun K hK => ?_)
      refine st_val hS rfl rfl rfl (r_move hS rfl rfl) fun a26 hS26 => ?_
      refine st_eff hS26 rfl rfl rfl (e_make (e := 38) (sz := 4) (by_ := 32) (z := [.int .i64 0, .int .i64 0, .int .u64 0, .int .u64 0]) (kd := kd_api_Slot) (N + 0) g22 hS26 rfl rfl (by kernel_rfl) (by kernel_rfl) rfl rfl rfl (fun _ _ _ => by exact rfl) hy28) ?_
      rintro _ a33 w34 g34 ⟨⟨A29, cap30, rfl, h31⟩, F34⟩ hS33
      replace hp1 := RdS.fr hp1 F34 (by decide) (fun _ _ h => h)
      replace hp4 := RdS.fr hp4 F34 (by decide) (fun _ _ h => h)
      replace hF := hF.trans F34 (fun _ h => h.elim)
      refine st_val hS33 rfl rfl rfl (r_assign hS33 rfl rfl) fun a35 hS35 => wpList_nil (hK _ _ ?_)
      replace hS : Sl 95 _ [(1, .slice A1 p1.length cap1), (4, .slice A4 p4.length cap4), (12, .slice A29 y27.length cap30)] := hS35.re ⟨rfl, rfl, rfl, trivial⟩
      clear hK K
      try clear hS26 hS33 hS35
      obtain ⟨a, ha⟩ : ∃ a', a' = a35 := ⟨_, rfl⟩
      rw [← ha] at hS ⊢; clear ha
      obtain ⟨o38, H, Hl39⟩ := bind_el H
      refine c_cut (fun a w36 => ∃ (v37 : (List api_Slot)), ∃ (g36 : Nat → Nat), o38 = .nxt v37 ∧ Sl 95 a [(1, .slice A1 p1.length cap1), (12, .slice A29 v37.length cap30)] ∧ OwS kd_api_Slot 38 w36 g36 (N + 0) A29 cap30 v37 ∧ RdS kd_api_Link w36 g36 C1 A1 cap1 p1 ∧ Fr (fun q => N ≤ q) w g w36 g36) ?_ ?_
      · refine c_pure [(1, .slice A1 p1.length cap1), (4, .slice A4 p4.length cap4), (12, .slice A29 y27.length cap30), (34, .slice A4 p4.length cap4), (35, .int .i64 (p4.length : Int)), (36, .int .i64 0)] (fun R hR => st_val hS rfl rfl rfl (r_move hS rfl rfl) fun a40 hS40 => st_val hS40 rfl rfl rfl (r_len (e := 38) (sz := 4) (by_ := 32) hS40 rfl rfl (by kernel_rfl)) fun a41 hS41 => st_val hS41 rfl rfl rfl (r_move hS41 rfl rfl) fun a42 hS42 => wpList_nil (hR _ (hS42.re ⟨rfl, rfl, rfl, rfl, rfl, rfl, trivial⟩))) ?_
        clear hS
        clear a
        intro a hS
        refine wp_block ?_
        refine wp_loop_ghost (fun kq => fun a w43 => ∃ (m0_0 : List api_Slot), ∃ (m0_1 : Int), ∃ (g43 : Nat → Nat), resume_Verify.l0 p4 kq m0_0 m0_1 = some o38 ∧ Sl 95 a [(1, .slice A1 p1.length cap1), (4, .slice A4 p4.length cap4), (12, .slice A29 m0_0.length cap30), (34, .slice A4 p4.length cap4), (35, .int .i64 (p4.length : Int)), (36, .int .i64 m0_1)] ∧ OwS kd_api_Slot 38 w43 g43 (N + 0) A29 cap30 m0_0 ∧ RdS kd_api_Link w43 g43 C1 A1 cap1 p1 ∧ RdS kd_api_Slot w43 g43 C4 A4 cap4 p4 ∧ Fr (fun q => N ≤ q) w g w43 g43) FUEL ?_ ?_
        · exact ⟨y27, 0, g34, H, hS.re ⟨rfl, rfl, rfl, rfl, rfl, rfl, trivial⟩, h31, hp1, hp4, hF⟩
        · clear H
          clear hp1 hp4 h31 hF
          clear hS
          rintro k44 a w43 ⟨m0_0, m0_1, g43, hpre0, hS, h31, hp1, hp4, hF⟩
          have H := hpre0
          clear hpre0
          cases k44 with
          | zero => exact absurd H (by simp [resume_Verify.l0])
          | succ k44 =>
            rw [resume_Verify.l0] at H
            refine c_pure [(1, .slice A1 p1.length cap1), (4, .slice A4 p4.length cap4), (12, .slice A29 m0_0.length cap30), (34, .slice A4 p4.length cap4), (35, .int .i64 (p4.length : Int)), (36, .int .i64 m0_1), (37, .bool (decide (m0_1 < (p4.length : Int))))] (fun R hR => st_val hS rfl rfl rfl (r_bin hS rfl rfl rfl b_lss) fun a45 hS45 => wpList_nil (hR _ (hS45.re ⟨rfl, rfl, rfl, rfl, rfl, rfl, rfl, trivial⟩))) ?_
            clear hS
            clear a
            intro a hS
            refine c_if hS rfl (fun hb46 => ?_) (fun hb46 => ?_)
            · replace H := ite_t hb46 H
              refine wp_skip ?_
              change Code.wp _ _ _ _ _
              obtain ⟨o49, H, Hl50⟩ := bind_el H
              refine c_cut (fun a w47 => ∃ (v48 : (List api_Slot)), ∃ (g47 : Nat → Nat), o49 = .nxt v48 ∧ Sl 95 a [(1, .slice A1 p1.length cap1), (4, .slice A4 p4.length cap4), (12, .slice A29 v48.length cap30), (34, .slice A4 p4.length cap4), (35, .int .i64 (p4.length : Int)), (36, .int .i64 m0_1)] ∧ OwS kd_api_Slot 38 w47 g47 (N + 0) A29 cap30 v48 ∧ RdS kd_api_Link w47 g47 C1 A1 cap1 p1 ∧ RdS kd_api_Slot w47 g47 C4 A4 cap4 p4 ∧ Fr (fun q => N ≤ q) w g w47 g47) ?_ ?_
              · refine wp_block ?_
                obtain ⟨x52, hx53, H⟩ := bind_el H
                refine c_region (fun K hK => ?_)
                refine st_val hS rfl rfl rfl (r_move hS rfl rfl) fun a51 hS51 => st_val hS51 rfl rfl rfl (r_index (e := 38) (sz := 4) (by_ := 32) hS51 rfl rfl rfl (by kernel_rfl) (RdS.some_ hp4 hx53) (idx_lo hx53) (idx_hi hx53)) fun a54 hS54 => st_val hS54 rfl rfl rfl (r_loadN (n := 4) (cs := [.int .i64 x52.Device, .int .i64 x52.Worker, .int .u64 x52.Start, .int .u64 x52.End]) hS54 rfl rfl (by kernel_rfl) rfl (RdS.cells_off hp4 hx53 0 4)) fun a55 hS55 => ?_
                refine st_eff hS55 rfl rfl rfl (e_alloc (cs := [.int .i64 0, .int .i64 0, .int .u64 0, .int .u64 0]) (N + 2) g43 hS55 rfl (by kernel_rfl)) ?_
                rintro _ a59 w60 g60 ⟨⟨b56, rfl, h57⟩, F60⟩ hS59
                replace h31 := OwS.fr h31 F60 (fun _ _ h => h)
                replace hp1 := RdS.fr hp1 F60 (by decide) (fun _ _ h => h)
                replace hp4 := RdS.fr hp4 F60 (by decide) (fun _ _ h => h)
                replace hF := hF.trans F60 (fun _ h => h.elim)
                refine st_val hS59 rfl rfl rfl (r_assign hS59 rfl rfl) fun a61 hS61 => ?_
                refine st_effS hS61 rfl rfl (e_storeB (n := 4) (bb := true) (cs' := [.int .i64 x52.Device, .int .i64 x52.Worker, .int .u64 x52.Start, .int .u64 x52.End]) g60 hS61 rfl rfl rfl (by kernel_rfl) rfl rfl rfl h57 rfl rfl) ?_
                rintro a62 w63 g63 ⟨h57, F63⟩ hS62
                replace h31 := OwS.fr h31 F63 (fun c' hc (hm : c' = N + 2) => by omega)
                replace hp1 := RdS.fr hp1 F63 (by decide) (fun q (hq : C1 q) (hm : q = N + 2) => by have := hC1 q hq; omega)
                replace hp4 := RdS.fr hp4 F63 (by decide) (fun q (hq : C4 q) (hm : q = N + 2) => by have := hC4 q hq; omega)
                replace hF := hF.trans F63 (fun c' (hm : c' = N + 2) => by show N ≤ c'; omega)
                refine wpList_nil (hK _ _ ?_)
                replace hS : Sl 95 _ [(1, .slice A1 p1.length cap1), (4, .slice A4 p4.length cap4), (12, .slice A29 m0_0.length cap30), (13, .int .i64 m0_1), (14, .pointer (some ⟨b56, 0, none⟩)), (34, .slice A4 p4.length cap4), (35, .int .i64 (p4.length : Int)), (36, .int .i64 m0_1)] := hS62.re ⟨rfl, rfl, rfl, rfl, rfl, rfl, rfl, rfl, trivial⟩
                clear hK K
                try clear hS51 hS54 hS55 hS59 hS61 hS62
                obtain ⟨a, ha⟩ : ∃ a', a' = a62 := ⟨_, rfl⟩
                rw [← ha] at hS ⊢; clear ha
                obtain ⟨x68, hx69, H⟩ := bind_el H
                refine c_region (fun K hK => ?_)
                refine st_val hS rfl rfl rfl (r_move hS rfl rfl) fun a64 hS64 => st_val hS64 rfl rfl rfl (r_fieldB (off := 0) hS64 rfl rfl (by kernel_rfl)) fun a65 hS65 => st_val hS65 rfl rfl rfl (r_load1 (n := 1) hS65 rfl rfl (by kernel_rfl) (Bx.cell h57 rfl)) fun a66 hS66 => st_val hS66 rfl rfl rfl (r_loadN (n := 4) (cs := [.int .i64 x52.Device, .int .i64 x52.Worker, .int .u64 x52.Start, .int .u64 x52.End]) hS66 rfl rfl (by kernel_rfl) rfl (Bx.cells_off h57 0 4)) fun a67 hS67 => st_val hS67 rfl rfl rfl (r_index (e := 38) (sz := 4) (by_ := 32) hS67 rfl rfl rfl (by kernel_rfl) (RdS.some_ (OwS.rd h31) hx69) (idx_lo hx69) (idx_hi hx69)) fun a70 hS70 => ?_
                refine st_effS hS70 rfl rfl (e_storeE (n := 4) (bb := true) (kd := kd_api_Slot) (j := 0) (x' := x52) (us := [.int .i64 x52.Device, .int .i64 x52.Worker, .int .u64 x52.Start, .int .u64 x52.End]) g63 hS70 rfl rfl rfl rfl (by kernel_rfl) rfl rfl (by intro v hv; simp only [List.mem_cons, List.not_mem_nil, or_false] at hv; rcases hv with rfl | rfl | rfl | rfl <;> rfl) h31 hx69 rfl (fun _ _ cs hR => by rw [show cs = _ from hR]; rfl)) ?_
                rintro a71 w72 g72 ⟨h31, F72⟩ hS71
                replace h57 := h57.fr F72 (fun (hm : N + 2 = N + 0) => by omega)
                replace hp1 := RdS.fr hp1 F72 (by decide) (fun q (hq : C1 q) (hm : q = N + 0) => by have := hC1 q hq; omega)
                replace hp4 := RdS.fr hp4 F72 (by decide) (fun q (hq : C4 q) (hm : q = N + 0) => by have := hC4 q hq; omega)
                replace hF := hF.trans F72 (fun c' (hm : c' = N + 0) => by show N ≤ c'; omega)
                have hT : Sl 95 a71 [(1, .slice A1 p1.length cap1), (4, .slice A4 p4.length cap4), (12, .slice A29 m0_0.length cap30), (13, .int .i64 m0_1), (14, .pointer (some ⟨b56, 0, none⟩)), (34, .slice A4 p4.length cap4), (35, .int .i64 (p4.length : Int)), (36, .int .i64 m0_1)] := hS71.re ⟨rfl, rfl, rfl, rfl, rfl, rfl, rfl, rfl, trivial⟩
                replace hS71 : Sl 95 a71 [(1, .slice A1 p1.length cap1), (4, .slice A4 p4.length cap4), (12, .slice A29 (upd m0_0 x52.Device x52).length cap30), (13, .int .i64 m0_1), (14, .pointer (some ⟨b56, 0, none⟩)), (34, .slice A4 p4.length cap4), (35, .int .i64 (p4.length : Int)), (36, .int .i64 m0_1)] := by simpa only [upd_length] using hT
                clear hT
                refine wpList_nil (hK _ _ ?_)
                replace hS : Sl 95 _ [(1, .slice A1 p1.length cap1), (4, .slice A4 p4.length cap4), (12, .slice A29 (upd m0_0 x52.Device x52).length cap30), (13, .int .i64 m0_1), (14, .pointer (some ⟨b56, 0, none⟩)), (34, .slice A4 p4.length cap4), (35, .int .i64 (p4.length : Int)), (36, .int .i64 m0_1)] := hS71.re ⟨rfl, rfl, rfl, rfl, rfl, rfl, rfl, rfl, trivial⟩
                clear hK K
                try clear hS64 hS65 hS66 hS67 hS70 hS71
                obtain ⟨a, ha⟩ : ∃ a', a' = a71 := ⟨_, rfl⟩
                rw [← ha] at hS ⊢; clear ha
                obtain ⟨y75, hy76, H⟩ := bind_el H
                refine c_region (fun K hK => ?_)
                refine st_val hS rfl rfl rfl (r_move hS rfl rfl) fun a73 hS73 => st_val hS73 rfl rfl rfl (r_move hS73 rfl rfl) fun a74 hS74 => ?_
                have h77 := RdS.slc hp4 hy76
                refine st_val hS74 rfl rfl rfl (r_slice (e := 38) (sz := 4) (by_ := 32) (l := 0) (h := m0_1) hS74 rfl rfl (by kernel_rfl) rfl rfl hy76 hp4.1) fun a79 hS79 => st_val hS79 rfl rfl rfl (r_len (e := 38) (sz := 4) (by_ := 32) hS79 rfl rfl (by kernel_rfl)) fun a80 hS80 => st_val hS80 rfl rfl rfl (r_move hS80 rfl rfl) fun a81 hS81 => wpList_nil (hK _ _ ?_)
                replace hS : Sl 95 _ [(1, .slice A1 p1.length cap1), (4, .slice A4 p4.length cap4), (12, .slice A29 (upd m0_0 x52.Device x52).length cap30), (14, .pointer (some ⟨b56, 0, none⟩)), (34, .slice A4 p4.length cap4), (35, .int .i64 (p4.length : Int)), (36, .int .i64 m0_1), (48, .slice (slA A4 cap4 (0 : Int).toNat 4) y75.length (cap4 - (0 : Int).toNat)), (49, .int .i64 (y75.length : Int)), (50, .int .i64 0)] := hS81.re ⟨rfl, rfl, rfl, rfl, rfl, rfl, rfl, rfl, rfl, rfl, trivial⟩
                clear hK K
                try clear hS73 hS74 hS79 hS80 hS81
                obtain ⟨a, ha⟩ : ∃ a', a' = a81 := ⟨_, rfl⟩
                rw [← ha] at hS ⊢; clear ha
                refine wp_block ?_
                refine wp_loop_ghost (fun kq => fun a w82 => ∃ (m1_0 : Int), ∃ (g82 : Nat → Nat), resume_Verify.l1 m0_0 x52 y75 kq m1_0 = some o49 ∧ Sl 95 a [(1, .slice A1 p1.length cap1), (4, .slice A4 p4.length cap4), (12, .slice A29 (upd m0_0 x52.Device x52).length cap30), (14, .pointer (some ⟨b56, 0, none⟩)), (34, .slice A4 p4.length cap4), (35, .int .i64 (p4.length : Int)), (36, .int .i64 m0_1), (48, .slice (slA A4 cap4 (0 : Int).toNat 4) y75.length (cap4 - (0 : Int).toNat)), (49, .int .i64 (y75.length : Int)), (50, .int .i64 m1_0)] ∧ OwS kd_api_Slot 38 w82 g82 (N + 0) A29 cap30 (upd m0_0 x52.Device x52) ∧ Bx w82 g82 (N + 2) b56 38 [.int .i64 x52.Device, .int .i64 x52.Worker, .int .u64 x52.Start, .int .u64 x52.End] ∧ RdS kd_api_Slot w82 g82 C4 (slA A4 cap4 (0 : Int).toNat 4) (cap4 - (0 : Int).toNat) y75 ∧ RdS kd_api_Link w82 g82 C1 A1 cap1 p1 ∧ RdS kd_api_Slot w82 g82 C4 A4 cap4 p4 ∧ Fr (fun q => N ≤ q) w g w82 g82) FUEL ?_ ?_
                · exact ⟨0, g72, H, hS.re ⟨rfl, rfl, rfl, rfl, rfl, rfl, rfl, rfl, rfl, rfl, trivial⟩, h31, h57, h77, hp1, hp4, hF⟩
                · clear H
                  clear hp1 hp4 h31 h57 h77 hF
                  clear hS
                  rintro k83 a w82 ⟨m1_0, g82, hpre0, hS, h31, h57, h77, hp1, hp4, hF⟩
                  have H := hpre0
                  clear hpre0
                  cases k83 with
                  | zero => exact absurd H (by simp [resume_Verify.l1])
                  | succ k83 =>
                    rw [resume_Verify.l1] at H
                    refine c_pure [(1, .slice A1 p1.length cap1), (4, .slice A4 p4.length cap4), (12, .slice A29 (upd m0_0 x52.Device x52).length cap30), (14, .pointer (some ⟨b56, 0, none⟩)), (34, .slice A4 p4.length cap4), (35, .int .i64 (p4.length : Int)), (36, .int .i64 m0_1), (48, .slice (slA A4 cap4 (0 : Int).toNat 4) y75.length (cap4 - (0 : Int).toNat)), (49, .int .i64 (y75.length : Int)), (50, .int .i64 m1_0), (51, .bool (decide (m1_0 < (y75.length : Int))))] (fun R hR => st_val hS rfl rfl rfl (r_bin hS rfl rfl rfl b_lss) fun a84 hS84 => wpList_nil (hR _ (hS84.re ⟨rfl, rfl, rfl, rfl, rfl, rfl, rfl, rfl, rfl, rfl, rfl, trivial⟩))) ?_
                    clear hS
                    clear a
                    intro a hS
                    refine c_if hS rfl (fun hb85 => ?_) (fun hb85 => ?_)
                    · replace H := ite_t hb85 H
                      refine wp_skip ?_
                      change Code.wp _ _ _ _ _
                      refine wp_seq ?_
                      refine wp_block ?_
                      obtain ⟨x86, hx87, H⟩ := bind_el H
                      refine c_region (fun K hK => ?_)
                      refine st_val hS rfl rfl rfl (r_index (e := 38) (sz := 4) (by_ := 32) hS rfl rfl rfl (by kernel_rfl) (RdS.some_ h77 hx87) (idx_lo hx87) (idx_hi hx87)) fun a88 hS88 => st_val hS88 rfl rfl rfl (r_loadN (n := 4) (cs := [.int .i64 x86.Device, .int .i64 x86.Worker, .int .u64 x86.Start, .int .u64 x86.End]) hS88 rfl rfl (by kernel_rfl) rfl (RdS.cells_off h77 hx87 0 4)) fun a89 hS89 => ?_
                      refine st_eff hS89 rfl rfl rfl (e_alloc (cs := [.int .i64 0, .int .i64 0, .int .u64 0, .int .u64 0]) (N + 4) g82 hS89 rfl (by kernel_rfl)) ?_
                      rintro _ a93 w94 g94 ⟨⟨b90, rfl, h91⟩, F94⟩ hS93
                      replace h31 := OwS.fr h31 F94 (fun _ _ h => h)
                      replace h57 := h57.fr F94 (fun h => h)
                      replace h77 := RdS.fr h77 F94 (by decide) (fun _ _ h => h)
                      replace hp1 := RdS.fr hp1 F94 (by decide) (fun _ _ h => h)
                      replace hp4 := RdS.fr hp4 F94 (by decide) (fun _ _ h => h)
                      replace hF := hF.trans F94 (fun _ h => h.elim)
                      refine st_effS hS93 rfl rfl (e_storeB (n := 4) (bb := true) (cs' := [.int .i64 x86.Device, .int .i64 x86.Worker, .int .u64 x86.Start, .int .u64 x86.End]) g94 hS93 rfl rfl rfl (by kernel_rfl) rfl rfl rfl h91 rfl rfl) ?_
                      rintro a95 w96 g96 ⟨h91, F96⟩ hS95
                      replace h31 := OwS.fr h31 F96 (fun c' hc (hm : c' = N + 4) => by omega)
                      replace h57 := h57.fr F96 (fun (hm : N + 2 = N + 4) => by omega)
                      replace h77 := RdS.fr h77 F96 (by decide) (fun q (hq : C4 q) (hm : q = N + 4) => by have := hC4 q hq; omega)
                      replace hp1 := RdS.fr hp1 F96 (by decide) (fun q (hq : C1 q) (hm : q = N + 4) => by have := hC1 q hq; omega)
                      replace hp4 := RdS.fr hp4 F96 (by decide) (fun q (hq : C4 q) (hm : q = N + 4) => by have := hC4 q hq; omega)
                      replace hF := hF.trans F96 (fun c' (hm : c' = N + 4) => by show N ≤ c'; omega)
                      refine wpList_nil (hK _ _ ?_)
                      replace hS : Sl 95 _ [(1, .slice A1 p1.length cap1), (4, .slice A4 p4.length cap4), (12, .slice A29 (upd m0_0 x52.Device x52).length cap30), (14, .pointer (some ⟨b56, 0, none⟩)), (16, .pointer (some ⟨b90, 0, none⟩)), (34, .slice A4 p4.length cap4), (35, .int .i64 (p4.length : Int)), (36, .int .i64 m0_1), (48, .slice (slA A4 cap4 (0 : Int).toNat 4) y75.length (cap4 - (0 : Int).toNat)), (49, .int .i64 (y75.length : Int)), (50, .int .i64 m1_0)] := hS95.re ⟨rfl, rfl, rfl, rfl, rfl, rfl, rfl, rfl, rfl, rfl, rfl, trivial⟩
                      clear hK K
                      try clear hS88 hS89 hS93 hS95
                      obtain ⟨a, ha⟩ : ∃ a', a' = a95 := ⟨_, rfl⟩
                      rw [← ha] at hS ⊢; clear ha
                      refine c_region (fun K hK => ?_)
                      refine st_val hS rfl rfl rfl (r_fieldB (off := 1) hS rfl rfl (by kernel_rfl)) fun a97 hS97 => st_val hS97 rfl rfl rfl (r_load1 (n := 1) hS97 rfl rfl (by kernel_rfl) (Bx.cell h57 rfl)) fun a98 hS98 => st_val hS98 rfl rfl rfl (r_fieldB (off := 1) hS98 rfl rfl (by kernel_rfl)) fun a99 hS99 => st_val hS99 rfl rfl rfl (r_load1 (n := 1) hS99 rfl rfl (by kernel_rfl) (Bx.cell h91 rfl)) fun a100 hS100 => st_val hS100 rfl rfl rfl (r_bin hS100 rfl rfl rfl b_eql) fun a101 hS101 => st_val hS101 rfl rfl rfl (r_move hS101 rfl rfl) fun a102 hS102 => ?_
                      refine g_join (N := 95) 6 [(1, .slice A1 p1.length cap1), (4, .slice A4 p4.length cap4), (12, .slice A29 (upd m0_0 x52.Device x52).length cap30), (14, .pointer (some ⟨b56, 0, none⟩)), (16, .pointer (some ⟨b90, 0, none⟩)), (34, .slice A4 p4.length cap4), (35, .int .i64 (p4.length : Int)), (36, .int .i64 m0_1), (48, .slice (slA A4 cap4 (0 : Int).toNat 4) y75.length (cap4 - (0 : Int).toNat)), (49, .int .i64 (y75.length : Int)), (50, .int .i64 m1_0), (65, .bool ((x52.Worker == x86.Worker) && (decide (x52.Start < x86.End))))] ?_ (fun hk => ?_)
                      rotate_left
                      · rcases Bool.eq_false_or_eq_true ((x52.Worker == x86.Worker)) with hb103 | hb103
                        · refine st_valW hS102 (want_on hS102 rfl rfl rfl hb103) rfl rfl (r_fieldB (off := 2) hS102 rfl rfl (by kernel_rfl)) fun a109 hS109 => st_valW hS109 (want_on hS109 rfl rfl rfl hb103) rfl rfl (r_load1 (n := 1) hS109 rfl rfl (by kernel_rfl) (Bx.cell h57 rfl)) fun a110 hS110 => st_valW hS110 (want_on hS110 rfl rfl rfl hb103) rfl rfl (r_fieldB (off := 3) hS110 rfl rfl (by kernel_rfl)) fun a111 hS111 => st_valW hS111 (want_on hS111 rfl rfl rfl hb103) rfl rfl (r_load1 (n := 1) hS111 rfl rfl (by kernel_rfl) (Bx.cell h91 rfl)) fun a112 hS112 => st_valW hS112 (want_on hS112 rfl rfl rfl hb103) rfl rfl (r_bin hS112 rfl rfl rfl b_lss) fun a113 hS113 => st_val hS113 rfl rfl rfl (r_pickT hS113 rfl rfl rfl hb103) fun a114 hS114 => hk _ (hS114.re ⟨rfl, rfl, rfl, rfl, rfl, rfl, rfl, rfl, rfl, rfl, rfl, (by rw [hb103]; rfl), trivial⟩)
                        · refine st_off hS102 (want_off hS102 rfl rfl rfl hb103) rfl rfl fun a115 hS115 => st_off hS115 (want_off hS115 rfl rfl rfl hb103) rfl rfl fun a116 hS116 => st_off hS116 (want_off hS116 rfl rfl rfl hb103) rfl rfl fun a117 hS117 => st_off hS117 (want_off hS117 rfl rfl rfl hb103) rfl rfl fun a118 hS118 => st_off hS118 (want_off hS118 rfl rfl rfl hb103) rfl rfl fun a119 hS119 => st_val hS119 rfl rfl rfl (r_pickF hS119 rfl rfl rfl hb103) fun a120 hS120 => hk _ (hS120.re ⟨rfl, rfl, rfl, rfl, rfl, rfl, rfl, rfl, rfl, rfl, rfl, (by rw [hb103]; rfl), trivial⟩)
                      intro a121 hS121
                      refine st_val hS121 rfl rfl rfl (r_move hS121 rfl rfl) fun a122 hS122 => ?_
                      refine g_join (N := 95) 6 [(1, .slice A1 p1.length cap1), (4, .slice A4 p4.length cap4), (12, .slice A29 (upd m0_0 x52.Device x52).length cap30), (14, .pointer (some ⟨b56, 0, none⟩)), (34, .slice A4 p4.length cap4), (35, .int .i64 (p4.length : Int)), (36, .int .i64 m0_1), (48, .slice (slA A4 cap4 (0 : Int).toNat 4) y75.length (cap4 - (0 : Int).toNat)), (49, .int .i64 (y75.length : Int)), (50, .int .i64 m1_0), (72, .bool (((x52.Worker == x86.Worker) && (decide (x52.Start < x86.End))) && (decide (x86.Start < x52.End))))] ?_ (fun hk => ?_)
                      rotate_left
                      · rcases Bool.eq_false_or_eq_true (((x52.Worker == x86.Worker) && (decide (x52.Start < x86.End)))) with hb123 | hb123
                        · refine st_valW hS122 (want_on hS122 rfl rfl rfl hb123) rfl rfl (r_fieldB (off := 2) hS122 rfl rfl (by kernel_rfl)) fun a129 hS129 => st_valW hS129 (want_on hS129 rfl rfl rfl hb123) rfl rfl (r_load1 (n := 1) hS129 rfl rfl (by kernel_rfl) (Bx.cell h91 rfl)) fun a130 hS130 => st_valW hS130 (want_on hS130 rfl rfl rfl hb123) rfl rfl (r_fieldB (off := 3) hS130 rfl rfl (by kernel_rfl)) fun a131 hS131 => st_valW hS131 (want_on hS131 rfl rfl rfl hb123) rfl rfl (r_load1 (n := 1) hS131 rfl rfl (by kernel_rfl) (Bx.cell h57 rfl)) fun a132 hS132 => st_valW hS132 (want_on hS132 rfl rfl rfl hb123) rfl rfl (r_bin hS132 rfl rfl rfl b_lss) fun a133 hS133 => st_val hS133 rfl rfl rfl (r_pickT hS133 rfl rfl rfl hb123) fun a134 hS134 => hk _ (hS134.re ⟨rfl, rfl, rfl, rfl, rfl, rfl, rfl, rfl, rfl, rfl, (by rw [hb123]; rfl), trivial⟩)
                        · refine st_off hS122 (want_off hS122 rfl rfl rfl hb123) rfl rfl fun a135 hS135 => st_off hS135 (want_off hS135 rfl rfl rfl hb123) rfl rfl fun a136 hS136 => st_off hS136 (want_off hS136 rfl rfl rfl hb123) rfl rfl fun a137 hS137 => st_off hS137 (want_off hS137 rfl rfl rfl hb123) rfl rfl fun a138 hS138 => st_off hS138 (want_off hS138 rfl rfl rfl hb123) rfl rfl fun a139 hS139 => st_val hS139 rfl rfl rfl (r_pickF hS139 rfl rfl rfl hb123) fun a140 hS140 => hk _ (hS140.re ⟨rfl, rfl, rfl, rfl, rfl, rfl, rfl, rfl, rfl, rfl, (by rw [hb123]; rfl), trivial⟩)
                      intro a141 hS141
                      refine wpList_nil (hK _ _ ?_)
                      replace hS : Sl 95 _ [(1, .slice A1 p1.length cap1), (4, .slice A4 p4.length cap4), (12, .slice A29 (upd m0_0 x52.Device x52).length cap30), (14, .pointer (some ⟨b56, 0, none⟩)), (34, .slice A4 p4.length cap4), (35, .int .i64 (p4.length : Int)), (36, .int .i64 m0_1), (48, .slice (slA A4 cap4 (0 : Int).toNat 4) y75.length (cap4 - (0 : Int).toNat)), (49, .int .i64 (y75.length : Int)), (50, .int .i64 m1_0), (72, .bool (((x52.Worker == x86.Worker) && (decide (x52.Start < x86.End))) && (decide (x86.Start < x52.End))))] := hS141.re ⟨rfl, rfl, rfl, rfl, rfl, rfl, rfl, rfl, rfl, rfl, rfl, trivial⟩
                      clear hK K
                      try clear hS97 hS98 hS99 hS100 hS101 hS102 hS121 hS122 hS141
                      obtain ⟨a, ha⟩ : ∃ a', a' = a141 := ⟨_, rfl⟩
                      rw [← ha] at hS ⊢; clear ha
                      refine c_cond hS rfl (fun hb142 => ?_) (fun hb142 => ?_)
                      · replace H := ite_t hb142 H
                        refine c_pure [(10, .int .i64 17)] (fun R hR => st_val hS rfl rfl rfl (r_assign hS rfl rfl) fun a143 hS143 => wpList_nil (hR _ (hS143.re ⟨rfl, trivial⟩))) ?_
                        clear hS
                        clear a
                        intro a hS
                        refine wp_ret ?_
                        have e := Option.some.inj H
                        subst e
                        replace H := Fl.go_out Hl50
                        have e := Option.some.inj H
                        subst e
                        replace H := Fl.go_out Hl39
                        have e := Option.some.inj H
                        subst e
                        repeat (with_reducible first | refine then_ret ?_ | refine inBlock_ret ?_)
                        exact c_ret1 hS Try.results25 rfl ⟨_, rfl, g96, rfl, hF⟩
                      · replace H := ite_f hb142 H
                        refine wp_skip ?_
                        change Code.wp _ _ _ _ _
                        refine c_pure1 [(1, .slice A1 p1.length cap1), (4, .slice A4 p4.length cap4), (12, .slice A29 (upd m0_0 x52.Device x52).length cap30), (14, .pointer (some ⟨b56, 0, none⟩)), (34, .slice A4 p4.length cap4), (35, .int .i64 (p4.length : Int)), (36, .int .i64 m0_1), (48, .slice (slA A4 cap4 (0 : Int).toNat 4) y75.length (cap4 - (0 : Int).toNat)), (49, .int .i64 (y75.length : Int)), (50, .int .i64 (wi (m1_0 + 1)))] (fun R hR => st_val hS rfl rfl rfl (r_bin hS rfl rfl rfl b_add) fun a144 hS144 => st_val hS144 rfl rfl rfl (r_move hS144 rfl rfl) fun a145 hS145 => wpList_nil (hR _ (hS145.re ⟨rfl, rfl, rfl, rfl, rfl, rfl, rfl, rfl, rfl, rfl, trivial⟩))) ?_
                        clear hS
                        clear a
                        intro a hS
                        refine ⟨k83, Nat.lt_succ_self _, ?_⟩
                        exact ⟨wi (m1_0 + 1), g96, H, hS.re ⟨rfl, rfl, rfl, rfl, rfl, rfl, rfl, rfl, rfl, rfl, trivial⟩, h31, h57, h77, hp1, hp4, hF⟩
                    · replace H := ite_f hb85 H
                      refine wp_exit ?_
                      have e := Option.some.inj H
                      exact ⟨(upd m0_0 x52.Device x52), g82, e.symm, hS.re ⟨rfl, rfl, rfl, rfl, rfl, rfl, trivial⟩, h31, hp1, hp4, hF⟩
              · clear H
                clear hp1 hp4 h31 hF
                clear hS
                rintro a w47 ⟨v48, g47, hpre0, hS, h31, hp1, hp4, hF⟩
                subst hpre0
                have H := Fl.go_nxt Hl50
                clear Hl50
                refine c_pure1 [(1, .slice A1 p1.length cap1), (4, .slice A4 p4.length cap4), (12, .slice A29 v48.length cap30), (34, .slice A4 p4.length cap4), (35, .int .i64 (p4.length : Int)), (36, .int .i64 (wi (m0_1 + 1)))] (fun R hR => st_val hS rfl rfl rfl (r_bin hS rfl rfl rfl b_add) fun a146 hS146 => st_val hS146 rfl rfl rfl (r_move hS146 rfl rfl) fun a147 hS147 => wpList_nil (hR _ (hS147.re ⟨rfl, rfl, rfl, rfl, rfl, rfl, trivial⟩))) ?_
                clear hS
                clear a
                intro a hS
                refine ⟨k44, Nat.lt_succ_self _, ?_⟩
                exact ⟨v48, wi (m0_1 + 1), g47, H, hS.re ⟨rfl, rfl, rfl, rfl, rfl, rfl, trivial⟩, h31, hp1, hp4, hF⟩
            · replace H := ite_f hb46 H
              refine wp_exit ?_
              have e := Option.some.inj H
              exact ⟨m0_0, g43, e.symm, hS.re ⟨rfl, rfl, trivial⟩, h31, hp1, hF⟩
      · clear H
        clear hp1 hp4 h31 hF
        clear hS
        rintro a w36 ⟨v37, g36, hpre0, hS, h31, hp1, hF⟩
        subst hpre0
        have H := Fl.go_nxt Hl39
        clear Hl39
        obtain ⟨o150, H, Hl151⟩ := bind_el H
        refine c_cut (fun a w148 => ∃ (g148 : Nat → Nat), o150 = .nxt () ∧ Sl 95 a [] ∧ Fr (fun q => N ≤ q) w g w148 g148) ?_ ?_
        · refine c_pure [(12, .slice A29 v37.length cap30), (75, .slice A1 p1.length cap1), (76, .int .i64 (p1.length : Int)), (77, .int .i64 0)] (fun R hR => st_val hS rfl rfl rfl (r_move hS rfl rfl) fun a152 hS152 => st_val hS152 rfl rfl rfl (r_len (e := 43) (sz := 2) (by_ := 16) hS152 rfl rfl (by kernel_rfl)) fun a153 hS153 => st_val hS153 rfl rfl rfl (r_move hS153 rfl rfl) fun a154 hS154 => wpList_nil (hR _ (hS154.re ⟨rfl, rfl, rfl, rfl, trivial⟩))) ?_
          clear hS
          clear a
          intro a hS
          refine wp_block ?_
          refine wp_loop_ghost (fun kq => fun a w155 => ∃ (m2_0 : Int), ∃ (g155 : Nat → Nat), resume_Verify.l2 p1 v37 kq m2_0 = some o150 ∧ Sl 95 a [(12, .slice A29 v37.length cap30), (75, .slice A1 p1.length cap1), (76, .int .i64 (p1.length : Int)), (77, .int .i64 m2_0)] ∧ OwS kd_api_Slot 38 w155 g155 (N + 0) A29 cap30 v37 ∧ RdS kd_api_Link w155 g155 C1 A1 cap1 p1 ∧ Fr (fun q => N ≤ q) w g w155 g155) FUEL ?_ ?_
          · exact ⟨0, g36, H, hS.re ⟨rfl, rfl, rfl, rfl, trivial⟩, h31, hp1, hF⟩
          · clear H
            clear hp1 h31 hF
            clear hS
            rintro k156 a w155 ⟨m2_0, g155, hpre0, hS, h31, hp1, hF⟩
            have H := hpre0
            clear hpre0
            cases k156 with
            | zero => exact absurd H (by simp [resume_Verify.l2])
            | succ k156 =>
              rw [resume_Verify.l2] at H
              refine c_pure [(12, .slice A29 v37.length cap30), (75, .slice A1 p1.length cap1), (76, .int .i64 (p1.length : Int)), (77, .int .i64 m2_0), (78, .bool (decide (m2_0 < (p1.length : Int))))] (fun R hR => st_val hS rfl rfl rfl (r_bin hS rfl rfl rfl b_lss) fun a157 hS157 => wpList_nil (hR _ (hS157.re ⟨rfl, rfl, rfl, rfl, rfl, trivial⟩))) ?_
              clear hS
              clear a
              intro a hS
              refine c_if hS rfl (fun hb158 => ?_) (fun hb158 => ?_)
              · replace H := ite_t hb158 H
                refine wp_skip ?_
                change Code.wp _ _ _ _ _
                refine wp_seq ?_
                refine wp_block ?_
                obtain ⟨x159, hx160, H⟩ := bind_el H
                refine c_region (fun K hK => ?_)
                refine st_val hS rfl rfl rfl (r_index (e := 43) (sz := 2) (by_ := 16) hS rfl rfl rfl (by kernel_rfl) (RdS.some_ hp1 hx160) (idx_lo hx160) (idx_hi hx160)) fun a161 hS161 => st_val hS161 rfl rfl rfl (r_loadN (n := 2) (cs := [.int .i64 x159.Consumer, .int .i64 x159.Supplier]) hS161 rfl rfl (by kernel_rfl) rfl (RdS.cells_off hp1 hx160 0 2)) fun a162 hS162 => ?_
                refine st_eff hS162 rfl rfl rfl (e_alloc (cs := [.int .i64 0, .int .i64 0]) (N + 6) g155 hS162 rfl (by kernel_rfl)) ?_
                rintro _ a166 w167 g167 ⟨⟨b163, rfl, h164⟩, F167⟩ hS166
                replace h31 := OwS.fr h31 F167 (fun _ _ h => h)
                replace hp1 := RdS.fr hp1 F167 (by decide) (fun _ _ h => h)
                replace hF := hF.trans F167 (fun _ h => h.elim)
                refine st_effS hS166 rfl rfl (e_storeB (n := 2) (bb := true) (cs' := [.int .i64 x159.Consumer, .int .i64 x159.Supplier]) g167 hS166 rfl rfl rfl (by kernel_rfl) rfl rfl rfl h164 rfl rfl) ?_
                rintro a168 w169 g169 ⟨h164, F169⟩ hS168
                replace h31 := OwS.fr h31 F169 (fun c' hc (hm : c' = N + 6) => by omega)
                replace hp1 := RdS.fr hp1 F169 (by decide) (fun q (hq : C1 q) (hm : q = N + 6) => by have := hC1 q hq; omega)
                replace hF := hF.trans F169 (fun c' (hm : c' = N + 6) => by show N ≤ c'; omega)
                refine wpList_nil (hK _ _ ?_)
                replace hS : Sl 95 _ [(12, .slice A29 v37.length cap30), (18, .pointer (some ⟨b163, 0, none⟩)), (75, .slice A1 p1.length cap1), (76, .int .i64 (p1.length : Int)), (77, .int .i64 m2_0)] := hS168.re ⟨rfl, rfl, rfl, rfl, rfl, trivial⟩
                clear hK K
                try clear hS161 hS162 hS166 hS168
                obtain ⟨a, ha⟩ : ∃ a', a' = a168 := ⟨_, rfl⟩
                rw [← ha] at hS ⊢; clear ha
                obtain ⟨x174, hx175, H⟩ := bind_el H
                obtain ⟨x182, hx183, H⟩ := bind_el H
                refine c_draw (fun K hK => d_start (fun q => False) g169 [] 13 #[false, false, false, false, false, false, false, false, false, false, false, false, false] (by kernel_rfl) rfl rfl (fun w170 hw170 => ?_))
                have F170 : Fr (fun _ => False) w169 g169 w170 g169 := by rw [hw170]; exact Fr.drew _ _ _
                replace h164 := h164.fr F170 (fun h => h)
                replace h31 := OwS.fr h31 F170 (fun _ _ h => h)
                replace hp1 := RdS.fr hp1 F170 (by decide) (fun _ _ h => h)
                replace hF := hF.trans F170 (fun _ h => h.elim)
                have hC : Fr (fun q => False) w170 g169 w170 g169 := Fr.refl _ _ _
                refine d_pure hS 0 #[true, false, false, false, false, false, false, false, false, false, false, false, false] rfl rfl rfl rfl (by kernel_rfl) (fun _ _ _ h => h) (fun _ => (r_move hS rfl rfl)) fun a171 hS171 => d_pure hS171 1 #[true, true, false, false, false, false, false, false, false, false, false, false, false] rfl rfl rfl rfl (by kernel_rfl) (fun _ _ _ h => h) (fun _ => (r_fieldB (off := 0) hS171 rfl rfl (by kernel_rfl))) fun a172 hS172 => d_take hS172 2 #[true, true, true, false, false, false, false, false, false, false, false, false, false] rfl rfl rfl rfl (by kernel_rfl) (fun _ _ _ h => h) ⟨_, hC⟩ (fun w' g' Fz => (r_load1 (n := 1) hS172 rfl rfl (by kernel_rfl) (Bx.cell (h164.fr Fz (fun h => h)) rfl))) fun a173 hS173 => d_pure hS173 3 #[true, true, true, true, false, false, false, false, false, false, false, false, false] rfl rfl rfl rfl (by kernel_rfl) (fun _ _ _ h => h) (fun _ => (r_index (e := 38) (sz := 4) (by_ := 32) hS173 rfl rfl rfl (by kernel_rfl) (RdS.some_ (OwS.rd h31) hx175) (idx_lo hx175) (idx_hi hx175))) fun a176 hS176 => d_pure hS176 4 #[true, true, true, true, true, false, false, false, false, false, false, false, false] rfl rfl rfl rfl (by kernel_rfl) (fun _ _ _ h => h) (fun _ => (r_fieldE (off := 2) hS176 rfl rfl (by kernel_rfl))) fun a177 hS177 => d_take hS177 5 #[true, true, true, true, true, true, false, false, false, false, false, false, false] rfl rfl rfl rfl (by kernel_rfl) (fun _ _ _ h => h) ⟨_, hC⟩ (fun w' g' Fz => (r_load1 (n := 1) hS177 rfl rfl (by kernel_rfl) (RdS.cell (i := x159.Consumer) (sz := 4) (j := 2) (OwS.rd (OwS.fr h31 Fz (fun _ _ h => h))) hx175 rfl))) fun a178 hS178 => d_pure hS178 6 #[true, true, true, true, true, true, true, false, false, false, false, false, false] rfl rfl rfl rfl (by kernel_rfl) (fun _ _ _ h => h) (fun _ => (r_move hS178 rfl rfl)) fun a179 hS179 => d_pure hS179 7 #[true, true, true, true, true, true, true, true, false, false, false, false, false] rfl rfl rfl rfl (by kernel_rfl) (fun _ _ _ h => h) (fun _ => (r_fieldB (off := 1) hS179 rfl rfl (by kernel_rfl))) fun a180 hS180 => d_take hS180 8 #[true, true, true, true, true, true, true, true, true, false, false, false, false] rfl rfl rfl rfl (by kernel_rfl) (fun _ _ _ h => h) ⟨_, hC⟩ (fun w' g' Fz => (r_load1 (n := 1) hS180 rfl rfl (by kernel_rfl) (Bx.cell (h164.fr Fz (fun h => h)) rfl))) fun a181 hS181 => d_pure hS181 9 #[true, true, true, true, true, true, true, true, true, true, false, false, false] rfl rfl rfl rfl (by kernel_rfl) (fun _ _ _ h => h) (fun _ => (r_index (e := 38) (sz := 4) (by_ := 32) hS181 rfl rfl rfl (by kernel_rfl) (RdS.some_ (OwS.rd h31) hx183) (idx_lo hx183) (idx_hi hx183))) fun a184 hS184 => d_pure hS184 10 #[true, true, true, true, true, true, true, true, true, true, true, false, false] rfl rfl rfl rfl (by kernel_rfl) (fun _ _ _ h => h) (fun _ => (r_fieldE (off := 3) hS184 rfl rfl (by kernel_rfl))) fun a185 hS185 => d_take hS185 11 #[true, true, true, true, true, true, true, true, true, true, true, true, false] rfl rfl rfl rfl (by kernel_rfl) (fun _ _ _ h => h) ⟨_, hC⟩ (fun w' g' Fz => (r_load1 (n := 1) hS185 rfl rfl (by kernel_rfl) (RdS.cell (i := x159.Supplier) (sz := 4) (j := 3) (OwS.rd (OwS.fr h31 Fz (fun _ _ h => h))) hx183 rfl))) fun a186 hS186 => d_pure hS186 12 #[true, true, true, true, true, true, true, true, true, true, true, true, true] rfl rfl rfl rfl (by kernel_rfl) (fun _ _ _ h => h) (fun _ => (r_bin hS186 rfl rfl rfl b_lss)) fun a187 hS187 => d_done (by kernel_rfl) (hK _ _ ?_)
                replace hS : Sl 95 _ [(12, .slice A29 v37.length cap30), (75, .slice A1 p1.length cap1), (76, .int .i64 (p1.length : Int)), (77, .int .i64 m2_0), (93, .bool (decide (x174.Start < x182.End)))] := hS187.re ⟨rfl, rfl, rfl, rfl, rfl, trivial⟩
                clear hK K hC
                try clear hS171 hS172 hS173 hS176 hS177 hS178 hS179 hS180 hS181 hS184 hS185 hS186 hS187
                obtain ⟨a, ha⟩ : ∃ a', a' = a187 := ⟨_, rfl⟩
                rw [← ha] at hS ⊢; clear ha
                refine c_cond hS rfl (fun hb188 => ?_) (fun hb188 => ?_)
                · replace H := ite_t hb188 H
                  refine c_pure [(10, .int .i64 9)] (fun R hR => st_val hS rfl rfl rfl (r_assign hS rfl rfl) fun a189 hS189 => wpList_nil (hR _ (hS189.re ⟨rfl, trivial⟩))) ?_
                  clear hS
                  clear a
                  intro a hS
                  refine wp_ret ?_
                  have e := Option.some.inj H
                  subst e
                  replace H := Fl.go_out Hl151
                  have e := Option.some.inj H
                  subst e
                  repeat (with_reducible first | refine then_ret ?_ | refine inBlock_ret ?_)
                  exact c_ret1 hS Try.results25 rfl ⟨_, rfl, g169, rfl, hF⟩
                · replace H := ite_f hb188 H
                  refine wp_skip ?_
                  change Code.wp _ _ _ _ _
                  refine c_pure1 [(12, .slice A29 v37.length cap30), (75, .slice A1 p1.length cap1), (76, .int .i64 (p1.length : Int)), (77, .int .i64 (wi (m2_0 + 1)))] (fun R hR => st_val hS rfl rfl rfl (r_bin hS rfl rfl rfl b_add) fun a190 hS190 => st_val hS190 rfl rfl rfl (r_move hS190 rfl rfl) fun a191 hS191 => wpList_nil (hR _ (hS191.re ⟨rfl, rfl, rfl, rfl, trivial⟩))) ?_
                  clear hS
                  clear a
                  intro a hS
                  refine ⟨k156, Nat.lt_succ_self _, ?_⟩
                  exact ⟨wi (m2_0 + 1), g169, H, hS.re ⟨rfl, rfl, rfl, rfl, trivial⟩, h31, hp1, hF⟩
              · replace H := ite_f hb158 H
                refine wp_exit ?_
                have e := Option.some.inj H
                exact ⟨g155, e.symm, hS.re trivial, hF⟩
        · clear H
          clear hp1 h31 hF
          clear hS
          rintro a w148 ⟨g148, hpre0, hS, hF⟩
          subst hpre0
          have H := Fl.go_nxt Hl151
          clear Hl151
          refine c_pure [(10, .int .i64 0)] (fun R hR => st_val hS rfl rfl rfl (r_assign hS rfl rfl) fun a192 hS192 => wpList_nil (hR _ (hS192.re ⟨rfl, trivial⟩))) ?_
          clear hS
          clear a
          intro a hS
          refine wp_ret ?_
          have e := Option.some.inj H
          subst e
          repeat (with_reducible first | refine then_ret ?_ | refine inBlock_ret ?_)
          exact c_ret1 hS Try.results25 rfl ⟨_, rfl, g148, rfl, hF⟩


end Go.Proofs.Ythmjgadmadlpkaa.Sim

namespace Go.Proofs.Ythmjgadmadlpkaa.Sim
open Go
set_option linter.unusedVariables false
set_option linter.unusedSimpArgs false

/-! ### law31_awake: function 14 -/
def law31_awake.f  : Option (Bool) := (resume_Schedule.f 3 [(api_Link.mk 2 0)] [3, 2, 4] 2).bind fun r17 => (resume_CriticalPath.f 3 [(api_Link.mk 2 0)] [3, 2, 4]).bind fun r32 => (if (((r17.2 == 0) && (r32.2 == 0)) && (r32.1 == 7)) = true then (resume_Makespan.f r17.1).bind fun r68 => some (r68 == 7) else some false).bind fun t73 => (if t73 = true then (help_Equal_api_Slot.f r17.1 [(api_Slot.mk 0 0 0 3), (api_Slot.mk 1 1 0 2), (api_Slot.mk 2 0 3 7)]).bind fun r101 => some r101 else some false).bind fun t105 => (if t105 = true then (resume_Verify.f 3 [(api_Link.mk 2 0)] [3, 2, 4] 1 r17.1).bind fun r137 => some (r137 == 1) else some false).bind fun t142 => some t142
set_option maxRecDepth 100000 in
set_option maxHeartbeats 4000000 in
theorem law31_awake.calls  {w : World} {g : Nat → Nat} {out : Bool} (N : Nat)  (H : law31_awake.f  = some out) :
    Calls Try.prog 14 #[] w (fun e w' => ∃ v, e = .returned v ∧ ∃ (g' : Nat → Nat), v = .bool out ∧ Fr (fun q => N ≤ q) w g w' g') := by
  unfold law31_awake.f at H
  refine calls_enter Try.func14 rfl Try.ntmps14 rfl (fun a hS => ?_)
  replace hS : Sl 52 a [] := hS
  have hF : Fr (fun q => N ≤ q) w g w g := Fr.refl _ _ _
  refine c_pure [] (fun R hR => st_val hS rfl rfl rfl (r_assign hS rfl rfl) fun a1 hS1 => wpList_nil (hR _ (hS1.re trivial))) ?_
  clear hS
  clear a
  intro a hS
  refine c_region (fun K hK => ?_)
  refine st_val hS rfl rfl rfl (r_build (parts := [(0, .int .i64 2), (1, .int .i64 0)]) (u := .agg #[.int .i64 2, .int .i64 0]) hS rfl rfl (fun _ => by kernel_rfl)) fun a2 hS2 => ?_
  refine st_eff hS2 rfl rfl rfl (e_lit (e := 43) (parts := [(0, .agg #[.int .i64 2, .int .i64 0])]) (cs := [.int .i64 2, .int .i64 0]) kd_api_Link [(api_Link.mk 2 0)] (N + 0) g hS2 rfl rfl (fun _ => by kernel_rfl) rfl (by decide) (Rows.cons (cs := [.int .i64 2, .int .i64 0]) rfl Rows.nil)) ?_
  rintro _ a6 w7 g7 ⟨⟨A3, rfl, h4⟩, F7⟩ hS6
  replace hF := hF.trans F7 (fun _ h => h.elim)
  refine st_eff hS6 rfl rfl rfl (e_lit (e := 33) (parts := [(0, .int .u64 3), (1, .int .u64 2), (2, .int .u64 4)]) (cs := [.int .u64 3, .int .u64 2, .int .u64 4]) (kint .u64) [3, 2, 4] (N + 2) g7 hS6 rfl rfl (fun _ => by kernel_rfl) rfl (by decide) (Rows.cons (cs := [.int .u64 3]) rfl (Rows.cons (cs := [.int .u64 2]) rfl (Rows.cons (cs := [.int .u64 4]) rfl Rows.nil)))) ?_
  rintro _ a11 w12 g12 ⟨⟨A8, rfl, h9⟩, F12⟩ hS11
  replace h4 := OwS.fr h4 F12 (fun _ _ h => h)
  replace hF := hF.trans F12 (fun _ h => h.elim)
  refine st_val hS11 rfl rfl rfl (r_assign hS11 rfl rfl) fun a13 hS13 => st_val hS13 rfl rfl rfl (r_assign hS13 rfl rfl) fun a14 hS14 => wpList_nil (hK _ _ ?_)
  replace hS : Sl 52 _ [(1, .slice A3 [(api_Link.mk 2 0)].length 1), (2, .slice A8 [3, 2, 4].length 3)] := hS14.re ⟨rfl, rfl, trivial⟩
  clear hK K
  try clear hS2 hS6 hS11 hS13 hS14
  obtain ⟨a, ha⟩ : ∃ a', a' = a14 := ⟨_, rfl⟩
  rw [← ha] at hS ⊢; clear ha
  obtain ⟨r17, hr18, H⟩ := bind_el H
  refine c_region (fun K hK => ?_)
  refine st_val hS rfl rfl rfl (r_move hS rfl rfl) fun a15 hS15 => st_val hS15 rfl rfl rfl (r_move hS15 rfl rfl) fun a16 hS16 => ?_
  refine st_enter hS16 rfl rfl rfl (r_call hS16 rfl rfl (by kernel_rfl)) (resume_Schedule.calls (C1 := (fun q => q = N + 0)) (C2 := (fun q => q = N + 2)) (p0 := 3) (p1 := [(api_Link.mk 2 0)]) (p2 := [3, 2, 4]) (p3 := 2) (g := g12) (N + 8) (N + 4) (OwD.rdf (fun _ _ _ _ _ _ h => h) h4) (fun q (hq : q = N + 0) => by omega) (OwD.rdf (fun _ _ _ _ _ _ h => h) h9) (fun q (hq : q = N + 2) => by omega) (by omega) hr18) ?_
  rintro _ a23 w24 ⟨g24, A19, cap20, rfl, h21, F24⟩ hS23
  replace h9 := OwS.fr h9 F24 (fun c' hc (hm : (N + 4 ≤ c' ∧ c' < N + 4 + 2) ∨ N + 8 ≤ c') => by omega)
  replace h4 := OwS.fr h4 F24 (fun c' hc (hm : (N + 4 ≤ c' ∧ c' < N + 4 + 2) ∨ N + 8 ≤ c') => by omega)
  replace hF := hF.trans F24 (fun c' (hm : (N + 4 ≤ c' ∧ c' < N + 4 + 2) ∨ N + 8 ≤ c') => by show N ≤ c'; omega)
  refine st_val hS23 rfl rfl rfl (r_move hS23 rfl rfl) fun a25 hS25 => st_val hS25 rfl rfl rfl (r_extract hS25 rfl rfl rfl) fun a26 hS26 => st_val hS26 rfl rfl rfl (r_extract hS26 rfl rfl rfl) fun a27 hS27 => st_val hS27 rfl rfl rfl (r_assign hS27 rfl rfl) fun a28 hS28 => st_val hS28 rfl rfl rfl (r_assign hS28 rfl rfl) fun a29 hS29 => wpList_nil (hK _ _ ?_)
  replace hS : Sl 52 _ [(1, .slice A3 [(api_Link.mk 2 0)].length 1), (2, .slice A8 [3, 2, 4].length 3), (3, .slice A19 r17.1.length cap20), (4, .int .i64 r17.2)] := hS29.re ⟨rfl, rfl, rfl, rfl, trivial⟩
  clear hK K
  try clear hS15 hS16 hS23 hS25 hS26 hS27 hS28 hS29
  obtain ⟨a, ha⟩ : ∃ a', a' = a29 := ⟨_, rfl⟩
  rw [← ha] at hS ⊢; clear ha
  obtain ⟨r32, hr33, H⟩ := bind_el H
  refine c_region (fun K hK => ?_)
  refine st_val hS rfl rfl rfl (r_move hS rfl rfl) fun a30 hS30 => st_val hS30 rfl rfl rfl (r_move hS30 rfl rfl) fun a31 hS31 => ?_
  refine st_enter hS31 rfl rfl rfl (r_call hS31 rfl rfl (by kernel_rfl)) (resume_CriticalPath.calls (C1 := (fun q => q = N + 0)) (C2 := (fun q => q = N + 2)) (p0 := 3) (p1 := [(api_Link.mk 2 0)]) (p2 := [3, 2, 4]) (g := g24) (N + 8)  (OwD.rdf (fun _ _ _ _ _ _ h => h) h4) (fun q (hq : q = N + 0) => by omega) (OwD.rdf (fun _ _ _ _ _ _ h => h) h9) (fun q (hq : q = N + 2) => by omega) hr33) ?_
  rintro _ a34 w35 ⟨g35, rfl, F35⟩ hS34
  replace h9 := OwS.fr h9 F35 (fun c' hc (hm : N + 8 ≤ c') => by omega)
  replace h21 := OwS.fr h21 F35 (fun c' hc (hm : N + 8 ≤ c') => by omega)
  replace h4 := OwS.fr h4 F35 (fun c' hc (hm : N + 8 ≤ c') => by omega)
  replace hF := hF.trans F35 (fun c' (hm : N + 8 ≤ c') => by show N ≤ c'; omega)
  refine st_val hS34 rfl rfl rfl (r_move hS34 rfl rfl) fun a36 hS36 => st_val hS36 rfl rfl rfl (r_extract hS36 rfl rfl rfl) fun a37 hS37 => st_val hS37 rfl rfl rfl (r_extract hS37 rfl rfl rfl) fun a38 hS38 => st_val hS38 rfl rfl rfl (r_assign hS38 rfl rfl) fun a39 hS39 => st_val hS39 rfl rfl rfl (r_assign hS39 rfl rfl) fun a40 hS40 => wpList_nil (hK _ _ ?_)
  replace hS : Sl 52 _ [(1, .slice A3 [(api_Link.mk 2 0)].length 1), (2, .slice A8 [3, 2, 4].length 3), (3, .slice A19 r17.1.length cap20), (4, .int .i64 r17.2), (5, .int .u64 r32.1), (6, .int .i64 r32.2)] := hS40.re ⟨rfl, rfl, rfl, rfl, rfl, rfl, trivial⟩
  clear hK K
  try clear hS30 hS31 hS34 hS36 hS37 hS38 hS39 hS40
  obtain ⟨a, ha⟩ : ∃ a', a' = a40 := ⟨_, rfl⟩
  rw [← ha] at hS ⊢; clear ha
  obtain ⟨t73, ht74, H⟩ := bind_el H
  obtain ⟨t105, ht106, H⟩ := bind_el H
  obtain ⟨t142, ht143, H⟩ := bind_el H
  refine c_region (fun K hK => ?_)
  refine st_val hS rfl rfl rfl (r_move hS rfl rfl) fun a41 hS41 => st_val hS41 rfl rfl rfl (r_bin hS41 rfl rfl rfl b_eql) fun a42 hS42 => st_val hS42 rfl rfl rfl (r_move hS42 rfl rfl) fun a43 hS43 => ?_
  refine g_join (N := 52) 3 [(1, .slice A3 [(api_Link.mk 2 0)].length 1), (2, .slice A8 [3, 2, 4].length 3), (3, .slice A19 r17.1.length cap20), (5, .int .u64 r32.1), (27, .bool ((r17.2 == 0) && (r32.2 == 0)))] ?_ (fun hk => ?_)
  rotate_left
  · rcases Bool.eq_false_or_eq_true ((r17.2 == 0)) with hb44 | hb44
    · refine st_valW hS43 (want_on hS43 rfl rfl rfl hb44) rfl rfl (r_move hS43 rfl rfl) fun a47 hS47 => st_valW hS47 (want_on hS47 rfl rfl rfl hb44) rfl rfl (r_bin hS47 rfl rfl rfl b_eql) fun a48 hS48 => st_val hS48 rfl rfl rfl (r_pickT hS48 rfl rfl rfl hb44) fun a49 hS49 => hk _ (hS49.re ⟨rfl, rfl, rfl, rfl, (by rw [hb44]; rfl), trivial⟩)
    · refine st_off hS43 (want_off hS43 rfl rfl rfl hb44) rfl rfl fun a50 hS50 => st_off hS50 (want_off hS50 rfl rfl rfl hb44) rfl rfl fun a51 hS51 => st_val hS51 rfl rfl rfl (r_pickF hS51 rfl rfl rfl hb44) fun a52 hS52 => hk _ (hS52.re ⟨rfl, rfl, rfl, rfl, (by rw [hb44]; rfl), trivial⟩)
  intro a53 hS53
  refine st_val hS53 rfl rfl rfl (r_move hS53 rfl rfl) fun a54 hS54 => ?_
  refine g_join (N := 52) 3 [(1, .slice A3 [(api_Link.mk 2 0)].length 1), (2, .slice A8 [3, 2, 4].length 3), (3, .slice A19 r17.1.length cap20), (31, .bool (((r17.2 == 0) && (r32.2 == 0)) && (r32.1 == 7)))] ?_ (fun hk => ?_)
  rotate_left
  · rcases Bool.eq_false_or_eq_true (((r17.2 == 0) && (r32.2 == 0))) with hb55 | hb55
    · refine st_valW hS54 (want_on hS54 rfl rfl rfl hb55) rfl rfl (r_move hS54 rfl rfl) fun a58 hS58 => st_valW hS58 (want_on hS58 rfl rfl rfl hb55) rfl rfl (r_bin hS58 rfl rfl rfl b_eql) fun a59 hS59 => st_val hS59 rfl rfl rfl (r_pickT hS59 rfl rfl rfl hb55) fun a60 hS60 => hk _ (hS60.re ⟨rfl, rfl, rfl, (by rw [hb55]; rfl), trivial⟩)
    · refine st_off hS54 (want_off hS54 rfl rfl rfl hb55) rfl rfl fun a61 hS61 => st_off hS61 (want_off hS61 rfl rfl rfl hb55) rfl rfl fun a62 hS62 => st_val hS62 rfl rfl rfl (r_pickF hS62 rfl rfl rfl hb55) fun a63 hS63 => hk _ (hS63.re ⟨rfl, rfl, rfl, (by rw [hb55]; rfl), trivial⟩)
  intro a64 hS64
  refine st_val hS64 rfl rfl rfl (r_move hS64 rfl rfl) fun a65 hS65 => ?_
  refine g_joinR 4 (fun a w75 => ∃ (g75 : Nat → Nat), Sl 52 a [(1, .slice A3 [(api_Link.mk 2 0)].length 1), (2, .slice A8 [3, 2, 4].length 3), (3, .slice A19 r17.1.length cap20), (36, .bool t73)] ∧ OwS (kint .u64) 33 w75 g75 (N + 2) A8 3 [3, 2, 4] ∧ OwS kd_api_Slot 38 w75 g75 (N + 4) A19 cap20 r17.1 ∧ OwS kd_api_Link 43 w75 g75 (N + 0) A3 1 [(api_Link.mk 2 0)] ∧ Fr (fun q => N ≤ q) w g w75 g75) ?_ (fun hk => ?_)
  rotate_left
  · rcases Bool.eq_false_or_eq_true ((((r17.2 == 0) && (r32.2 == 0)) && (r32.1 == 7))) with hb66 | hb66
    · have H := ite_t hb66 ht74
      obtain ⟨r77, hr78, H⟩ := bind_el H
      have e82 := Option.some.inj H
      refine st_valW hS65 (want_on hS65 rfl rfl rfl hb66) rfl rfl (r_move hS65 rfl rfl) fun a76 hS76 => ?_
      refine st_enterW hS76 (want_on hS76 rfl rfl rfl hb66) rfl rfl (r_call hS76 rfl rfl (by kernel_rfl)) (resume_Makespan.calls (C0 := (fun q => q = N + 4)) (p0 := r17.1) (g := g35) (N + 8)  (OwD.rdf (fun _ _ _ _ _ _ h => h) h21) (fun q (hq : q = N + 4) => by omega) hr78) ?_
      rintro _ a79 w80 ⟨g80, rfl, F80⟩ hS79
      replace h9 := OwS.fr h9 F80 (fun c' hc (hm : N + 8 ≤ c') => by omega)
      replace h21 := OwS.fr h21 F80 (fun c' hc (hm : N + 8 ≤ c') => by omega)
      replace h4 := OwS.fr h4 F80 (fun c' hc (hm : N + 8 ≤ c') => by omega)
      replace hF := hF.trans F80 (fun c' (hm : N + 8 ≤ c') => by show N ≤ c'; omega)
      refine st_valW hS79 (want_on hS79 rfl rfl rfl hb66) rfl rfl (r_bin hS79 rfl rfl rfl b_eql) fun a81 hS81 => ?_
      refine st_val hS81 rfl rfl rfl (r_pickT hS81 rfl rfl rfl hb66) fun a83 hS83 => hk _ _ ?_
      exact ⟨g80, hS83.re ⟨rfl, rfl, rfl, (by rw [← e82]; rfl), trivial⟩, h9, h21, h4, hF⟩
    · have H := ite_f hb66 ht74
      have e84 := Option.some.inj H
      refine st_off hS65 (want_off hS65 rfl rfl rfl hb66) rfl rfl fun a85 hS85 => st_off hS85 (want_off hS85 rfl rfl rfl hb66) rfl rfl fun a86 hS86 => st_off hS86 (want_off hS86 rfl rfl rfl hb66) rfl rfl fun a87 hS87 => st_val hS87 rfl rfl rfl (r_pickF hS87 rfl rfl rfl hb66) fun a88 hS88 => hk _ _ ?_
      exact ⟨g35, hS88.re ⟨rfl, rfl, rfl, (by rw [← e84]; rfl), trivial⟩, h9, h21, h4, hF⟩
  rintro a89 w75 ⟨g75, hS89, h9, h21, h4, hF⟩
  refine st_val hS89 rfl rfl rfl (r_move hS89 rfl rfl) fun a90 hS90 => ?_
  refine g_joinR 7 (fun a w107 => ∃ (g107 : Nat → Nat), Sl 52 a [(1, .slice A3 [(api_Link.mk 2 0)].length 1), (2, .slice A8 [3, 2, 4].length 3), (3, .slice A19 r17.1.length cap20), (44, .bool t105)] ∧ OwS (kint .u64) 33 w107 g107 (N + 2) A8 3 [3, 2, 4] ∧ OwS kd_api_Slot 38 w107 g107 (N + 4) A19 cap20 r17.1 ∧ OwS kd_api_Link 43 w107 g107 (N + 0) A3 1 [(api_Link.mk 2 0)] ∧ Fr (fun q => N ≤ q) w g w107 g107) ?_ (fun hk => ?_)
  rotate_left
  · rcases Bool.eq_false_or_eq_true (t73) with hb91 | hb91
    · have H := ite_t hb91 ht106
      obtain ⟨r117, hr118, H⟩ := bind_el H
      have e121 := Option.some.inj H
      refine st_valW hS90 (want_on hS90 rfl rfl rfl hb91) rfl rfl (r_move hS90 rfl rfl) fun a108 hS108 => st_valW hS108 (want_on hS108 rfl rfl rfl hb91) rfl rfl (r_build (parts := [(0, .int .i64 0), (1, .int .i64 0), (3, .int .u64 3)]) (u := .agg #[.int .i64 0, .int .i64 0, .int .u64 0, .int .u64 3]) hS108 rfl rfl (fun _ => by kernel_rfl)) fun a109 hS109 => st_valW hS109 (want_on hS109 rfl rfl rfl hb91) rfl rfl (r_build (parts := [(0, .int .i64 1), (1, .int .i64 1), (3, .int .u64 2)]) (u := .agg #[.int .i64 1, .int .i64 1, .int .u64 0, .int .u64 2]) hS109 rfl rfl (fun _ => by kernel_rfl)) fun a110 hS110 => st_valW hS110 (want_on hS110 rfl rfl rfl hb91) rfl rfl (r_build (parts := [(0, .int .i64 2), (1, .int .i64 0), (2, .int .u64 3), (3, .int .u64 7)]) (u := .agg #[.int .i64 2, .int .i64 0, .int .u64 3, .int .u64 7]) hS110 rfl rfl (fun _ => by kernel_rfl)) fun a111 hS111 => ?_
      refine st_effW hS111 (want_on hS111 rfl rfl rfl hb91) rfl rfl (e_lit (e := 38) (parts := [(0, .agg #[.int .i64 0, .int .i64 0, .int .u64 0, .int .u64 3]), (1, .agg #[.int .i64 1, .int .i64 1, .int .u64 0, .int .u64 2]), (2, .agg #[.int .i64 2, .int .i64 0, .int .u64 3, .int .u64 7])]) (cs := [.int .i64 0, .int .i64 0, .int .u64 0, .int .u64 3, .int .i64 1, .int .i64 1, .int .u64 0, .int .u64 2, .int .i64 2, .int .i64 0, .int .u64 3, .int .u64 7]) kd_api_Slot [(api_Slot.mk 0 0 0 3), (api_Slot.mk 1 1 0 2), (api_Slot.mk 2 0 3 7)] (N + 6) g75 hS111 rfl rfl (fun _ => by kernel_rfl) rfl (by decide) (Rows.cons (cs := [.int .i64 0, .int .i64 0, .int .u64 0, .int .u64 3]) rfl (Rows.cons (cs := [.int .i64 1, .int .i64 1, .int .u64 0, .int .u64 2]) rfl (Rows.cons (cs := [.int .i64 2, .int .i64 0, .int .u64 3, .int .u64 7]) rfl Rows.nil)))) ?_
      rintro _ a115 w116 g116 ⟨⟨A112, rfl, h113⟩, F116⟩ hS115
      replace h9 := OwS.fr h9 F116 (fun _ _ h => h)
      replace h21 := OwS.fr h21 F116 (fun _ _ h => h)
      replace h4 := OwS.fr h4 F116 (fun _ _ h => h)
      replace hF := hF.trans F116 (fun _ h => h.elim)
      refine st_enterW hS115 (want_on hS115 rfl rfl rfl hb91) rfl rfl (r_call hS115 rfl rfl (by kernel_rfl)) (help_Equal_api_Slot.calls (C0 := (fun q => q = N + 4)) (C1 := (fun q => q = N + 6)) (p0 := r17.1) (p1 := [(api_Slot.mk 0 0 0 3), (api_Slot.mk 1 1 0 2), (api_Slot.mk 2 0 3 7)]) (g := g116) (N + 8)  (OwD.rdf (fun _ _ _ _ _ _ h => h) h21) (fun q (hq : q = N + 4) => by omega) (OwD.rdf (fun _ _ _ _ _ _ h => h) h113) (fun q (hq : q = N + 6) => by omega) hr118) ?_
      rintro _ a119 w120 ⟨g120, rfl, F120⟩ hS119
      replace h9 := OwS.fr h9 F120 (fun c' hc (hm : N + 8 ≤ c') => by omega)
      replace h113 := OwS.fr h113 F120 (fun c' hc (hm : N + 8 ≤ c') => by omega)
      replace h21 := OwS.fr h21 F120 (fun c' hc (hm : N + 8 ≤ c') => by omega)
      replace h4 := OwS.fr h4 F120 (fun c' hc (hm : N + 8 ≤ c') => by omega)
      replace hF := hF.trans F120 (fun c' (hm : N + 8 ≤ c') => by show N ≤ c'; omega)
      refine st_val hS119 rfl rfl rfl (r_pickT hS119 rfl rfl rfl hb91) fun a122 hS122 => hk _ _ ?_
      exact ⟨g120, hS122.re ⟨rfl, rfl, rfl, (by rw [← e121]; rfl), trivial⟩, h9, h21, h4, hF⟩
    · have H := ite_f hb91 ht106
      have e123 := Option.some.inj H
      refine st_off hS90 (want_off hS90 rfl rfl rfl hb91) rfl rfl fun a124 hS124 => st_off hS124 (want_off hS124 rfl rfl rfl hb91) rfl rfl fun a125 hS125 => st_off hS125 (want_off hS125 rfl rfl rfl hb91) rfl rfl fun a126 hS126 => st_off hS126 (want_off hS126 rfl rfl rfl hb91) rfl rfl fun a127 hS127 => st_off hS127 (want_off hS127 rfl rfl rfl hb91) rfl rfl fun a128 hS128 => st_off hS128 (want_off hS128 rfl rfl rfl hb91) rfl rfl fun a129 hS129 => st_val hS129 rfl rfl rfl (r_pickF hS129 rfl rfl rfl hb91) fun a130 hS130 => hk _ _ ?_
      exact ⟨g75, hS130.re ⟨rfl, rfl, rfl, (by rw [← e123]; rfl), trivial⟩, h9, h21, h4, hF⟩
  rintro a131 w107 ⟨g107, hS131, h9, h21, h4, hF⟩
  refine st_val hS131 rfl rfl rfl (r_move hS131 rfl rfl) fun a132 hS132 => ?_
  refine g_joinR 6 (fun a w144 => ∃ (g144 : Nat → Nat), Sl 52 a [(51, .bool t142)] ∧ Fr (fun q => N ≤ q) w g w144 g144) ?_ (fun hk => ?_)
  rotate_left
  · rcases Bool.eq_false_or_eq_true (t105) with hb133 | hb133
    · have H := ite_t hb133 ht143
      obtain ⟨r148, hr149, H⟩ := bind_el H
      have e153 := Option.some.inj H
      refine st_valW hS132 (want_on hS132 rfl rfl rfl hb133) rfl rfl (r_move hS132 rfl rfl) fun a145 hS145 => st_valW hS145 (want_on hS145 rfl rfl rfl hb133) rfl rfl (r_move hS145 rfl rfl) fun a146 hS146 => st_valW hS146 (want_on hS146 rfl rfl rfl hb133) rfl rfl (r_move hS146 rfl rfl) fun a147 hS147 => ?_
      refine st_enterW hS147 (want_on hS147 rfl rfl rfl hb133) rfl rfl (r_call hS147 rfl rfl (by kernel_rfl)) (resume_Verify.calls (C1 := (fun q => q = N + 0)) (C2 := (fun q => q = N + 2)) (C4 := (fun q => q = N + 4)) (p0 := 3) (p1 := [(api_Link.mk 2 0)]) (p2 := [3, 2, 4]) (p3 := 1) (p4 := r17.1) (g := g107) (N + 8)  (OwD.rdf (fun _ _ _ _ _ _ h => h) h4) (fun q (hq : q = N + 0) => by omega) (OwD.rdf (fun _ _ _ _ _ _ h => h) h9) (fun q (hq : q = N + 2) => by omega) (OwD.rdf (fun _ _ _ _ _ _ h => h) h21) (fun q (hq : q = N + 4) => by omega) hr149) ?_
      rintro _ a150 w151 ⟨g151, rfl, F151⟩ hS150
      replace h9 := OwS.fr h9 F151 (fun c' hc (hm : N + 8 ≤ c') => by omega)
      replace h21 := OwS.fr h21 F151 (fun c' hc (hm : N + 8 ≤ c') => by omega)
      replace h4 := OwS.fr h4 F151 (fun c' hc (hm : N + 8 ≤ c') => by omega)
      replace hF := hF.trans F151 (fun c' (hm : N + 8 ≤ c') => by show N ≤ c'; omega)
      refine st_valW hS150 (want_on hS150 rfl rfl rfl hb133) rfl rfl (r_bin hS150 rfl rfl rfl b_eql) fun a152 hS152 => ?_
      refine st_val hS152 rfl rfl rfl (r_pickT hS152 rfl rfl rfl hb133) fun a154 hS154 => hk _ _ ?_
      exact ⟨g151, hS154.re ⟨(by rw [← e153]; rfl), trivial⟩, hF⟩
    · have H := ite_f hb133 ht143
      have e155 := Option.some.inj H
      refine st_off hS132 (want_off hS132 rfl rfl rfl hb133) rfl rfl fun a156 hS156 => st_off hS156 (want_off hS156 rfl rfl rfl hb133) rfl rfl fun a157 hS157 => st_off hS157 (want_off hS157 rfl rfl rfl hb133) rfl rfl fun a158 hS158 => st_off hS158 (want_off hS158 rfl rfl rfl hb133) rfl rfl fun a159 hS159 => st_off hS159 (want_off hS159 rfl rfl rfl hb133) rfl rfl fun a160 hS160 => st_val hS160 rfl rfl rfl (r_pickF hS160 rfl rfl rfl hb133) fun a161 hS161 => hk _ _ ?_
      exact ⟨g107, hS161.re ⟨(by rw [← e155]; rfl), trivial⟩, hF⟩
  rintro a162 w144 ⟨g144, hS162, hF⟩
  refine st_val hS162 rfl rfl rfl (r_assign hS162 rfl rfl) fun a163 hS163 => wpList_nil (hK _ _ ?_)
  replace hS : Sl 52 _ [(0, .bool t142)] := hS163.re ⟨rfl, trivial⟩
  clear hK K
  try clear hS41 hS42 hS43 hS53 hS54 hS64 hS65 hS89 hS90 hS131 hS132 hS162 hS163
  obtain ⟨a, ha⟩ : ∃ a', a' = a163 := ⟨_, rfl⟩
  rw [← ha] at hS ⊢; clear ha
  refine wp_ret ?_
  have e := Option.some.inj H
  subst e
  repeat (with_reducible first | refine then_ret ?_ | refine inBlock_ret ?_)
  exact c_ret1 hS Try.results14 rfl ⟨_, rfl, g144, rfl, hF⟩


end Go.Proofs.Ythmjgadmadlpkaa.Sim

namespace Go.Proofs.Ythmjgadmadlpkaa.Sim
open Go
set_option linter.unusedVariables false
set_option linter.unusedSimpArgs false

/-! ### law31_durations: function 17 -/
def law31_durations.l0 (p0 : Int) (p1 : List Int) : Nat → (List Int) → Int → Option ((List Int))
  | 0, _, _ => none
  | k18 + 1, m0_0, m0_1 => if decide (m0_1 < p0) = true then (((idx m0_0 m0_1).bind fun x32 => if decide (m0_1 < (p1.length : Int)) = true then ((idx p1 m0_1).bind fun x46 => (idx (upd m0_0 m0_1 (wu ((Int.tmod m0_1 3)))) m0_1).bind fun x51 => some (upd (upd m0_0 m0_1 (wu ((Int.tmod m0_1 3)))) m0_1 (Int.tmod x46 12))) else (some (upd m0_0 m0_1 (wu ((Int.tmod m0_1 3))))) : Option ((List Int))).bind fun v24 => law31_durations.l0 p0 p1 k18 v24 (wi (m0_1 + 1))) else (some m0_0)
def law31_durations.f (p0 : Int) (p1 : List Int) : Option ((List Int)) := (mk p0 0).bind fun y3 => (law31_durations.l0 p0 p1 FUEL y3 0 : Option ((List Int))).bind fun v13 => some v13
set_option maxRecDepth 100000 in
set_option maxHeartbeats 4000000 in
theorem law31_durations.calls {p0 : Int} {p1 : List Int} {A1 : Option Addr} {cap1 : Nat} {C1 : Nat → Prop} {w : World} {g : Nat → Nat} {out : (List Int)} (N : Nat) (r0 : Nat) (hp1 : RdS (kint .u64) w g C1 A1 cap1 p1) (hC1 : ∀ c, C1 c → c < N) (hr0 : r0 + 2 ≤ N) (H : law31_durations.f p0 p1 = some out) :
    Calls Try.prog 17 #[.int .i64 p0, .slice A1 p1.length cap1] w (fun e w' => ∃ v, e = .returned v ∧ ∃ (g' : Nat → Nat) (A_r0 : Option Addr) (cap_r0 : Nat), v = .slice A_r0 out.length cap_r0 ∧ OwS (kint .u64) 33 w' g' r0 A_r0 cap_r0 out ∧ Fr (fun q => (r0 ≤ q ∧ q < r0 + 2) ∨ N ≤ q) w g w' g') := by
  unfold law31_durations.f at H
  refine calls_enter Try.func17 rfl Try.ntmps17 rfl (fun a hS => ?_)
  replace hS : Sl 33 a [(0, .int .i64 p0), (1, .slice A1 p1.length cap1)] := hS
  have hF : Fr (fun q => (r0 ≤ q ∧ q < r0 + 2) ∨ N ≤ q) w g w g := Fr.refl _ _ _
  refine c_pure [(0, .int .i64 p0), (1, .slice A1 p1.length cap1)] (fun R hR => st_val hS rfl rfl rfl (r_assign hS rfl rfl) fun a1 hS1 => wpList_nil (hR _ (hS1.re ⟨rfl, rfl, trivial⟩))) ?_
  clear hS
  clear a
  intro a hS
  obtain ⟨y3, hy4, H⟩ := bind_el H
  refine c_region (fun K hK => ?_)
  refine st_val hS rfl rfl rfl (r_move hS rfl rfl) fun a2 hS2 => ?_
  refine st_eff hS2 rfl rfl rfl (e_make (e := 33) (sz := 1) (by_ := 8) (z := [.int .u64 0]) (kd := (kint .u64)) (N + 0) g hS2 rfl rfl (by kernel_rfl) (by kernel_rfl) rfl rfl rfl (fun _ _ _ => by exact rfl) hy4) ?_
  rintro _ a9 w10 g10 ⟨⟨A5, cap6, rfl, h7⟩, F10⟩ hS9
  replace hp1 := RdS.fr hp1 F10 (by decide) (fun _ _ h => h)
  replace hF := hF.trans F10 (fun _ h => h.elim)
  refine st_val hS9 rfl rfl rfl (r_assign hS9 rfl rfl) fun a11 hS11 => wpList_nil (hK _ _ ?_)
  replace hS : Sl 33 _ [(0, .int .i64 p0), (1, .slice A1 p1.length cap1), (5, .slice A5 y3.length cap6)] := hS11.re ⟨rfl, rfl, rfl, trivial⟩
  clear hK K
  try clear hS2 hS9 hS11
  obtain ⟨a, ha⟩ : ∃ a', a' = a11 := ⟨_, rfl⟩
  rw [← ha] at hS ⊢; clear ha
  obtain ⟨v13, H, Hl15⟩ := bind_el H
  refine c_cut (fun a w12 => ∃ (g12 : Nat → Nat), Sl 33 a [(5, .slice A5 v13.length cap6)] ∧ OwS (kint .u64) 33 w12 g12 (N + 0) A5 cap6 v13 ∧ Fr (fun q => (r0 ≤ q ∧ q < r0 + 2) ∨ N ≤ q) w g w12 g12) ?_ ?_
  · refine c_pure [(0, .int .i64 p0), (1, .slice A1 p1.length cap1), (5, .slice A5 y3.length cap6), (6, .int .i64 0)] (fun R hR => st_val hS rfl rfl rfl (r_assign hS rfl rfl) fun a16 hS16 => wpList_nil (hR _ (hS16.re ⟨rfl, rfl, rfl, rfl, trivial⟩))) ?_
    clear hS
    clear a
    intro a hS
    refine wp_block ?_
    refine wp_loop_ghost (fun kq => fun a w17 => ∃ (m0_0 : List Int), ∃ (m0_1 : Int), ∃ (g17 : Nat → Nat), law31_durations.l0 p0 p1 kq m0_0 m0_1 = some v13 ∧ Sl 33 a [(0, .int .i64 p0), (1, .slice A1 p1.length cap1), (5, .slice A5 m0_0.length cap6), (6, .int .i64 m0_1)] ∧ OwS (kint .u64) 33 w17 g17 (N + 0) A5 cap6 m0_0 ∧ RdS (kint .u64) w17 g17 C1 A1 cap1 p1 ∧ Fr (fun q => (r0 ≤ q ∧ q < r0 + 2) ∨ N ≤ q) w g w17 g17) FUEL ?_ ?_
    · exact ⟨y3, 0, g10, H, hS.re ⟨rfl, rfl, rfl, rfl, trivial⟩, h7, hp1, hF⟩
    · clear H
      clear hp1 h7 hF
      clear hS
      rintro k18 a w17 ⟨m0_0, m0_1, g17, hpre0, hS, h7, hp1, hF⟩
      have H := hpre0
      clear hpre0
      cases k18 with
      | zero => exact absurd H (by simp [law31_durations.l0])
      | succ k18 =>
        rw [law31_durations.l0] at H
        refine wp_seq ?_
        refine c_pure [(0, .int .i64 p0), (1, .slice A1 p1.length cap1), (5, .slice A5 m0_0.length cap6), (6, .int .i64 m0_1), (11, .bool (decide (m0_1 < p0)))] (fun R hR => st_val hS rfl rfl rfl (r_move hS rfl rfl) fun a19 hS19 => st_val hS19 rfl rfl rfl (r_move hS19 rfl rfl) fun a20 hS20 => st_val hS20 rfl rfl rfl (r_bin hS20 rfl rfl rfl b_lss) fun a21 hS21 => wpList_nil (hR _ (hS21.re ⟨rfl, rfl, rfl, rfl, rfl, trivial⟩))) ?_
        clear hS
        clear a
        intro a hS
        refine c_cond hS rfl (fun hb22 => ?_) (fun hb22 => ?_)
        · replace H := ite_t hb22 H
          refine wp_skip ?_
          change Code.wp _ _ _ _ _
          obtain ⟨v24, H, Hl26⟩ := bind_el H
          refine c_cut (fun a w23 => ∃ (g23 : Nat → Nat), Sl 33 a [(0, .int .i64 p0), (1, .slice A1 p1.length cap1), (5, .slice A5 v24.length cap6), (6, .int .i64 m0_1)] ∧ OwS (kint .u64) 33 w23 g23 (N + 0) A5 cap6 v24 ∧ RdS (kint .u64) w23 g23 C1 A1 cap1 p1 ∧ Fr (fun q => (r0 ≤ q ∧ q < r0 + 2) ∨ N ≤ q) w g w23 g23) ?_ ?_
          · refine wp_block ?_
            obtain ⟨x32, hx33, H⟩ := bind_el H
            refine c_region (fun K hK => ?_)
            refine st_val hS rfl rfl rfl (r_move hS rfl rfl) fun a27 hS27 => st_val hS27 rfl rfl rfl (r_move hS27 rfl rfl) fun a28 hS28 => st_val hS28 rfl rfl rfl (r_move hS28 rfl rfl) fun a29 hS29 => st_val hS29 rfl rfl rfl (r_bin hS29 rfl rfl rfl (b_rem (by decide))) fun a30 hS30 => st_val hS30 rfl rfl rfl (r_convert (k' := .u64) hS30 rfl rfl (by kernel_rfl)) fun a31 hS31 => st_val hS31 rfl rfl rfl (r_index (e := 33) (sz := 1) (by_ := 8) hS31 rfl rfl rfl (by kernel_rfl) (RdS.some_ (OwS.rd h7) hx33) (idx_lo hx33) (idx_hi hx33)) fun a34 hS34 => ?_
            refine st_effS hS34 rfl rfl (e_storeE (n := 1) (bb := false) (kd := (kint .u64)) (j := 0) (x' := wu ((Int.tmod m0_1 3))) (us := [.int .u64 (wu ((Int.tmod m0_1 3)))]) g17 hS34 rfl rfl rfl rfl (by kernel_rfl) rfl rfl (by intro v hv; simp only [List.mem_cons, List.not_mem_nil, or_false] at hv; rcases hv with rfl <;> rfl) h7 hx33 rfl (fun _ _ cs hR => by rw [show cs = _ from hR]; rfl)) ?_
            rintro a35 w36 g36 ⟨h7, F36⟩ hS35
            replace hp1 := RdS.fr hp1 F36 (by decide) (fun q (hq : C1 q) (hm : q = N + 0) => by have := hC1 q hq; omega)
            replace hF := hF.trans F36 (fun c' (hm : c' = N + 0) => by show (r0 ≤ c' ∧ c' < r0 + 2) ∨ N ≤ c'; omega)
            have hT : Sl 33 a35 [(0, .int .i64 p0), (1, .slice A1 p1.length cap1), (5, .slice A5 m0_0.length cap6), (6, .int .i64 m0_1)] := hS35.re ⟨rfl, rfl, rfl, rfl, trivial⟩
            replace hS35 : Sl 33 a35 [(0, .int .i64 p0), (1, .slice A1 p1.length cap1), (5, .slice A5 (upd m0_0 m0_1 (wu ((Int.tmod m0_1 3)))).length cap6), (6, .int .i64 m0_1)] := by simpa only [upd_length] using hT
            clear hT
            refine wpList_nil (hK _ _ ?_)
            replace hS : Sl 33 _ [(0, .int .i64 p0), (1, .slice A1 p1.length cap1), (5, .slice A5 (upd m0_0 m0_1 (wu ((Int.tmod m0_1 3)))).length cap6), (6, .int .i64 m0_1)] := hS35.re ⟨rfl, rfl, rfl, rfl, trivial⟩
            clear hK K
            try clear hS27 hS28 hS29 hS30 hS31 hS34 hS35
            obtain ⟨a, ha⟩ : ∃ a', a' = a35 := ⟨_, rfl⟩
            rw [← ha] at hS ⊢; clear ha
            refine c_pure [(0, .int .i64 p0), (1, .slice A1 p1.length cap1), (5, .slice A5 (upd m0_0 m0_1 (wu ((Int.tmod m0_1 3)))).length cap6), (6, .int .i64 m0_1), (23, .bool (decide (m0_1 < (p1.length : Int))))] (fun R hR => st_val hS rfl rfl rfl (r_move hS rfl rfl) fun a37 hS37 => st_val hS37 rfl rfl rfl (r_move hS37 rfl rfl) fun a38 hS38 => st_val hS38 rfl rfl rfl (r_len (e := 33) (sz := 1) (by_ := 8) hS38 rfl rfl (by kernel_rfl)) fun a39 hS39 => st_val hS39 rfl rfl rfl (r_bin hS39 rfl rfl rfl b_lss) fun a40 hS40 => wpList_nil (hR _ (hS40.re ⟨rfl, rfl, rfl, rfl, rfl, trivial⟩))) ?_
            clear hS
            clear a
            intro a hS
            refine c_cond hS rfl (fun hb41 => ?_) (fun hb41 => ?_)
            · replace H := ite_t hb41 H
              obtain ⟨x46, hx47, H⟩ := bind_el H
              obtain ⟨x51, hx52, H⟩ := bind_el H
              refine c_region1 (fun K hK => ?_)
              refine st_val hS rfl rfl rfl (r_move hS rfl rfl) fun a42 hS42 => st_val hS42 rfl rfl rfl (r_move hS42 rfl rfl) fun a43 hS43 => st_val hS43 rfl rfl rfl (r_move hS43 rfl rfl) fun a44 hS44 => st_val hS44 rfl rfl rfl (r_move hS44 rfl rfl) fun a45 hS45 => st_val hS45 rfl rfl rfl (r_index (e := 33) (sz := 1) (by_ := 8) hS45 rfl rfl rfl (by kernel_rfl) (RdS.some_ hp1 hx47) (idx_lo hx47) (idx_hi hx47)) fun a48 hS48 => st_val hS48 rfl rfl rfl (r_load1 (n := 1) hS48 rfl rfl (by kernel_rfl) (RdS.cell (i := m0_1) (sz := 1) (j := 0) hp1 hx47 rfl)) fun a49 hS49 => st_val hS49 rfl rfl rfl (r_bin hS49 rfl rfl rfl (b_rem (by decide))) fun a50 hS50 => st_val hS50 rfl rfl rfl (r_index (e := 33) (sz := 1) (by_ := 8) hS50 rfl rfl rfl (by kernel_rfl) (RdS.some_ (OwS.rd h7) hx52) (idx_lo hx52) (idx_hi hx52)) fun a53 hS53 => ?_
              refine st_effS hS53 rfl rfl (e_storeE (n := 1) (bb := false) (kd := (kint .u64)) (j := 0) (x' := (Int.tmod x46 12)) (us := [.int .u64 (Int.tmod x46 12)]) g36 hS53 rfl rfl rfl rfl (by kernel_rfl) rfl rfl (by intro v hv; simp only [List.mem_cons, List.not_mem_nil, or_false] at hv; rcases hv with rfl <;> rfl) h7 hx52 rfl (fun _ _ cs hR => by rw [show cs = _ from hR]; rfl)) ?_
              rintro a54 w55 g55 ⟨h7, F55⟩ hS54
              replace hp1 := RdS.fr hp1 F55 (by decide) (fun q (hq : C1 q) (hm : q = N + 0) => by have := hC1 q hq; omega)
              replace hF := hF.trans F55 (fun c' (hm : c' = N + 0) => by show (r0 ≤ c' ∧ c' < r0 + 2) ∨ N ≤ c'; omega)
              have hT : Sl 33 a54 [(0, .int .i64 p0), (1, .slice A1 p1.length cap1), (5, .slice A5 (upd m0_0 m0_1 (wu ((Int.tmod m0_1 3)))).length cap6), (6, .int .i64 m0_1)] := hS54.re ⟨rfl, rfl, rfl, rfl, trivial⟩
              replace hS54 : Sl 33 a54 [(0, .int .i64 p0), (1, .slice A1 p1.length cap1), (5, .slice A5 (upd (upd m0_0 m0_1 (wu ((Int.tmod m0_1 3)))) m0_1 (Int.tmod x46 12)).length cap6), (6, .int .i64 m0_1)] := by simpa only [upd_length] using hT
              clear hT
              refine wpList_nil (hK _ _ ?_)
              replace hS : Sl 33 _ [(0, .int .i64 p0), (1, .slice A1 p1.length cap1), (5, .slice A5 (upd (upd m0_0 m0_1 (wu ((Int.tmod m0_1 3)))) m0_1 (Int.tmod x46 12)).length cap6), (6, .int .i64 m0_1)] := hS54.re ⟨rfl, rfl, rfl, rfl, trivial⟩
              clear hK K
              try clear hS42 hS43 hS44 hS45 hS48 hS49 hS50 hS53 hS54
              obtain ⟨a, ha⟩ : ∃ a', a' = a54 := ⟨_, rfl⟩
              rw [← ha] at hS ⊢; clear ha
              have e := Option.some.inj H
              subst e
              exact ⟨g55, hS.re ⟨rfl, rfl, rfl, rfl, trivial⟩, h7, hp1, hF⟩
            · replace H := ite_f hb41 H
              refine wp_skip ?_
              have e := Option.some.inj H
              subst e
              exact ⟨g36, hS.re ⟨rfl, rfl, rfl, rfl, trivial⟩, h7, hp1, hF⟩
          · clear H
            clear hp1 h7 hF
            clear hS
            rintro a w23 ⟨g23, hS, h7, hp1, hF⟩
            have H := Hl26
            clear Hl26
            refine c_pure1 [(0, .int .i64 p0), (1, .slice A1 p1.length cap1), (5, .slice A5 v24.length cap6), (6, .int .i64 (wi (m0_1 + 1)))] (fun R hR => st_val hS rfl rfl rfl (r_move hS rfl rfl) fun a56 hS56 => st_val hS56 rfl rfl rfl (r_bin hS56 rfl rfl rfl b_add) fun a57 hS57 => st_val hS57 rfl rfl rfl (r_assign hS57 rfl rfl) fun a58 hS58 => wpList_nil (hR _ (hS58.re ⟨rfl, rfl, rfl, rfl, trivial⟩))) ?_
            clear hS
            clear a
            intro a hS
            refine ⟨k18, Nat.lt_succ_self _, ?_⟩
            exact ⟨v24, wi (m0_1 + 1), g23, H, hS.re ⟨rfl, rfl, rfl, rfl, trivial⟩, h7, hp1, hF⟩
        · replace H := ite_f hb22 H
          refine wp_exit ?_
          have e := Option.some.inj H
          subst e
          exact ⟨g17, hS.re ⟨rfl, trivial⟩, h7, hF⟩
  · clear H
    clear hp1 h7 hF
    clear hS
    rintro a w12 ⟨g12, hS, h7, hF⟩
    have H := Hl15
    clear Hl15
    refine c_pure [(4, .slice A5 v13.length cap6)] (fun R hR => st_val hS rfl rfl rfl (r_move hS rfl rfl) fun a59 hS59 => st_val hS59 rfl rfl rfl (r_assign hS59 rfl rfl) fun a60 hS60 => wpList_nil (hR _ (hS60.re ⟨rfl, trivial⟩))) ?_
    clear hS
    clear a
    intro a hS
    refine wp_ret ?_
    have e := Option.some.inj H
    subst e
    have F61 := Fr.recol2 w12 g12 (N + 0) r0
    replace h7 := h7.recol2 r0
    replace hF := hF.trans F61 (fun c' (hm : c' = N + 0 ∨ c' = N + 0 + 1) => by show (r0 ≤ c' ∧ c' < r0 + 2) ∨ N ≤ c'; omega)
    repeat (with_reducible first | refine then_ret ?_ | refine inBlock_ret ?_)
    exact c_ret1 hS Try.results17 rfl ⟨_, rfl, (recol2 g12 (N + 0) r0), A5, cap6, rfl, h7, hF⟩


end Go.Proofs.Ythmjgadmadlpkaa.Sim

namespace Go.Proofs.Ythmjgadmadlpkaa.Sim
open Go
set_option linter.unusedVariables false
set_option linter.unusedSimpArgs false

/-! ### ref24_invalid: function 111 -/
def ref24_invalid.l0 (p0 : Int) (p1 : List api_Link) : Nat → Int → Option (Fl (Bool) (Unit))
  | 0, _ => none
  | k35 + 1, m0_0 => if decide (m0_0 < (p1.length : Int)) = true then ((idx p1 m0_0).bind fun x43 => if ((((decide (x43.Consumer < 0)) || (decide (p0 ≤ x43.Consumer))) || (decide (x43.Supplier < 0))) || (decide (p0 ≤ x43.Supplier))) = true then (some (.out true)) else (ref24_invalid.l0 p0 p1 k35 (wi (m0_0 + 1)))) else (some (.nxt ()))
def ref24_invalid.f (p0 : Int) (p1 : List api_Link) : Option (Bool) := if (((decide (p0 < 0)) || (decide (128 < p0))) || (decide (1024 < (p1.length : Int)))) = true then (some true) else ((ref24_invalid.l0 p0 p1 FUEL 0 : Option (Fl (Bool) (Unit))).bind fun o32 => o32.go fun _ => some false)
set_option maxRecDepth 100000 in
set_option maxHeartbeats 4000000 in
theorem ref24_invalid.calls {p0 : Int} {p1 : List api_Link} {A1 : Option Addr} {cap1 : Nat} {C1 : Nat → Prop} {w : World} {g : Nat → Nat} {out : Bool} (N : Nat) (hp1 : RdS kd_api_Link w g C1 A1 cap1 p1) (hC1 : ∀ c, C1 c → c < N) (H : ref24_invalid.f p0 p1 = some out) :
    Calls Try.prog 111 #[.int .i64 p0, .slice A1 p1.length cap1] w (fun e w' => ∃ v, e = .returned v ∧ ∃ (g' : Nat → Nat), v = .bool out ∧ Fr (fun q => N ≤ q) w g w' g') := by
  unfold ref24_invalid.f at H
  refine calls_enter Try.func111 rfl Try.ntmps111 rfl (fun a hS => ?_)
  replace hS : Sl 55 a [(0, .int .i64 p0), (1, .slice A1 p1.length cap1)] := hS
  have hF : Fr (fun q => N ≤ q) w g w g := Fr.refl _ _ _
  refine c_pure [(0, .int .i64 p0), (1, .slice A1 p1.length cap1)] (fun R hR => st_val hS rfl rfl rfl (r_assign hS rfl rfl) fun a1 hS1 => wpList_nil (hR _ (hS1.re ⟨rfl, rfl, trivial⟩))) ?_
  clear hS
  clear a
  intro a hS
  refine wp_seq ?_
  refine c_region (fun K hK => ?_)
  refine st_val hS rfl rfl rfl (r_move hS rfl rfl) fun a2 hS2 => st_val hS2 rfl rfl rfl (r_bin hS2 rfl rfl rfl b_lss) fun a3 hS3 => st_val hS3 rfl rfl rfl (r_move hS3 rfl rfl) fun a4 hS4 => ?_
  refine g_join (N := 55) 3 [(0, .int .i64 p0), (1, .slice A1 p1.length cap1), (11, .bool ((decide (p0 < 0)) || (decide (128 < p0))))] ?_ (fun hk => ?_)
  rotate_left
  · rcases Bool.eq_false_or_eq_true (decide (p0 < 0)) with hb5 | hb5
    · refine st_off hS4 (want_off hS4 rfl rfl rfl hb5) rfl rfl fun a8 hS8 => st_off hS8 (want_off hS8 rfl rfl rfl hb5) rfl rfl fun a9 hS9 => st_val hS9 rfl rfl rfl (r_pickT hS9 rfl rfl rfl hb5) fun a10 hS10 => hk _ (hS10.re ⟨rfl, rfl, (by rw [hb5]; rfl), trivial⟩)
    · refine st_valW hS4 (want_on hS4 rfl rfl rfl hb5) rfl rfl (r_move hS4 rfl rfl) fun a11 hS11 => st_valW hS11 (want_on hS11 rfl rfl rfl hb5) rfl rfl (r_bin hS11 rfl rfl rfl b_gtr) fun a12 hS12 => st_val hS12 rfl rfl rfl (r_pickF hS12 rfl rfl rfl hb5) fun a13 hS13 => hk _ (hS13.re ⟨rfl, rfl, (by rw [hb5]; rfl), trivial⟩)
  intro a14 hS14
  refine st_val hS14 rfl rfl rfl (r_move hS14 rfl rfl) fun a15 hS15 => ?_
  refine g_join (N := 55) 4 [(0, .int .i64 p0), (1, .slice A1 p1.length cap1), (16, .bool (((decide (p0 < 0)) || (decide (128 < p0))) || (decide (1024 < (p1.length : Int)))))] ?_ (fun hk => ?_)
  rotate_left
  · rcases Bool.eq_false_or_eq_true (((decide (p0 < 0)) || (decide (128 < p0)))) with hb16 | hb16
    · refine st_off hS15 (want_off hS15 rfl rfl rfl hb16) rfl rfl fun a20 hS20 => st_off hS20 (want_off hS20 rfl rfl rfl hb16) rfl rfl fun a21 hS21 => st_off hS21 (want_off hS21 rfl rfl rfl hb16) rfl rfl fun a22 hS22 => st_val hS22 rfl rfl rfl (r_pickT hS22 rfl rfl rfl hb16) fun a23 hS23 => hk _ (hS23.re ⟨rfl, rfl, (by rw [hb16]; rfl), trivial⟩)
    · refine st_valW hS15 (want_on hS15 rfl rfl rfl hb16) rfl rfl (r_move hS15 rfl rfl) fun a24 hS24 => st_valW hS24 (want_on hS24 rfl rfl rfl hb16) rfl rfl (r_len (e := 43) (sz := 2) (by_ := 16) hS24 rfl rfl (by kernel_rfl)) fun a25 hS25 => st_valW hS25 (want_on hS25 rfl rfl rfl hb16) rfl rfl (r_bin hS25 rfl rfl rfl b_gtr) fun a26 hS26 => st_val hS26 rfl rfl rfl (r_pickF hS26 rfl rfl rfl hb16) fun a27 hS27 => hk _ (hS27.re ⟨rfl, rfl, (by rw [hb16]; rfl), trivial⟩)
  intro a28 hS28
  refine wpList_nil (hK _ _ ?_)
  replace hS : Sl 55 _ [(0, .int .i64 p0), (1, .slice A1 p1.length cap1), (16, .bool (((decide (p0 < 0)) || (decide (128 < p0))) || (decide (1024 < (p1.length : Int)))))] := hS28.re ⟨rfl, rfl, rfl, trivial⟩
  clear hK K
  try clear hS2 hS3 hS4 hS14 hS15 hS28
  obtain ⟨a, ha⟩ : ∃ a', a' = a28 := ⟨_, rfl⟩
  rw [← ha] at hS ⊢; clear ha
  refine c_cond hS rfl (fun hb29 => ?_) (fun hb29 => ?_)
  · replace H := ite_t hb29 H
    refine c_pure [(4, .bool true)] (fun R hR => st_val hS rfl rfl rfl (r_assign hS rfl rfl) fun a30 hS30 => wpList_nil (hR _ (hS30.re ⟨rfl, trivial⟩))) ?_
    clear hS
    clear a
    intro a hS
    refine wp_ret ?_
    have e := Option.some.inj H
    subst e
    repeat (with_reducible first | refine then_ret ?_ | refine inBlock_ret ?_)
    exact c_ret1 hS Try.results111 rfl ⟨_, rfl, g, rfl, hF⟩
  · replace H := ite_f hb29 H
    refine wp_skip ?_
    change Code.wp _ _ _ _ _
    obtain ⟨o32, H, Hl33⟩ := bind_el H
    refine c_cut (fun a w' => o32 = .nxt () ∧ w = w' ∧ Sl 55 a []) ?_ ?_
    · refine c_pure [(0, .int .i64 p0), (1, .slice A1 p1.length cap1), (5, .int .i64 0)] (fun R hR => st_val hS rfl rfl rfl (r_assign hS rfl rfl) fun a34 hS34 => wpList_nil (hR _ (hS34.re ⟨rfl, rfl, rfl, trivial⟩))) ?_
      clear hS
      clear a
      intro a hS
      refine wp_block ?_
      refine wp_loop_ghost (fun kq => fun a w' => ∃ (m0_0 : Int), ref24_invalid.l0 p0 p1 kq m0_0 = some o32 ∧ w = w' ∧ Sl 55 a [(0, .int .i64 p0), (1, .slice A1 p1.length cap1), (5, .int .i64 m0_0)]) FUEL ?_ ?_
      · exact ⟨0, H, rfl, hS.re ⟨rfl, rfl, rfl, trivial⟩⟩
      · clear H
        clear hS
        rintro k35 a w' ⟨m0_0, hpre0, hw, hS⟩
        subst hw
        have H := hpre0
        clear hpre0
        cases k35 with
        | zero => exact absurd H (by simp [ref24_invalid.l0])
        | succ k35 =>
          rw [ref24_invalid.l0] at H
          refine wp_seq ?_
          refine c_pure [(0, .int .i64 p0), (1, .slice A1 p1.length cap1), (5, .int .i64 m0_0), (20, .bool (decide (m0_0 < (p1.length : Int))))] (fun R hR => st_val hS rfl rfl rfl (r_move hS rfl rfl) fun a36 hS36 => st_val hS36 rfl rfl rfl (r_move hS36 rfl rfl) fun a37 hS37 => st_val hS37 rfl rfl rfl (r_len (e := 43) (sz := 2) (by_ := 16) hS37 rfl rfl (by kernel_rfl)) fun a38 hS38 => st_val hS38 rfl rfl rfl (r_bin hS38 rfl rfl rfl b_lss) fun a39 hS39 => wpList_nil (hR _ (hS39.re ⟨rfl, rfl, rfl, rfl, trivial⟩))) ?_
          clear hS
          clear a
          intro a hS
          refine c_cond hS rfl (fun hb40 => ?_) (fun hb40 => ?_)
          · replace H := ite_t hb40 H
            refine wp_skip ?_
            change Code.wp _ _ _ _ _
            refine wp_seq ?_
            refine wp_block ?_
            obtain ⟨x43, hx44, H⟩ := bind_el H
            refine c_region (fun K hK => ?_)
            refine st_val hS rfl rfl rfl (r_move hS rfl rfl) fun a41 hS41 => st_val hS41 rfl rfl rfl (r_move hS41 rfl rfl) fun a42 hS42 => st_val hS42 rfl rfl rfl (r_index (e := 43) (sz := 2) (by_ := 16) hS42 rfl rfl rfl (by kernel_rfl) (RdS.some_ hp1 hx44) (idx_lo hx44) (idx_hi hx44)) fun a45 hS45 => st_val hS45 rfl rfl rfl (r_fieldE (off := 0) hS45 rfl rfl (by kernel_rfl)) fun a46 hS46 => st_val hS46 rfl rfl rfl (r_load1 (n := 1) hS46 rfl rfl (by kernel_rfl) (RdS.cell (i := m0_0) (sz := 2) (j := 0) hp1 hx44 rfl)) fun a47 hS47 => st_val hS47 rfl rfl rfl (r_bin hS47 rfl rfl rfl b_lss) fun a48 hS48 => st_val hS48 rfl rfl rfl (r_move hS48 rfl rfl) fun a49 hS49 => ?_
            refine g_join (N := 55) 8 [(0, .int .i64 p0), (1, .slice A1 p1.length cap1), (5, .int .i64 m0_0), (37, .bool ((decide (x43.Consumer < 0)) || (decide (p0 ≤ x43.Consumer))))] ?_ (fun hk => ?_)
            rotate_left
            · rcases Bool.eq_false_or_eq_true (decide (x43.Consumer < 0)) with hb50 | hb50
              · refine st_off hS49 (want_off hS49 rfl rfl rfl hb50) rfl rfl fun a58 hS58 => st_off hS58 (want_off hS58 rfl rfl rfl hb50) rfl rfl fun a59 hS59 => st_off hS59 (want_off hS59 rfl rfl rfl hb50) rfl rfl fun a60 hS60 => st_off hS60 (want_off hS60 rfl rfl rfl hb50) rfl rfl fun a61 hS61 => st_off hS61 (want_off hS61 rfl rfl rfl hb50) rfl rfl fun a62 hS62 => st_off hS62 (want_off hS62 rfl rfl rfl hb50) rfl rfl fun a63 hS63 => st_off hS63 (want_off hS63 rfl rfl rfl hb50) rfl rfl fun a64 hS64 => st_val hS64 rfl rfl rfl (r_pickT hS64 rfl rfl rfl hb50) fun a65 hS65 => hk _ (hS65.re ⟨rfl, rfl, rfl, (by rw [hb50]; rfl), trivial⟩)
              · refine st_valW hS49 (want_on hS49 rfl rfl rfl hb50) rfl rfl (r_move hS49 rfl rfl) fun a66 hS66 => st_valW hS66 (want_on hS66 rfl rfl rfl hb50) rfl rfl (r_move hS66 rfl rfl) fun a67 hS67 => st_valW hS67 (want_on hS67 rfl rfl rfl hb50) rfl rfl (r_index (e := 43) (sz := 2) (by_ := 16) hS67 rfl rfl rfl (by kernel_rfl) (RdS.some_ hp1 hx44) (idx_lo hx44) (idx_hi hx44)) fun a68 hS68 => st_valW hS68 (want_on hS68 rfl rfl rfl hb50) rfl rfl (r_fieldE (off := 0) hS68 rfl rfl (by kernel_rfl)) fun a69 hS69 => st_valW hS69 (want_on hS69 rfl rfl rfl hb50) rfl rfl (r_load1 (n := 1) hS69 rfl rfl (by kernel_rfl) (RdS.cell (i := m0_0) (sz := 2) (j := 0) hp1 hx44 rfl)) fun a70 hS70 => st_valW hS70 (want_on hS70 rfl rfl rfl hb50) rfl rfl (r_move hS70 rfl rfl) fun a71 hS71 => st_valW hS71 (want_on hS71 rfl rfl rfl hb50) rfl rfl (r_bin hS71 rfl rfl rfl b_geq) fun a72 hS72 => st_val hS72 rfl rfl rfl (r_pickF hS72 rfl rfl rfl hb50) fun a73 hS73 => hk _ (hS73.re ⟨rfl, rfl, rfl, (by rw [hb50]; rfl), trivial⟩)
            intro a74 hS74
            refine st_val hS74 rfl rfl rfl (r_move hS74 rfl rfl) fun a75 hS75 => ?_
            refine g_join (N := 55) 7 [(0, .int .i64 p0), (1, .slice A1 p1.length cap1), (5, .int .i64 m0_0), (45, .bool (((decide (x43.Consumer < 0)) || (decide (p0 ≤ x43.Consumer))) || (decide (x43.Supplier < 0))))] ?_ (fun hk => ?_)
            rotate_left
            · rcases Bool.eq_false_or_eq_true (((decide (x43.Consumer < 0)) || (decide (p0 ≤ x43.Consumer)))) with hb76 | hb76
              · refine st_off hS75 (want_off hS75 rfl rfl rfl hb76) rfl rfl fun a83 hS83 => st_off hS83 (want_off hS83 rfl rfl rfl hb76) rfl rfl fun a84 hS84 => st_off hS84 (want_off hS84 rfl rfl rfl hb76) rfl rfl fun a85 hS85 => st_off hS85 (want_off hS85 rfl rfl rfl hb76) rfl rfl fun a86 hS86 => st_off hS86 (want_off hS86 rfl rfl rfl hb76) rfl rfl fun a87 hS87 => st_off hS87 (want_off hS87 rfl rfl rfl hb76) rfl rfl fun a88 hS88 => st_val hS88 rfl rfl rfl (r_pickT hS88 rfl rfl rfl hb76) fun a89 hS89 => hk _ (hS89.re ⟨rfl, rfl, rfl, (by rw [hb76]; rfl), trivial⟩)
              · refine st_valW hS75 (want_on hS75 rfl rfl rfl hb76) rfl rfl (r_move hS75 rfl rfl) fun a90 hS90 => st_valW hS90 (want_on hS90 rfl rfl rfl hb76) rfl rfl (r_move hS90 rfl rfl) fun a91 hS91 => st_valW hS91 (want_on hS91 rfl rfl rfl hb76) rfl rfl (r_index (e := 43) (sz := 2) (by_ := 16) hS91 rfl rfl rfl (by kernel_rfl) (RdS.some_ hp1 hx44) (idx_lo hx44) (idx_hi hx44)) fun a92 hS92 => st_valW hS92 (want_on hS92 rfl rfl rfl hb76) rfl rfl (r_fieldE (off := 1) hS92 rfl rfl (by kernel_rfl)) fun a93 hS93 => st_valW hS93 (want_on hS93 rfl rfl rfl hb76) rfl rfl (r_load1 (n := 1) hS93 rfl rfl (by kernel_rfl) (RdS.cell (i := m0_0) (sz := 2) (j := 1) hp1 hx44 rfl)) fun a94 hS94 => st_valW hS94 (want_on hS94 rfl rfl rfl hb76) rfl rfl (r_bin hS94 rfl rfl rfl b_lss) fun a95 hS95 => st_val hS95 rfl rfl rfl (r_pickF hS95 rfl rfl rfl hb76) fun a96 hS96 => hk _ (hS96.re ⟨rfl, rfl, rfl, (by rw [hb76]; rfl), trivial⟩)
            intro a97 hS97
            refine st_val hS97 rfl rfl rfl (r_move hS97 rfl rfl) fun a98 hS98 => ?_
            refine g_join (N := 55) 8 [(0, .int .i64 p0), (1, .slice A1 p1.length cap1), (5, .int .i64 m0_0), (54, .bool ((((decide (x43.Consumer < 0)) || (decide (p0 ≤ x43.Consumer))) || (decide (x43.Supplier < 0))) || (decide (p0 ≤ x43.Supplier))))] ?_ (fun hk => ?_)
            rotate_left
            · rcases Bool.eq_false_or_eq_true ((((decide (x43.Consumer < 0)) || (decide (p0 ≤ x43.Consumer))) || (decide (x43.Supplier < 0)))) with hb99 | hb99
              · refine st_off hS98 (want_off hS98 rfl rfl rfl hb99) rfl rfl fun a107 hS107 => st_off hS107 (want_off hS107 rfl rfl rfl hb99) rfl rfl fun a108 hS108 => st_off hS108 (want_off hS108 rfl rfl rfl hb99) rfl rfl fun a109 hS109 => st_off hS109 (want_off hS109 rfl rfl rfl hb99) rfl rfl fun a110 hS110 => st_off hS110 (want_off hS110 rfl rfl rfl hb99) rfl rfl fun a111 hS111 => st_off hS111 (want_off hS111 rfl rfl rfl hb99) rfl rfl fun a112 hS112 => st_off hS112 (want_off hS112 rfl rfl rfl hb99) rfl rfl fun a113 hS113 => st_val hS113 rfl rfl rfl (r_pickT hS113 rfl rfl rfl hb99) fun a114 hS114 => hk _ (hS114.re ⟨rfl, rfl, rfl, (by rw [hb99]; rfl), trivial⟩)
              · refine st_valW hS98 (want_on hS98 rfl rfl rfl hb99) rfl rfl (r_move hS98 rfl rfl) fun a115 hS115 => st_valW hS115 (want_on hS115 rfl rfl rfl hb99) rfl rfl (r_move hS115 rfl rfl) fun a116 hS116 => st_valW hS116 (want_on hS116 rfl rfl rfl hb99) rfl rfl (r_index (e := 43) (sz := 2) (by_ := 16) hS116 rfl rfl rfl (by kernel_rfl) (RdS.some_ hp1 hx44) (idx_lo hx44) (idx_hi hx44)) fun a117 hS117 => st_valW hS117 (want_on hS117 rfl rfl rfl hb99) rfl rfl (r_fieldE (off := 1) hS117 rfl rfl (by kernel_rfl)) fun a118 hS118 => st_valW hS118 (want_on hS118 rfl rfl rfl hb99) rfl rfl (r_load1 (n := 1) hS118 rfl rfl (by kernel_rfl) (RdS.cell (i := m0_0) (sz := 2) (j := 1) hp1 hx44 rfl)) fun a119 hS119 => st_valW hS119 (want_on hS119 rfl rfl rfl hb99) rfl rfl (r_move hS119 rfl rfl) fun a120 hS120 => st_valW hS120 (want_on hS120 rfl rfl rfl hb99) rfl rfl (r_bin hS120 rfl rfl rfl b_geq) fun a121 hS121 => st_val hS121 rfl rfl rfl (r_pickF hS121 rfl rfl rfl hb99) fun a122 hS122 => hk _ (hS122.re ⟨rfl, rfl, rfl, (by rw [hb99]; rfl), trivial⟩)
            intro a123 hS123
            refine wpList_nil (hK _ _ ?_)
            replace hS : Sl 55 _ [(0, .int .i64 p0), (1, .slice A1 p1.length cap1), (5, .int .i64 m0_0), (54, .bool ((((decide (x43.Consumer < 0)) || (decide (p0 ≤ x43.Consumer))) || (decide (x43.Supplier < 0))) || (decide (p0 ≤ x43.Supplier))))] := hS123.re ⟨rfl, rfl, rfl, rfl, trivial⟩
            clear hK K
            try clear hS41 hS42 hS45 hS46 hS47 hS48 hS49 hS74 hS75 hS97 hS98 hS123
            obtain ⟨a, ha⟩ : ∃ a', a' = a123 := ⟨_, rfl⟩
            rw [← ha] at hS ⊢; clear ha
            refine c_cond hS rfl (fun hb124 => ?_) (fun hb124 => ?_)
            · replace H := ite_t hb124 H
              refine c_pure [(4, .bool true)] (fun R hR => st_val hS rfl rfl rfl (r_assign hS rfl rfl) fun a125 hS125 => wpList_nil (hR _ (hS125.re ⟨rfl, trivial⟩))) ?_
              clear hS
              clear a
              intro a hS
              refine wp_ret ?_
              have e := Option.some.inj H
              subst e
              replace H := Fl.go_out Hl33
              have e := Option.some.inj H
              subst e
              repeat (with_reducible first | refine then_ret ?_ | refine inBlock_ret ?_)
              exact c_ret1 hS Try.results111 rfl ⟨_, rfl, g, rfl, hF⟩
            · replace H := ite_f hb124 H
              refine wp_skip ?_
              change Code.wp _ _ _ _ _
              refine c_pure1 [(0, .int .i64 p0), (1, .slice A1 p1.length cap1), (5, .int .i64 (wi (m0_0 + 1)))] (fun R hR => st_val hS rfl rfl rfl (r_move hS rfl rfl) fun a126 hS126 => st_val hS126 rfl rfl rfl (r_bin hS126 rfl rfl rfl b_add) fun a127 hS127 => st_val hS127 rfl rfl rfl (r_assign hS127 rfl rfl) fun a128 hS128 => wpList_nil (hR _ (hS128.re ⟨rfl, rfl, rfl, trivial⟩))) ?_
              clear hS
              clear a
              intro a hS
              refine ⟨k35, Nat.lt_succ_self _, ?_⟩
              exact ⟨wi (m0_0 + 1), H, rfl, hS.re ⟨rfl, rfl, rfl, trivial⟩⟩
          · replace H := ite_f hb40 H
            refine wp_exit ?_
            have e := Option.some.inj H
            exact ⟨e.symm, rfl, hS.re trivial⟩
    · clear H
      clear hS
      rintro a w' ⟨hpre0, hw, hS⟩
      subst hpre0
      subst hw
      have H := Fl.go_nxt Hl33
      clear Hl33
      refine c_pure [(4, .bool false)] (fun R hR => st_val hS rfl rfl rfl (r_assign hS rfl rfl) fun a129 hS129 => wpList_nil (hR _ (hS129.re ⟨rfl, trivial⟩))) ?_
      clear hS
      clear a
      intro a hS
      refine wp_ret ?_
      have e := Option.some.inj H
      subst e
      repeat (with_reducible first | refine then_ret ?_ | refine inBlock_ret ?_)
      exact c_ret1 hS Try.results111 rfl ⟨_, rfl, g, rfl, hF⟩


end Go.Proofs.Ythmjgadmadlpkaa.Sim

namespace Go.Proofs.Ythmjgadmadlpkaa.Sim
open Go
set_option linter.unusedVariables false
set_option linter.unusedSimpArgs false

/-! ### ref24_Basic: function 94 -/
def ref24_Basic.l1 (p1 : List api_Link) (m0_0 : Int) : Nat → Int → Option (Fl (Fl (Int) (Unit)) (Unit))
  | 0, _ => none
  | k28 + 1, m1_0 => if decide (m1_0 < m0_0) = true then ((idx p1 m0_0).bind fun x36 => (idx p1 m1_0).bind fun x42 => if decide (x36 = x42) = true then (some (.out (.out 7))) else (ref24_Basic.l1 p1 m0_0 k28 (wi (m1_0 + 1)))) else (some (.nxt ()))
def ref24_Basic.l0 (p1 : List api_Link) : Nat → Int → Option (Fl (Int) (Unit))
  | 0, _ => none
  | k16 + 1, m0_0 => if decide (m0_0 < (p1.length : Int)) = true then ((ref24_Basic.l1 p1 m0_0 FUEL 0 : Option (Fl (Fl (Int) (Unit)) (Unit))).bind fun o24 => o24.go fun _ => ref24_Basic.l0 p1 k16 (wi (m0_0 + 1))) else (some (.nxt ()))
def ref24_Basic.f (p0 : Int) (p1 : List api_Link) : Option (Int) := (ref24_invalid.f p0 p1).bind fun r4 => if r4 = true then (some 1) else ((ref24_Basic.l0 p1 FUEL 0 : Option (Fl (Int) (Unit))).bind fun o12 => o12.go fun _ => some 0)
set_option maxRecDepth 100000 in
set_option maxHeartbeats 4000000 in
theorem ref24_Basic.calls {p0 : Int} {p1 : List api_Link} {A1 : Option Addr} {cap1 : Nat} {C1 : Nat → Prop} {w : World} {g : Nat → Nat} {out : Int} (N : Nat) (hp1 : RdS kd_api_Link w g C1 A1 cap1 p1) (hC1 : ∀ c, C1 c → c < N) (H : ref24_Basic.f p0 p1 = some out) :
    Calls Try.prog 94 #[.int .i64 p0, .slice A1 p1.length cap1] w (fun e w' => ∃ v, e = .returned v ∧ ∃ (g' : Nat → Nat), v = .int .i64 out ∧ Fr (fun q => N ≤ q) w g w' g') := by
  unfold ref24_Basic.f at H
  refine calls_enter Try.func94 rfl Try.ntmps94 rfl (fun a hS => ?_)
  replace hS : Sl 30 a [(0, .int .i64 p0), (1, .slice A1 p1.length cap1)] := hS
  have hF : Fr (fun q => N ≤ q) w g w g := Fr.refl _ _ _
  refine c_pure [(0, .int .i64 p0), (1, .slice A1 p1.length cap1)] (fun R hR => st_val hS rfl rfl rfl (r_assign hS rfl rfl) fun a1 hS1 => wpList_nil (hR _ (hS1.re ⟨rfl, rfl, trivial⟩))) ?_
  clear hS
  clear a
  intro a hS
  refine wp_seq ?_
  obtain ⟨r4, hr5, H⟩ := bind_el H
  refine c_region (fun K hK => ?_)
  refine st_val hS rfl rfl rfl (r_move hS rfl rfl) fun a2 hS2 => st_val hS2 rfl rfl rfl (r_move hS2 rfl rfl) fun a3 hS3 => ?_
  refine st_enter hS3 rfl rfl rfl (r_call hS3 rfl rfl (by kernel_rfl)) (ref24_invalid.calls (C1 := C1) (p0 := p0) (p1 := p1) (g := g) (N + 0)  hp1 (fun q (hq : C1 q) => by have := hC1 q hq; omega) hr5) ?_
  rintro _ a6 w7 ⟨g7, rfl, F7⟩ hS6
  replace hp1 := RdS.fr hp1 F7 (by decide) (fun q (hq : C1 q) (hm : N + 0 ≤ q) => by have := hC1 q hq; omega)
  replace hF := hF.trans F7 (fun c' (hm : N + 0 ≤ c') => by show N ≤ c'; omega)
  refine wpList_nil (hK _ _ ?_)
  replace hS : Sl 30 _ [(1, .slice A1 p1.length cap1), (9, .bool r4)] := hS6.re ⟨rfl, rfl, trivial⟩
  clear hK K
  try clear hS2 hS3 hS6
  obtain ⟨a, ha⟩ : ∃ a', a' = a6 := ⟨_, rfl⟩
  rw [← ha] at hS ⊢; clear ha
  refine c_cond hS rfl (fun hb8 => ?_) (fun hb8 => ?_)
  · replace H := ite_t hb8 H
    refine c_pure [(4, .int .i64 1)] (fun R hR => st_val hS rfl rfl rfl (r_assign hS rfl rfl) fun a9 hS9 => wpList_nil (hR _ (hS9.re ⟨rfl, trivial⟩))) ?_
    clear hS
    clear a
    intro a hS
    refine wp_ret ?_
    have e := Option.some.inj H
    subst e
    repeat (with_reducible first | refine then_ret ?_ | refine inBlock_ret ?_)
    exact c_ret1 hS Try.results94 rfl ⟨_, rfl, g7, rfl, hF⟩
  · replace H := ite_f hb8 H
    refine wp_skip ?_
    change Code.wp _ _ _ _ _
    obtain ⟨o12, H, Hl13⟩ := bind_el H
    refine c_cut (fun a w10 => ∃ (g10 : Nat → Nat), o12 = .nxt () ∧ Sl 30 a [] ∧ Fr (fun q => N ≤ q) w g w10 g10) ?_ ?_
    · refine c_pure [(1, .slice A1 p1.length cap1), (5, .int .i64 0)] (fun R hR => st_val hS rfl rfl rfl (r_assign hS rfl rfl) fun a14 hS14 => wpList_nil (hR _ (hS14.re ⟨rfl, rfl, trivial⟩))) ?_
      clear hS
      clear a
      intro a hS
      refine wp_block ?_
      refine wp_loop_ghost (fun kq => fun a w15 => ∃ (m0_0 : Int), ∃ (g15 : Nat → Nat), ref24_Basic.l0 p1 kq m0_0 = some o12 ∧ Sl 30 a [(1, .slice A1 p1.length cap1), (5, .int .i64 m0_0)] ∧ RdS kd_api_Link w15 g15 C1 A1 cap1 p1 ∧ Fr (fun q => N ≤ q) w g w15 g15) FUEL ?_ ?_
      · exact ⟨0, g7, H, hS.re ⟨rfl, rfl, trivial⟩, hp1, hF⟩
      · clear H
        clear hp1 hF
        clear hS
        rintro k16 a w15 ⟨m0_0, g15, hpre0, hS, hp1, hF⟩
        have H := hpre0
        clear hpre0
        cases k16 with
        | zero => exact absurd H (by simp [ref24_Basic.l0])
        | succ k16 =>
          rw [ref24_Basic.l0] at H
          refine wp_seq ?_
          refine c_pure [(1, .slice A1 p1.length cap1), (5, .int .i64 m0_0), (13, .bool (decide (m0_0 < (p1.length : Int))))] (fun R hR => st_val hS rfl rfl rfl (r_move hS rfl rfl) fun a17 hS17 => st_val hS17 rfl rfl rfl (r_move hS17 rfl rfl) fun a18 hS18 => st_val hS18 rfl rfl rfl (r_len (e := 43) (sz := 2) (by_ := 16) hS18 rfl rfl (by kernel_rfl)) fun a19 hS19 => st_val hS19 rfl rfl rfl (r_bin hS19 rfl rfl rfl b_lss) fun a20 hS20 => wpList_nil (hR _ (hS20.re ⟨rfl, rfl, rfl, trivial⟩))) ?_
          clear hS
          clear a
          intro a hS
          refine c_cond hS rfl (fun hb21 => ?_) (fun hb21 => ?_)
          · replace H := ite_t hb21 H
            refine wp_skip ?_
            change Code.wp _ _ _ _ _
            obtain ⟨o24, H, Hl25⟩ := bind_el H
            refine c_cut (fun a w22 => ∃ (g22 : Nat → Nat), o24 = .nxt () ∧ Sl 30 a [(1, .slice A1 p1.length cap1), (5, .int .i64 m0_0)] ∧ RdS kd_api_Link w22 g22 C1 A1 cap1 p1 ∧ Fr (fun q => N ≤ q) w g w22 g22) ?_ ?_
            · refine wp_block ?_
              refine c_pure [(1, .slice A1 p1.length cap1), (5, .int .i64 m0_0), (6, .int .i64 0)] (fun R hR => st_val hS rfl rfl rfl (r_assign hS rfl rfl) fun a26 hS26 => wpList_nil (hR _ (hS26.re ⟨rfl, rfl, rfl, trivial⟩))) ?_
              clear hS
              clear a
              intro a hS
              refine wp_block ?_
              refine wp_loop_ghost (fun kq => fun a w27 => ∃ (m1_0 : Int), ∃ (g27 : Nat → Nat), ref24_Basic.l1 p1 m0_0 kq m1_0 = some o24 ∧ Sl 30 a [(1, .slice A1 p1.length cap1), (5, .int .i64 m0_0), (6, .int .i64 m1_0)] ∧ RdS kd_api_Link w27 g27 C1 A1 cap1 p1 ∧ Fr (fun q => N ≤ q) w g w27 g27) FUEL ?_ ?_
              · exact ⟨0, g15, H, hS.re ⟨rfl, rfl, rfl, trivial⟩, hp1, hF⟩
              · clear H
                clear hp1 hF
                clear hS
                rintro k28 a w27 ⟨m1_0, g27, hpre0, hS, hp1, hF⟩
                have H := hpre0
                clear hpre0
                cases k28 with
                | zero => exact absurd H (by simp [ref24_Basic.l1])
                | succ k28 =>
                  rw [ref24_Basic.l1] at H
                  refine wp_seq ?_
                  refine c_pure [(1, .slice A1 p1.length cap1), (5, .int .i64 m0_0), (6, .int .i64 m1_0), (18, .bool (decide (m1_0 < m0_0)))] (fun R hR => st_val hS rfl rfl rfl (r_move hS rfl rfl) fun a29 hS29 => st_val hS29 rfl rfl rfl (r_move hS29 rfl rfl) fun a30 hS30 => st_val hS30 rfl rfl rfl (r_bin hS30 rfl rfl rfl b_lss) fun a31 hS31 => wpList_nil (hR _ (hS31.re ⟨rfl, rfl, rfl, rfl, trivial⟩))) ?_
                  clear hS
                  clear a
                  intro a hS
                  refine c_cond hS rfl (fun hb32 => ?_) (fun hb32 => ?_)
                  · replace H := ite_t hb32 H
                    refine wp_skip ?_
                    change Code.wp _ _ _ _ _
                    refine wp_seq ?_
                    refine wp_block ?_
                    obtain ⟨x36, hx37, H⟩ := bind_el H
                    obtain ⟨x42, hx43, H⟩ := bind_el H
                    refine c_draw (fun K hK => d_start (fun q => False) g27 [] 9 #[false, false, false, false, false, false, false, false, false] (by kernel_rfl) rfl rfl (fun w33 hw33 => ?_))
                    have F33 : Fr (fun _ => False) w27 g27 w33 g27 := by rw [hw33]; exact Fr.drew _ _ _
                    replace hp1 := RdS.fr hp1 F33 (by decide) (fun _ _ h => h)
                    replace hF := hF.trans F33 (fun _ h => h.elim)
                    have hC : Fr (fun q => False) w33 g27 w33 g27 := Fr.refl _ _ _
                    refine d_pure hS 0 #[true, false, false, false, false, false, false, false, false] rfl rfl rfl rfl (by kernel_rfl) (fun _ _ _ h => h) (fun _ => (r_move hS rfl rfl)) fun a34 hS34 => d_pure hS34 1 #[true, true, false, false, false, false, false, false, false] rfl rfl rfl rfl (by kernel_rfl) (fun _ _ _ h => h) (fun _ => (r_move hS34 rfl rfl)) fun a35 hS35 => d_pure hS35 2 #[true, true, true, false, false, false, false, false, false] rfl rfl rfl rfl (by kernel_rfl) (fun _ _ _ h => h) (fun _ => (r_index (e := 43) (sz := 2) (by_ := 16) hS35 rfl rfl rfl (by kernel_rfl) (RdS.some_ hp1 hx37) (idx_lo hx37) (idx_hi hx37))) fun a38 hS38 => d_take hS38 3 #[true, true, true, true, false, false, false, false, false] rfl rfl rfl rfl (by kernel_rfl) (fun _ _ _ h => h) ⟨_, hC⟩ (fun w' g' Fz => (r_loadN (n := 2) (cs := [.int .i64 x36.Consumer, .int .i64 x36.Supplier]) hS38 rfl rfl (by kernel_rfl) rfl (RdS.cells_off (RdS.fr hp1 Fz (by decide) (fun _ _ h => h)) hx37 0 2))) fun a39 hS39 => d_pure hS39 4 #[true, true, true, true, true, false, false, false, false] rfl rfl rfl rfl (by kernel_rfl) (fun _ _ _ h => h) (fun _ => (r_move hS39 rfl rfl)) fun a40 hS40 => d_pure hS40 5 #[true, true, true, true, true, true, false, false, false] rfl rfl rfl rfl (by kernel_rfl) (fun _ _ _ h => h) (fun _ => (r_move hS40 rfl rfl)) fun a41 hS41 => d_pure hS41 6 #[true, true, true, true, true, true, true, false, false] rfl rfl rfl rfl (by kernel_rfl) (fun _ _ _ h => h) (fun _ => (r_index (e := 43) (sz := 2) (by_ := 16) hS41 rfl rfl rfl (by kernel_rfl) (RdS.some_ hp1 hx43) (idx_lo hx43) (idx_hi hx43))) fun a44 hS44 => d_take hS44 7 #[true, true, true, true, true, true, true, true, false] rfl rfl rfl rfl (by kernel_rfl) (fun _ _ _ h => h) ⟨_, hC⟩ (fun w' g' Fz => (r_loadN (n := 2) (cs := [.int .i64 x42.Consumer, .int .i64 x42.Supplier]) hS44 rfl rfl (by kernel_rfl) rfl (RdS.cells_off (RdS.fr hp1 Fz (by decide) (fun _ _ h => h)) hx43 0 2))) fun a45 hS45 => d_pure hS45 8 #[true, true, true, true, true, true, true, true, true] rfl rfl rfl rfl (by kernel_rfl) (fun _ _ _ h => h) (fun _ => (r_stEq hS45 rfl rfl rfl (by kernel_rfl) (eqF_api_Link x36 x42 _))) fun a46 hS46 => d_done (by kernel_rfl) (hK _ _ ?_)
                    replace hS : Sl 30 _ [(1, .slice A1 p1.length cap1), (5, .int .i64 m0_0), (6, .int .i64 m1_0), (29, .bool (decide (x36 = x42)))] := hS46.re ⟨rfl, rfl, rfl, rfl, trivial⟩
                    clear hK K hC
                    try clear hS34 hS35 hS38 hS39 hS40 hS41 hS44 hS45 hS46
                    obtain ⟨a, ha⟩ : ∃ a', a' = a46 := ⟨_, rfl⟩
                    rw [← ha] at hS ⊢; clear ha
                    refine c_cond hS rfl (fun hb47 => ?_) (fun hb47 => ?_)
                    · replace H := ite_t hb47 H
                      refine c_pure [(4, .int .i64 7)] (fun R hR => st_val hS rfl rfl rfl (r_assign hS rfl rfl) fun a48 hS48 => wpList_nil (hR _ (hS48.re ⟨rfl, trivial⟩))) ?_
                      clear hS
                      clear a
                      intro a hS
                      refine wp_ret ?_
                      have e := Option.some.inj H
                      subst e
                      replace H := Fl.go_out Hl25
                      have e := Option.some.inj H
                      subst e
                      replace H := Fl.go_out Hl13
                      have e := Option.some.inj H
                      subst e
                      repeat (with_reducible first | refine then_ret ?_ | refine inBlock_ret ?_)
                      exact c_ret1 hS Try.results94 rfl ⟨_, rfl, g27, rfl, hF⟩
                    · replace H := ite_f hb47 H
                      refine wp_skip ?_
                      change Code.wp _ _ _ _ _
                      refine c_pure1 [(1, .slice A1 p1.length cap1), (5, .int .i64 m0_0), (6, .int .i64 (wi (m1_0 + 1)))] (fun R hR => st_val hS rfl rfl rfl (r_move hS rfl rfl) fun a49 hS49 => st_val hS49 rfl rfl rfl (r_bin hS49 rfl rfl rfl b_add) fun a50 hS50 => st_val hS50 rfl rfl rfl (r_assign hS50 rfl rfl) fun a51 hS51 => wpList_nil (hR _ (hS51.re ⟨rfl, rfl, rfl, trivial⟩))) ?_
                      clear hS
                      clear a
                      intro a hS
                      refine ⟨k28, Nat.lt_succ_self _, ?_⟩
                      exact ⟨wi (m1_0 + 1), g27, H, hS.re ⟨rfl, rfl, rfl, trivial⟩, hp1, hF⟩
                  · replace H := ite_f hb32 H
                    refine wp_exit ?_
                    have e := Option.some.inj H
                    exact ⟨g27, e.symm, hS.re ⟨rfl, rfl, trivial⟩, hp1, hF⟩
            · clear H
              clear hp1 hF
              clear hS
              rintro a w22 ⟨g22, hpre0, hS, hp1, hF⟩
              subst hpre0
              have H := Fl.go_nxt Hl25
              clear Hl25
              refine c_pure1 [(1, .slice A1 p1.length cap1), (5, .int .i64 (wi (m0_0 + 1)))] (fun R hR => st_val hS rfl rfl rfl (r_move hS rfl rfl) fun a52 hS52 => st_val hS52 rfl rfl rfl (r_bin hS52 rfl rfl rfl b_add) fun a53 hS53 => st_val hS53 rfl rfl rfl (r_assign hS53 rfl rfl) fun a54 hS54 => wpList_nil (hR _ (hS54.re ⟨rfl, rfl, trivial⟩))) ?_
              clear hS
              clear a
              intro a hS
              refine ⟨k16, Nat.lt_succ_self _, ?_⟩
              exact ⟨wi (m0_0 + 1), g22, H, hS.re ⟨rfl, rfl, trivial⟩, hp1, hF⟩
          · replace H := ite_f hb21 H
            refine wp_exit ?_
            have e := Option.some.inj H
            exact ⟨g15, e.symm, hS.re trivial, hF⟩
    · clear H
      clear hp1 hF
      clear hS
      rintro a w10 ⟨g10, hpre0, hS, hF⟩
      subst hpre0
      have H := Fl.go_nxt Hl13
      clear Hl13
      refine c_pure [(4, .int .i64 0)] (fun R hR => st_val hS rfl rfl rfl (r_assign hS rfl rfl) fun a55 hS55 => wpList_nil (hR _ (hS55.re ⟨rfl, trivial⟩))) ?_
      clear hS
      clear a
      intro a hS
      refine wp_ret ?_
      have e := Option.some.inj H
      subst e
      repeat (with_reducible first | refine then_ret ?_ | refine inBlock_ret ?_)
      exact c_ret1 hS Try.results94 rfl ⟨_, rfl, g10, rfl, hF⟩


end Go.Proofs.Ythmjgadmadlpkaa.Sim

namespace Go.Proofs.Ythmjgadmadlpkaa.Sim
open Go
set_option linter.unusedVariables false
set_option linter.unusedSimpArgs false

/-! ### ref24_Matrix: function 95 -/
def ref24_Matrix.l0 (p0 : Int) : Nat → (List (List Bool)) → Int → Option ((List (List Bool)))
  | 0, _, _ => none
  | k21 + 1, m0_0, m0_1 => if decide (m0_1 < p0) = true then ((mk p0 false).bind fun y29 => (idx m0_0 m0_1).bind fun x37 => ref24_Matrix.l0 p0 k21 (upd m0_0 m0_1 y29) (wi (m0_1 + 1))) else (some m0_0)
def ref24_Matrix.l1 (p1 : List api_Link) : Nat → (List (List Bool)) → Int → Option ((List (List Bool)))
  | 0, _, _ => none
  | k57 + 1, m1_0, m1_1 => if decide (m1_1 < (p1.length : Int)) = true then ((idx p1 m1_1).bind fun x63 => (idx m1_0 x63.Consumer).bind fun x65 => (idx x65 x63.Supplier).bind fun x69 => ref24_Matrix.l1 p1 k57 (upd m1_0 x63.Consumer (upd x65 x63.Supplier true)) (wi (m1_1 + 1))) else (some m1_0)
def ref24_Matrix.l4 (p0 : Int) (m2_1 : Int) (m3_1 : Int) : Nat → (List (List Bool)) → Int → Option ((List (List Bool)))
  | 0, _, _ => none
  | k134 + 1, m4_0, m4_1 => if decide (m4_1 < p0) = true then (((idx m4_0 m2_1).bind fun x145 => (idx x145 m4_1).bind fun x152 => if x152 = true then ((idx m4_0 m3_1).bind fun x159 => (idx x159 m4_1).bind fun x166 => some (upd m4_0 m3_1 (upd x159 m4_1 true))) else (some m4_0) : Option ((List (List Bool)))).bind fun v140 => ref24_Matrix.l4 p0 m2_1 m3_1 k134 v140 (wi (m4_1 + 1))) else (some m4_0)
def ref24_Matrix.l3 (p0 : Int) (m2_1 : Int) : Nat → (List (List Bool)) → Int → Option ((List (List Bool)))
  | 0, _, _ => none
  | k108 + 1, m3_0, m3_1 => if decide (m3_1 < p0) = true then (((idx m3_0 m3_1).bind fun x119 => (idx x119 m2_1).bind fun x126 => if (!x126) = true then (some m3_0) else (ref24_Matrix.l4 p0 m2_1 m3_1 FUEL m3_0 0) : Option ((List (List Bool)))).bind fun v114 => ref24_Matrix.l3 p0 m2_1 k108 v114 (wi (m3_1 + 1))) else (some m3_0)
def ref24_Matrix.l2 (p0 : Int) : Nat → (List (List Bool)) → Int → Option ((List (List Bool)))
  | 0, _, _ => none
  | k97 + 1, m2_0, m2_1 => if decide (m2_1 < p0) = true then ((ref24_Matrix.l3 p0 m2_1 FUEL m2_0 0 : Option ((List (List Bool)))).bind fun v103 => ref24_Matrix.l2 p0 k97 v103 (wi (m2_1 + 1))) else (some m2_0)
def ref24_Matrix.f (p0 : Int) (p1 : List api_Link) : Option ((List (List Bool))) := (mk p0 ([] : List Bool)).bind fun y3 => (ref24_Matrix.l0 p0 FUEL y3 0 : Option ((List (List Bool)))).bind fun v15 => (ref24_Matrix.l1 p1 FUEL v15 0 : Option ((List (List Bool)))).bind fun v52 => (ref24_Matrix.l2 p0 FUEL v52 0 : Option ((List (List Bool)))).bind fun v92 => some v92
set_option maxRecDepth 100000 in
set_option maxHeartbeats 4000000 in
theorem ref24_Matrix.calls {p0 : Int} {p1 : List api_Link} {A1 : Option Addr} {cap1 : Nat} {C1 : Nat → Prop} {w : World} {g : Nat → Nat} {out : (List (List Bool))} (N : Nat) (r0 : Nat) (hp1 : RdS kd_api_Link w g C1 A1 cap1 p1) (hC1 : ∀ c, C1 c → c < N) (hr0 : r0 + 2 ≤ N) (H : ref24_Matrix.f p0 p1 = some out) :
    Calls Try.prog 95 #[.int .i64 p0, .slice A1 p1.length cap1] w (fun e w' => ∃ v, e = .returned v ∧ ∃ (g' : Nat → Nat) (A_r0 : Option Addr) (cap_r0 : Nat), v = .slice A_r0 out.length cap_r0 ∧ OwS (kslice kbool (by decide)) 74 w' g' r0 A_r0 cap_r0 out ∧ Fr (fun q => (r0 ≤ q ∧ q < r0 + 2) ∨ N ≤ q) w g w' g') := by
  unfold ref24_Matrix.f at H
  refine calls_enter Try.func95 rfl Try.ntmps95 rfl (fun a hS => ?_)
  replace hS : Sl 80 a [(0, .int .i64 p0), (1, .slice A1 p1.length cap1)] := hS
  have hF : Fr (fun q => (r0 ≤ q ∧ q < r0 + 2) ∨ N ≤ q) w g w g := Fr.refl _ _ _
  refine c_pure [(0, .int .i64 p0), (1, .slice A1 p1.length cap1)] (fun R hR => st_val hS rfl rfl rfl (r_assign hS rfl rfl) fun a1 hS1 => wpList_nil (hR _ (hS1.re ⟨rfl, rfl, trivial⟩))) ?_
  clear hS
  clear a
  intro a hS
  obtain ⟨y3, hy4, H⟩ := bind_el H
  refine c_region (fun K hK => ?_)
  refine st_val hS rfl rfl rfl (r_move hS rfl rfl) fun a2 hS2 => ?_
  refine st_eff hS2 rfl rfl rfl (e_makeM kbool (e := 74) (sz := 1) (by_ := 24) (E := 4) (N + 0) g hS2 rfl rfl (by kernel_rfl) (by kernel_rfl) rfl rfl hy4) ?_
  rintro _ a10 w11 g11 ⟨⟨A5, cap6, hs7, rfl, h8⟩, F11⟩ hS10
  replace hp1 := RdS.fr hp1 F11 (by decide) (fun _ _ h => h)
  replace hF := hF.trans F11 (fun _ h => h.elim)
  refine st_val hS10 rfl rfl rfl (r_assign hS10 rfl rfl) fun a12 hS12 => wpList_nil (hK _ _ ?_)
  replace hS : Sl 80 _ [(0, .int .i64 p0), (1, .slice A1 p1.length cap1), (5, .slice A5 y3.length cap6)] := hS12.re ⟨rfl, rfl, rfl, trivial⟩
  clear hK K
  try clear hS2 hS10 hS12
  obtain ⟨a, ha⟩ : ∃ a', a' = a12 := ⟨_, rfl⟩
  rw [← ha] at hS ⊢; clear ha
  obtain ⟨v15, H, Hl17⟩ := bind_el H
  refine c_cut (fun a w13 => ∃ (g13 : Nat → Nat), ∃ (hs14 : List (Option Addr × Nat)), Sl 80 a [(0, .int .i64 p0), (1, .slice A1 p1.length cap1), (5, .slice A5 v15.length cap6)] ∧ OwM kbool 74 4 w13 g13 (N + 0) A5 cap6 hs14 v15 (fun _ => False) ∧ RdS kd_api_Link w13 g13 C1 A1 cap1 p1 ∧ Fr (fun q => (r0 ≤ q ∧ q < r0 + 2) ∨ N ≤ q) w g w13 g13) ?_ ?_
  · refine c_pure [(0, .int .i64 p0), (1, .slice A1 p1.length cap1), (5, .slice A5 y3.length cap6), (6, .int .i64 0)] (fun R hR => st_val hS rfl rfl rfl (r_assign hS rfl rfl) fun a18 hS18 => wpList_nil (hR _ (hS18.re ⟨rfl, rfl, rfl, rfl, trivial⟩))) ?_
    clear hS
    clear a
    intro a hS
    refine wp_block ?_
    refine wp_loop_ghost (fun kq => fun a w19 => ∃ (m0_0 : List (List Bool)), ∃ (m0_1 : Int), ∃ (g19 : Nat → Nat), ∃ (hs20 : List (Option Addr × Nat)), ref24_Matrix.l0 p0 kq m0_0 m0_1 = some v15 ∧ Sl 80 a [(0, .int .i64 p0), (1, .slice A1 p1.length cap1), (5, .slice A5 m0_0.length cap6), (6, .int .i64 m0_1)] ∧ OwM kbool 74 4 w19 g19 (N + 0) A5 cap6 hs20 m0_0 (fun _ => False) ∧ RdS kd_api_Link w19 g19 C1 A1 cap1 p1 ∧ Fr (fun q => (r0 ≤ q ∧ q < r0 + 2) ∨ N ≤ q) w g w19 g19) FUEL ?_ ?_
    · exact ⟨y3, 0, g11, hs7, H, hS.re ⟨rfl, rfl, rfl, rfl, trivial⟩, h8, hp1, hF⟩
    · clear H
      clear hp1 h8 hF
      clear hS
      rintro k21 a w19 ⟨m0_0, m0_1, g19, hs20, hpre0, hS, h8, hp1, hF⟩
      have H := hpre0
      clear hpre0
      cases k21 with
      | zero => exact absurd H (by simp [ref24_Matrix.l0])
      | succ k21 =>
        rw [ref24_Matrix.l0] at H
        refine wp_seq ?_
        refine c_pure [(0, .int .i64 p0), (1, .slice A1 p1.length cap1), (5, .slice A5 m0_0.length cap6), (6, .int .i64 m0_1), (15, .bool (decide (m0_1 < p0)))] (fun R hR => st_val hS rfl rfl rfl (r_move hS rfl rfl) fun a22 hS22 => st_val hS22 rfl rfl rfl (r_move hS22 rfl rfl) fun a23 hS23 => st_val hS23 rfl rfl rfl (r_bin hS23 rfl rfl rfl b_lss) fun a24 hS24 => wpList_nil (hR _ (hS24.re ⟨rfl, rfl, rfl, rfl, rfl, trivial⟩))) ?_
        clear hS
        clear a
        intro a hS
        refine c_cond hS rfl (fun hb25 => ?_) (fun hb25 => ?_)
        · replace H := ite_t hb25 H
          refine wp_skip ?_
          change Code.wp _ _ _ _ _
          refine wp_seq ?_
          refine wp_block ?_
          obtain ⟨y29, hy30, H⟩ := bind_el H
          obtain ⟨x37, hx38, H⟩ := bind_el H
          refine c_region1 (fun K hK => ?_)
          refine st_val hS rfl rfl rfl (r_move hS rfl rfl) fun a26 hS26 => st_val hS26 rfl rfl rfl (r_move hS26 rfl rfl) fun a27 hS27 => st_val hS27 rfl rfl rfl (r_move hS27 rfl rfl) fun a28 hS28 => ?_
          refine st_eff hS28 rfl rfl rfl (e_make (e := 4) (sz := 1) (by_ := 1) (z := [.bool false]) (kd := kbool) (N + 3) g19 hS28 rfl rfl (by kernel_rfl) (by kernel_rfl) rfl rfl rfl (fun _ _ _ => by exact rfl) hy30) ?_
          rintro _ a35 w36 g36 ⟨⟨A31, cap32, rfl, h33⟩, F36⟩ hS35
          replace h8 := OwM.fr h8 F36 (fun h => h) (fun h => h) (fun h => h)
          replace hp1 := RdS.fr hp1 F36 (by decide) (fun _ _ h => h)
          replace hF := hF.trans F36 (fun _ h => h.elim)
          obtain ⟨h39, hh40⟩ := OwM.hd h8 hx38
          refine st_val hS35 rfl rfl rfl (r_index (e := 74) (sz := 1) (by_ := 24) hS35 rfl rfl rfl (by kernel_rfl) (OwM.some_ h8 hx38) (idx_lo hx38) (idx_hi hx38)) fun a41 hS41 => ?_
          obtain ⟨hN43, hm44, F45⟩ := OwM.take (fun _ _ _ _ _ _ _ _ h => h) h8 hx38 hh40 (N + 5) ⟨by omega, by omega⟩
          clear h8
          replace h33 := OwS.fr h33 F45 (fun c' hc (hm : c' = N + 0 + 1) => by omega)
          replace hp1 := RdS.fr hp1 F45 (by decide) (fun q (hq : C1 q) (hm : q = N + 0 + 1) => by have := hC1 q hq; omega)
          replace hF := hF.trans F45 (fun c' (hm : c' = N + 0 + 1) => by show (r0 ≤ c' ∧ c' < r0 + 2) ∨ N ≤ c'; omega)
          refine st_effS hS41 rfl rfl (e_storeM (k := kbool) (fun _ _ _ _ _ _ _ _ h => h) (dyeA g36 h39.1 (N + 5)) hS41 rfl rfl rfl rfl (by kernel_rfl) rfl hm44 hx38 hh40 h33 ⟨by omega, by omega⟩) ?_
          rintro a46 w47 g47 ⟨hm44, F47⟩ hS46
          replace hp1 := RdS.fr hp1 F47 (by decide) (fun q (hq : C1 q) (hm : q = N + 0 ∨ q = N + 3) => by have := hC1 q hq; omega)
          replace hF := hF.trans F47 (fun c' (hm : c' = N + 0 ∨ c' = N + 3) => by show (r0 ≤ c' ∧ c' < r0 + 2) ∨ N ≤ c'; omega)
          have hT : Sl 80 a46 [(0, .int .i64 p0), (1, .slice A1 p1.length cap1), (5, .slice A5 m0_0.length cap6), (6, .int .i64 m0_1)] := hS46.re ⟨rfl, rfl, rfl, rfl, trivial⟩
          replace hS46 : Sl 80 a46 [(0, .int .i64 p0), (1, .slice A1 p1.length cap1), (5, .slice A5 (upd m0_0 m0_1 y29).length cap6), (6, .int .i64 m0_1)] := by simpa only [upd_length] using hT
          clear hT
          refine wpList_nil (hK _ _ ?_)
          replace hS : Sl 80 _ [(0, .int .i64 p0), (1, .slice A1 p1.length cap1), (5, .slice A5 (upd m0_0 m0_1 y29).length cap6), (6, .int .i64 m0_1)] := hS46.re ⟨rfl, rfl, rfl, rfl, trivial⟩
          clear hK K
          try clear hS26 hS27 hS28 hS35 hS41 hS46
          obtain ⟨a, ha⟩ : ∃ a', a' = a46 := ⟨_, rfl⟩
          rw [← ha] at hS ⊢; clear ha
          change Code.wp _ _ _ _ _
          refine c_pure1 [(0, .int .i64 p0), (1, .slice A1 p1.length cap1), (5, .slice A5 (upd m0_0 m0_1 y29).length cap6), (6, .int .i64 (wi (m0_1 + 1)))] (fun R hR => st_val hS rfl rfl rfl (r_move hS rfl rfl) fun a48 hS48 => st_val hS48 rfl rfl rfl (r_bin hS48 rfl rfl rfl b_add) fun a49 hS49 => st_val hS49 rfl rfl rfl (r_assign hS49 rfl rfl) fun a50 hS50 => wpList_nil (hR _ (hS50.re ⟨rfl, rfl, rfl, rfl, trivial⟩))) ?_
          clear hS
          clear a
          intro a hS
          refine ⟨k21, Nat.lt_succ_self _, ?_⟩
          exact ⟨(upd m0_0 m0_1 y29), wi (m0_1 + 1), g47, (upd hs20 m0_1 (A31, cap32)), H, hS.re ⟨rfl, rfl, rfl, rfl, trivial⟩, hm44, hp1, hF⟩
        · replace H := ite_f hb25 H
          refine wp_exit ?_
          have e := Option.some.inj H
          subst e
          exact ⟨g19, hs20, hS.re ⟨rfl, rfl, rfl, trivial⟩, h8, hp1, hF⟩
  · clear H
    clear hp1 h8 hF
    clear hS
    rintro a w13 ⟨g13, hs14, hS, h8, hp1, hF⟩
    have H := Hl17
    clear Hl17
    obtain ⟨v52, H, Hl54⟩ := bind_el H
    refine c_cut (fun a w51 => ∃ (g51 : Nat → Nat), Sl 80 a [(0, .int .i64 p0), (5, .slice A5 v52.length cap6)] ∧ OwM kbool 74 4 w51 g51 (N + 0) A5 cap6 hs14 v52 (fun _ => False) ∧ Fr (fun q => (r0 ≤ q ∧ q < r0 + 2) ∨ N ≤ q) w g w51 g51) ?_ ?_
    · refine c_pure [(0, .int .i64 p0), (1, .slice A1 p1.length cap1), (5, .slice A5 v15.length cap6), (7, .int .i64 0)] (fun R hR => st_val hS rfl rfl rfl (r_assign hS rfl rfl) fun a55 hS55 => wpList_nil (hR _ (hS55.re ⟨rfl, rfl, rfl, rfl, trivial⟩))) ?_
      clear hS
      clear a
      intro a hS
      refine wp_block ?_
      refine wp_loop_ghost (fun kq => fun a w56 => ∃ (m1_0 : List (List Bool)), ∃ (m1_1 : Int), ∃ (g56 : Nat → Nat), ref24_Matrix.l1 p1 kq m1_0 m1_1 = some v52 ∧ Sl 80 a [(0, .int .i64 p0), (1, .slice A1 p1.length cap1), (5, .slice A5 m1_0.length cap6), (7, .int .i64 m1_1)] ∧ OwM kbool 74 4 w56 g56 (N + 0) A5 cap6 hs14 m1_0 (fun _ => False) ∧ RdS kd_api_Link w56 g56 C1 A1 cap1 p1 ∧ Fr (fun q => (r0 ≤ q ∧ q < r0 + 2) ∨ N ≤ q) w g w56 g56) FUEL ?_ ?_
      · exact ⟨v15, 0, g13, H, hS.re ⟨rfl, rfl, rfl, rfl, trivial⟩, h8, hp1, hF⟩
      · clear H
        clear hp1 h8 hF
        clear hS
        rintro k57 a w56 ⟨m1_0, m1_1, g56, hpre0, hS, h8, hp1, hF⟩
        have H := hpre0
        clear hpre0
        cases k57 with
        | zero => exact absurd H (by simp [ref24_Matrix.l1])
        | succ k57 =>
          rw [ref24_Matrix.l1] at H
          refine wp_seq ?_
          refine c_pure [(0, .int .i64 p0), (1, .slice A1 p1.length cap1), (5, .slice A5 m1_0.length cap6), (7, .int .i64 m1_1), (26, .bool (decide (m1_1 < (p1.length : Int))))] (fun R hR => st_val hS rfl rfl rfl (r_move hS rfl rfl) fun a58 hS58 => st_val hS58 rfl rfl rfl (r_move hS58 rfl rfl) fun a59 hS59 => st_val hS59 rfl rfl rfl (r_len (e := 43) (sz := 2) (by_ := 16) hS59 rfl rfl (by kernel_rfl)) fun a60 hS60 => st_val hS60 rfl rfl rfl (r_bin hS60 rfl rfl rfl b_lss) fun a61 hS61 => wpList_nil (hR _ (hS61.re ⟨rfl, rfl, rfl, rfl, rfl, trivial⟩))) ?_
          clear hS
          clear a
          intro a hS
          refine c_cond hS rfl (fun hb62 => ?_) (fun hb62 => ?_)
          · replace H := ite_t hb62 H
            refine wp_skip ?_
            change Code.wp _ _ _ _ _
            refine wp_seq ?_
            refine wp_block ?_
            obtain ⟨x63, hx64, H⟩ := bind_el H
            obtain ⟨x65, hx66, H⟩ := bind_el H
            obtain ⟨h67, hh68⟩ := OwM.hd h8 hx66
            obtain ⟨x69, hx70, H⟩ := bind_el H
            refine c_draw1 (fun K hK => d_start (fun q => False) g56 [14] 15 #[false, false, false, false, false, false, false, false, false, false, false, false, false, false, false] (by kernel_rfl) rfl rfl (fun w71 hw71 => ?_))
            have F71 : Fr (fun _ => False) w56 g56 w71 g56 := by rw [hw71]; exact Fr.drew _ _ _
            replace h8 := OwM.fr h8 F71 (fun h => h) (fun h => h) (fun h => h)
            replace hp1 := RdS.fr hp1 F71 (by decide) (fun _ _ h => h)
            replace hF := hF.trans F71 (fun _ h => h.elim)
            have hC : Fr (fun q => False) w71 g56 w71 g56 := Fr.refl _ _ _
            refine d_pure hS 0 #[true, false, false, false, false, false, false, false, false, false, false, false, false, false, false] rfl rfl rfl rfl (by kernel_rfl) (fun _ _ _ h => h) (fun _ => (r_move hS rfl rfl)) fun a72 hS72 => d_pure hS72 1 #[true, true, false, false, false, false, false, false, false, false, false, false, false, false, false] rfl rfl rfl rfl (by kernel_rfl) (fun _ _ _ h => h) (fun _ => (r_move hS72 rfl rfl)) fun a73 hS73 => d_pure hS73 2 #[true, true, true, false, false, false, false, false, false, false, false, false, false, false, false] rfl rfl rfl rfl (by kernel_rfl) (fun _ _ _ h => h) (fun _ => (r_move hS73 rfl rfl)) fun a74 hS74 => d_pure hS74 3 #[true, true, true, true, false, false, false, false, false, false, false, false, false, false, false] rfl rfl rfl rfl (by kernel_rfl) (fun _ _ _ h => h) (fun _ => (r_index (e := 43) (sz := 2) (by_ := 16) hS74 rfl rfl rfl (by kernel_rfl) (RdS.some_ hp1 hx64) (idx_lo hx64) (idx_hi hx64))) fun a75 hS75 => d_pure hS75 4 #[true, true, true, true, true, false, false, false, false, false, false, false, false, false, false] rfl rfl rfl rfl (by kernel_rfl) (fun _ _ _ h => h) (fun _ => (r_fieldE (off := 0) hS75 rfl rfl (by kernel_rfl))) fun a76 hS76 => d_take hS76 5 #[true, true, true, true, true, true, false, false, false, false, false, false, false, false, false] rfl rfl rfl rfl (by kernel_rfl) (fun _ _ _ h => h) ⟨_, hC⟩ (fun w' g' Fz => (r_load1 (n := 1) hS76 rfl rfl (by kernel_rfl) (RdS.cell (i := m1_1) (sz := 2) (j := 0) (RdS.fr hp1 Fz (by decide) (fun _ _ h => h)) hx64 rfl))) fun a77 hS77 => d_pure hS77 6 #[true, true, true, true, true, true, true, false, false, false, false, false, false, false, false] rfl rfl rfl rfl (by kernel_rfl) (fun _ _ _ h => h) (fun _ => (r_index (e := 74) (sz := 1) (by_ := 24) hS77 rfl rfl rfl (by kernel_rfl) (OwM.some_ h8 hx66) (idx_lo hx66) (idx_hi hx66))) fun a78 hS78 => d_take hS78 7 #[true, true, true, true, true, true, true, true, false, false, false, false, false, false, false] rfl rfl rfl rfl (by kernel_rfl) (fun _ _ _ h => h) ⟨_, hC⟩ (fun w' g' Fz => (r_load1 (n := 1) hS78 rfl rfl (by kernel_rfl) (OwM.cell (OwM.fr h8 Fz (fun h => h) (fun h => h) (fun h => h)) hx66 hh68))) fun a79 hS79 => d_pure hS79 8 #[true, true, true, true, true, true, true, true, true, false, false, false, false, false, false] rfl rfl rfl rfl (by kernel_rfl) (fun _ _ _ h => h) (fun _ => (r_move hS79 rfl rfl)) fun a80 hS80 => d_pure hS80 9 #[true, true, true, true, true, true, true, true, true, true, false, false, false, false, false] rfl rfl rfl rfl (by kernel_rfl) (fun _ _ _ h => h) (fun _ => (r_move hS80 rfl rfl)) fun a81 hS81 => d_pure hS81 10 #[true, true, true, true, true, true, true, true, true, true, true, false, false, false, false] rfl rfl rfl rfl (by kernel_rfl) (fun _ _ _ h => h) (fun _ => (r_index (e := 43) (sz := 2) (by_ := 16) hS81 rfl rfl rfl (by kernel_rfl) (RdS.some_ hp1 hx64) (idx_lo hx64) (idx_hi hx64))) fun a82 hS82 => d_pure hS82 11 #[true, true, true, true, true, true, true, true, true, true, true, true, false, false, false] rfl rfl rfl rfl (by kernel_rfl) (fun _ _ _ h => h) (fun _ => (r_fieldE (off := 1) hS82 rfl rfl (by kernel_rfl))) fun a83 hS83 => d_take hS83 12 #[true, true, true, true, true, true, true, true, true, true, true, true, true, false, false] rfl rfl rfl rfl (by kernel_rfl) (fun _ _ _ h => h) ⟨_, hC⟩ (fun w' g' Fz => (r_load1 (n := 1) hS83 rfl rfl (by kernel_rfl) (RdS.cell (i := m1_1) (sz := 2) (j := 1) (RdS.fr hp1 Fz (by decide) (fun _ _ h => h)) hx64 rfl))) fun a84 hS84 => d_pure hS84 13 #[true, true, true, true, true, true, true, true, true, true, true, true, true, true, false] rfl rfl rfl rfl (by kernel_rfl) (fun _ _ _ h => h) (fun _ => (r_index (e := 4) (sz := 1) (by_ := 1) hS84 rfl rfl rfl (by kernel_rfl) (RdS.some_ (OwD.rd (OwM.row h8 hx66 hh68)) hx70) (idx_lo hx70) (idx_hi hx70))) fun a85 hS85 => ?_
            refine d_one 14 #[true, true, true, true, true, true, true, true, true, true, true, true, true, true, true] rfl (by kernel_rfl) (arm_effS hS85 rfl rfl (e_storeMM (n := 1) (bb := false) (k := kbool) (y' := true) (us := [.bool true]) (fun _ _ _ _ _ _ _ _ h => h) g56 hS85 rfl rfl rfl rfl (by kernel_rfl) rfl rfl h8 hx66 hh68 hx70 (fun _ _ _ => rfl)) (.inl (by decide)) ?_)
            rintro a86 w87 g87 ⟨h8, F87⟩ hS86
            replace hp1 := RdS.fr hp1 F87 (by decide) (fun q (hq : C1 q) (hm : q = N + 0 + 1) => by have := hC1 q hq; omega)
            replace hF := hF.trans F87 (fun c' (hm : c' = N + 0 + 1) => by show (r0 ≤ c' ∧ c' < r0 + 2) ∨ N ≤ c'; omega)
            have hT : Sl 80 a86 [(0, .int .i64 p0), (1, .slice A1 p1.length cap1), (5, .slice A5 m1_0.length cap6), (7, .int .i64 m1_1)] := hS86.re ⟨rfl, rfl, rfl, rfl, trivial⟩
            replace hS86 : Sl 80 a86 [(0, .int .i64 p0), (1, .slice A1 p1.length cap1), (5, .slice A5 (upd m1_0 x63.Consumer (upd x65 x63.Supplier true)).length cap6), (7, .int .i64 m1_1)] := by simpa only [upd_length] using hT
            clear hT
            refine d_done (by kernel_rfl) (hK _ _ ?_)
            replace hS : Sl 80 _ [(0, .int .i64 p0), (1, .slice A1 p1.length cap1), (5, .slice A5 (upd m1_0 x63.Consumer (upd x65 x63.Supplier true)).length cap6), (7, .int .i64 m1_1)] := hS86.re ⟨rfl, rfl, rfl, rfl, trivial⟩
            clear hK K hC
            try clear hS72 hS73 hS74 hS75 hS76 hS77 hS78 hS79 hS80 hS81 hS82 hS83 hS84 hS85 hS86
            obtain ⟨a, ha⟩ : ∃ a', a' = a86 := ⟨_, rfl⟩
            rw [← ha] at hS ⊢; clear ha
            change Code.wp _ _ _ _ _
            refine c_pure1 [(0, .int .i64 p0), (1, .slice A1 p1.length cap1), (5, .slice A5 (upd m1_0 x63.Consumer (upd x65 x63.Supplier true)).length cap6), (7, .int .i64 (wi (m1_1 + 1)))] (fun R hR => st_val hS rfl rfl rfl (r_move hS rfl rfl) fun a88 hS88 => st_val hS88 rfl rfl rfl (r_bin hS88 rfl rfl rfl b_add) fun a89 hS89 => st_val hS89 rfl rfl rfl (r_assign hS89 rfl rfl) fun a90 hS90 => wpList_nil (hR _ (hS90.re ⟨rfl, rfl, rfl, rfl, trivial⟩))) ?_
            clear hS
            clear a
            intro a hS
            refine ⟨k57, Nat.lt_succ_self _, ?_⟩
            exact ⟨(upd m1_0 x63.Consumer (upd x65 x63.Supplier true)), wi (m1_1 + 1), g87, H, hS.re ⟨rfl, rfl, rfl, rfl, trivial⟩, h8, hp1, hF⟩
          · replace H := ite_f hb62 H
            refine wp_exit ?_
            have e := Option.some.inj H
            subst e
            exact ⟨g56, hS.re ⟨rfl, rfl, trivial⟩, h8, hF⟩
    · clear H
      clear hp1 h8 hF
      clear hS
      rintro a w51 ⟨g51, hS, h8, hF⟩
      have H := Hl54
      clear Hl54
      obtain ⟨v92, H, Hl94⟩ := bind_el H
      refine c_cut (fun a w91 => ∃ (g91 : Nat → Nat), Sl 80 a [(5, .slice A5 v92.length cap6)] ∧ OwM kbool 74 4 w91 g91 (N + 0) A5 cap6 hs14 v92 (fun _ => False) ∧ Fr (fun q => (r0 ≤ q ∧ q < r0 + 2) ∨ N ≤ q) w g w91 g91) ?_ ?_
      · refine c_pure [(0, .int .i64 p0), (5, .slice A5 v52.length cap6), (8, .int .i64 0)] (fun R hR => st_val hS rfl rfl rfl (r_assign hS rfl rfl) fun a95 hS95 => wpList_nil (hR _ (hS95.re ⟨rfl, rfl, rfl, trivial⟩))) ?_
        clear hS
        clear a
        intro a hS
        refine wp_block ?_
        refine wp_loop_ghost (fun kq => fun a w96 => ∃ (m2_0 : List (List Bool)), ∃ (m2_1 : Int), ∃ (g96 : Nat → Nat), ref24_Matrix.l2 p0 kq m2_0 m2_1 = some v92 ∧ Sl 80 a [(0, .int .i64 p0), (5, .slice A5 m2_0.length cap6), (8, .int .i64 m2_1)] ∧ OwM kbool 74 4 w96 g96 (N + 0) A5 cap6 hs14 m2_0 (fun _ => False) ∧ Fr (fun q => (r0 ≤ q ∧ q < r0 + 2) ∨ N ≤ q) w g w96 g96) FUEL ?_ ?_
        · exact ⟨v52, 0, g51, H, hS.re ⟨rfl, rfl, rfl, trivial⟩, h8, hF⟩
        · clear H
          clear h8 hF
          clear hS
          rintro k97 a w96 ⟨m2_0, m2_1, g96, hpre0, hS, h8, hF⟩
          have H := hpre0
          clear hpre0
          cases k97 with
          | zero => exact absurd H (by simp [ref24_Matrix.l2])
          | succ k97 =>
            rw [ref24_Matrix.l2] at H
            refine wp_seq ?_
            refine c_pure [(0, .int .i64 p0), (5, .slice A5 m2_0.length cap6), (8, .int .i64 m2_1), (45, .bool (decide (m2_1 < p0)))] (fun R hR => st_val hS rfl rfl rfl (r_move hS rfl rfl) fun a98 hS98 => st_val hS98 rfl rfl rfl (r_move hS98 rfl rfl) fun a99 hS99 => st_val hS99 rfl rfl rfl (r_bin hS99 rfl rfl rfl b_lss) fun a100 hS100 => wpList_nil (hR _ (hS100.re ⟨rfl, rfl, rfl, rfl, trivial⟩))) ?_
            clear hS
            clear a
            intro a hS
            refine c_cond hS rfl (fun hb101 => ?_) (fun hb101 => ?_)
            · replace H := ite_t hb101 H
              refine wp_skip ?_
              change Code.wp _ _ _ _ _
              obtain ⟨v103, H, Hl105⟩ := bind_el H
              refine c_cut (fun a w102 => ∃ (g102 : Nat → Nat), Sl 80 a [(0, .int .i64 p0), (5, .slice A5 v103.length cap6), (8, .int .i64 m2_1)] ∧ OwM kbool 74 4 w102 g102 (N + 0) A5 cap6 hs14 v103 (fun _ => False) ∧ Fr (fun q => (r0 ≤ q ∧ q < r0 + 2) ∨ N ≤ q) w g w102 g102) ?_ ?_
              · refine wp_block ?_
                refine c_pure [(0, .int .i64 p0), (5, .slice A5 m2_0.length cap6), (8, .int .i64 m2_1), (9, .int .i64 0)] (fun R hR => st_val hS rfl rfl rfl (r_assign hS rfl rfl) fun a106 hS106 => wpList_nil (hR _ (hS106.re ⟨rfl, rfl, rfl, rfl, trivial⟩))) ?_
                clear hS
                clear a
                intro a hS
                refine wp_block ?_
                refine wp_loop_ghost (fun kq => fun a w107 => ∃ (m3_0 : List (List Bool)), ∃ (m3_1 : Int), ∃ (g107 : Nat → Nat), ref24_Matrix.l3 p0 m2_1 kq m3_0 m3_1 = some v103 ∧ Sl 80 a [(0, .int .i64 p0), (5, .slice A5 m3_0.length cap6), (8, .int .i64 m2_1), (9, .int .i64 m3_1)] ∧ OwM kbool 74 4 w107 g107 (N + 0) A5 cap6 hs14 m3_0 (fun _ => False) ∧ Fr (fun q => (r0 ≤ q ∧ q < r0 + 2) ∨ N ≤ q) w g w107 g107) FUEL ?_ ?_
                · exact ⟨m2_0, 0, g96, H, hS.re ⟨rfl, rfl, rfl, rfl, trivial⟩, h8, hF⟩
                · clear H
                  clear h8 hF
                  clear hS
                  rintro k108 a w107 ⟨m3_0, m3_1, g107, hpre0, hS, h8, hF⟩
                  have H := hpre0
                  clear hpre0
                  cases k108 with
                  | zero => exact absurd H (by simp [ref24_Matrix.l3])
                  | succ k108 =>
                    rw [ref24_Matrix.l3] at H
                    refine wp_seq ?_
                    refine c_pure [(0, .int .i64 p0), (5, .slice A5 m3_0.length cap6), (8, .int .i64 m2_1), (9, .int .i64 m3_1), (50, .bool (decide (m3_1 < p0)))] (fun R hR => st_val hS rfl rfl rfl (r_move hS rfl rfl) fun a109 hS109 => st_val hS109 rfl rfl rfl (r_move hS109 rfl rfl) fun a110 hS110 => st_val hS110 rfl rfl rfl (r_bin hS110 rfl rfl rfl b_lss) fun a111 hS111 => wpList_nil (hR _ (hS111.re ⟨rfl, rfl, rfl, rfl, rfl, trivial⟩))) ?_
                    clear hS
                    clear a
                    intro a hS
                    refine c_cond hS rfl (fun hb112 => ?_) (fun hb112 => ?_)
                    · replace H := ite_t hb112 H
                      refine wp_skip ?_
                      change Code.wp _ _ _ _ _
                      obtain ⟨v114, H, Hl116⟩ := bind_el H
                      refine c_cut (fun a w113 => ∃ (g113 : Nat → Nat), Sl 80 a [(0, .int .i64 p0), (5, .slice A5 v114.length cap6), (8, .int .i64 m2_1), (9, .int .i64 m3_1)] ∧ OwM kbool 74 4 w113 g113 (N + 0) A5 cap6 hs14 v114 (fun _ => False) ∧ Fr (fun q => (r0 ≤ q ∧ q < r0 + 2) ∨ N ≤ q) w g w113 g113) ?_ ?_
                      · refine wp_block ?_
                        refine wp_seq ?_
                        obtain ⟨x119, hx120, H⟩ := bind_el H
                        obtain ⟨x126, hx127, H⟩ := bind_el H
                        refine c_region (fun K hK => ?_)
                        refine st_val hS rfl rfl rfl (r_move hS rfl rfl) fun a117 hS117 => st_val hS117 rfl rfl rfl (r_move hS117 rfl rfl) fun a118 hS118 => ?_
                        obtain ⟨h121, hh122⟩ := OwM.hd h8 hx120
                        refine st_val hS118 rfl rfl rfl (r_index (e := 74) (sz := 1) (by_ := 24) hS118 rfl rfl rfl (by kernel_rfl) (OwM.some_ h8 hx120) (idx_lo hx120) (idx_hi hx120)) fun a123 hS123 => st_val hS123 rfl rfl rfl (r_load1 (n := 1) hS123 rfl rfl (by kernel_rfl) (OwM.cell h8 hx120 hh122)) fun a124 hS124 => st_val hS124 rfl rfl rfl (r_move hS124 rfl rfl) fun a125 hS125 => st_val hS125 rfl rfl rfl (r_index (e := 4) (sz := 1) (by_ := 1) hS125 rfl rfl rfl (by kernel_rfl) (RdS.some_ (OwD.rd (OwM.row h8 hx120 hh122)) hx127) (idx_lo hx127) (idx_hi hx127)) fun a128 hS128 => st_val hS128 rfl rfl rfl (r_load1 (n := 1) hS128 rfl rfl (by kernel_rfl) (RdS.cell (i := m2_1) (sz := 1) (j := 0) (OwD.rd (OwM.row h8 hx120 hh122)) hx127 rfl)) fun a129 hS129 => st_val hS129 rfl rfl rfl (r_not hS129 rfl rfl) fun a130 hS130 => wpList_nil (hK _ _ ?_)
                        replace hS : Sl 80 _ [(0, .int .i64 p0), (5, .slice A5 m3_0.length cap6), (8, .int .i64 m2_1), (9, .int .i64 m3_1), (60, .bool (!x126))] := hS130.re ⟨rfl, rfl, rfl, rfl, rfl, trivial⟩
                        clear hK K
                        try clear hS117 hS118 hS123 hS124 hS125 hS128 hS129 hS130
                        obtain ⟨a, ha⟩ : ∃ a', a' = a130 := ⟨_, rfl⟩
                        rw [← ha] at hS ⊢; clear ha
                        refine c_cond hS rfl (fun hb131 => ?_) (fun hb131 => ?_)
                        · replace H := ite_t hb131 H
                          refine wp_exit ?_
                          have e := Option.some.inj H
                          subst e
                          exact ⟨g107, hS.re ⟨rfl, rfl, rfl, rfl, trivial⟩, h8, hF⟩
                        · replace H := ite_f hb131 H
                          refine wp_skip ?_
                          change Code.wp _ _ _ _ _
                          refine c_pure [(0, .int .i64 p0), (5, .slice A5 m3_0.length cap6), (8, .int .i64 m2_1), (9, .int .i64 m3_1), (10, .int .i64 0)] (fun R hR => st_val hS rfl rfl rfl (r_assign hS rfl rfl) fun a132 hS132 => wpList_nil (hR _ (hS132.re ⟨rfl, rfl, rfl, rfl, rfl, trivial⟩))) ?_
                          clear hS
                          clear a
                          intro a hS
                          refine wp_block ?_
                          refine wp_loop_ghost (fun kq => fun a w133 => ∃ (m4_0 : List (List Bool)), ∃ (m4_1 : Int), ∃ (g133 : Nat → Nat), ref24_Matrix.l4 p0 m2_1 m3_1 kq m4_0 m4_1 = some v114 ∧ Sl 80 a [(0, .int .i64 p0), (5, .slice A5 m4_0.length cap6), (8, .int .i64 m2_1), (9, .int .i64 m3_1), (10, .int .i64 m4_1)] ∧ OwM kbool 74 4 w133 g133 (N + 0) A5 cap6 hs14 m4_0 (fun _ => False) ∧ Fr (fun q => (r0 ≤ q ∧ q < r0 + 2) ∨ N ≤ q) w g w133 g133) FUEL ?_ ?_
                          · exact ⟨m3_0, 0, g107, H, hS.re ⟨rfl, rfl, rfl, rfl, rfl, trivial⟩, h8, hF⟩
                          · clear H
                            clear h8 hF
                            clear hS
                            rintro k134 a w133 ⟨m4_0, m4_1, g133, hpre0, hS, h8, hF⟩
                            have H := hpre0
                            clear hpre0
                            cases k134 with
                            | zero => exact absurd H (by simp [ref24_Matrix.l4])
                            | succ k134 =>
                              rw [ref24_Matrix.l4] at H
                              refine wp_seq ?_
                              refine c_pure [(0, .int .i64 p0), (5, .slice A5 m4_0.length cap6), (8, .int .i64 m2_1), (9, .int .i64 m3_1), (10, .int .i64 m4_1), (63, .bool (decide (m4_1 < p0)))] (fun R hR => st_val hS rfl rfl rfl (r_move hS rfl rfl) fun a135 hS135 => st_val hS135 rfl rfl rfl (r_move hS135 rfl rfl) fun a136 hS136 => st_val hS136 rfl rfl rfl (r_bin hS136 rfl rfl rfl b_lss) fun a137 hS137 => wpList_nil (hR _ (hS137.re ⟨rfl, rfl, rfl, rfl, rfl, rfl, trivial⟩))) ?_
                              clear hS
                              clear a
                              intro a hS
                              refine c_cond hS rfl (fun hb138 => ?_) (fun hb138 => ?_)
                              · replace H := ite_t hb138 H
                                refine wp_skip ?_
                                change Code.wp _ _ _ _ _
                                obtain ⟨v140, H, Hl142⟩ := bind_el H
                                refine c_cut (fun a w139 => ∃ (g139 : Nat → Nat), Sl 80 a [(0, .int .i64 p0), (5, .slice A5 v140.length cap6), (8, .int .i64 m2_1), (9, .int .i64 m3_1), (10, .int .i64 m4_1)] ∧ OwM kbool 74 4 w139 g139 (N + 0) A5 cap6 hs14 v140 (fun _ => False) ∧ Fr (fun q => (r0 ≤ q ∧ q < r0 + 2) ∨ N ≤ q) w g w139 g139) ?_ ?_
                                · refine wp_block ?_
                                  obtain ⟨x145, hx146, H⟩ := bind_el H
                                  obtain ⟨x152, hx153, H⟩ := bind_el H
                                  refine c_region (fun K hK => ?_)
                                  refine st_val hS rfl rfl rfl (r_move hS rfl rfl) fun a143 hS143 => st_val hS143 rfl rfl rfl (r_move hS143 rfl rfl) fun a144 hS144 => ?_
                                  obtain ⟨h147, hh148⟩ := OwM.hd h8 hx146
                                  refine st_val hS144 rfl rfl rfl (r_index (e := 74) (sz := 1) (by_ := 24) hS144 rfl rfl rfl (by kernel_rfl) (OwM.some_ h8 hx146) (idx_lo hx146) (idx_hi hx146)) fun a149 hS149 => st_val hS149 rfl rfl rfl (r_load1 (n := 1) hS149 rfl rfl (by kernel_rfl) (OwM.cell h8 hx146 hh148)) fun a150 hS150 => st_val hS150 rfl rfl rfl (r_move hS150 rfl rfl) fun a151 hS151 => st_val hS151 rfl rfl rfl (r_index (e := 4) (sz := 1) (by_ := 1) hS151 rfl rfl rfl (by kernel_rfl) (RdS.some_ (OwD.rd (OwM.row h8 hx146 hh148)) hx153) (idx_lo hx153) (idx_hi hx153)) fun a154 hS154 => st_val hS154 rfl rfl rfl (r_load1 (n := 1) hS154 rfl rfl (by kernel_rfl) (RdS.cell (i := m4_1) (sz := 1) (j := 0) (OwD.rd (OwM.row h8 hx146 hh148)) hx153 rfl)) fun a155 hS155 => wpList_nil (hK _ _ ?_)
                                  replace hS : Sl 80 _ [(0, .int .i64 p0), (5, .slice A5 m4_0.length cap6), (8, .int .i64 m2_1), (9, .int .i64 m3_1), (10, .int .i64 m4_1), (72, .bool x152)] := hS155.re ⟨rfl, rfl, rfl, rfl, rfl, rfl, trivial⟩
                                  clear hK K
                                  try clear hS143 hS144 hS149 hS150 hS151 hS154 hS155
                                  obtain ⟨a, ha⟩ : ∃ a', a' = a155 := ⟨_, rfl⟩
                                  rw [← ha] at hS ⊢; clear ha
                                  refine c_cond hS rfl (fun hb156 => ?_) (fun hb156 => ?_)
                                  · replace H := ite_t hb156 H
                                    obtain ⟨x159, hx160, H⟩ := bind_el H
                                    obtain ⟨x166, hx167, H⟩ := bind_el H
                                    refine c_region1 (fun K hK => ?_)
                                    refine st_val hS rfl rfl rfl (r_move hS rfl rfl) fun a157 hS157 => st_val hS157 rfl rfl rfl (r_move hS157 rfl rfl) fun a158 hS158 => ?_
                                    obtain ⟨h161, hh162⟩ := OwM.hd h8 hx160
                                    refine st_val hS158 rfl rfl rfl (r_index (e := 74) (sz := 1) (by_ := 24) hS158 rfl rfl rfl (by kernel_rfl) (OwM.some_ h8 hx160) (idx_lo hx160) (idx_hi hx160)) fun a163 hS163 => st_val hS163 rfl rfl rfl (r_load1 (n := 1) hS163 rfl rfl (by kernel_rfl) (OwM.cell h8 hx160 hh162)) fun a164 hS164 => st_val hS164 rfl rfl rfl (r_move hS164 rfl rfl) fun a165 hS165 => st_val hS165 rfl rfl rfl (r_index (e := 4) (sz := 1) (by_ := 1) hS165 rfl rfl rfl (by kernel_rfl) (RdS.some_ (OwD.rd (OwM.row h8 hx160 hh162)) hx167) (idx_lo hx167) (idx_hi hx167)) fun a168 hS168 => ?_
                                    refine st_effS hS168 rfl rfl (e_storeMM (n := 1) (bb := false) (k := kbool) (y' := true) (us := [.bool true]) (fun _ _ _ _ _ _ _ _ h => h) g133 hS168 rfl rfl rfl rfl (by kernel_rfl) rfl rfl h8 hx160 hh162 hx167 (fun _ _ _ => rfl)) ?_
                                    rintro a169 w170 g170 ⟨h8, F170⟩ hS169
                                    replace hF := hF.trans F170 (fun c' (hm : c' = N + 0 + 1) => by show (r0 ≤ c' ∧ c' < r0 + 2) ∨ N ≤ c'; omega)
                                    have hT : Sl 80 a169 [(0, .int .i64 p0), (5, .slice A5 m4_0.length cap6), (8, .int .i64 m2_1), (9, .int .i64 m3_1), (10, .int .i64 m4_1)] := hS169.re ⟨rfl, rfl, rfl, rfl, rfl, trivial⟩
                                    replace hS169 : Sl 80 a169 [(0, .int .i64 p0), (5, .slice A5 (upd m4_0 m3_1 (upd x159 m4_1 true)).length cap6), (8, .int .i64 m2_1), (9, .int .i64 m3_1), (10, .int .i64 m4_1)] := by simpa only [upd_length] using hT
                                    clear hT
                                    refine wpList_nil (hK _ _ ?_)
                                    replace hS : Sl 80 _ [(0, .int .i64 p0), (5, .slice A5 (upd m4_0 m3_1 (upd x159 m4_1 true)).length cap6), (8, .int .i64 m2_1), (9, .int .i64 m3_1), (10, .int .i64 m4_1)] := hS169.re ⟨rfl, rfl, rfl, rfl, rfl, trivial⟩
                                    clear hK K
                                    try clear hS157 hS158 hS163 hS164 hS165 hS168 hS169
                                    obtain ⟨a, ha⟩ : ∃ a', a' = a169 := ⟨_, rfl⟩
                                    rw [← ha] at hS ⊢; clear ha
                                    have e := Option.some.inj H
                                    subst e
                                    exact ⟨g170, hS.re ⟨rfl, rfl, rfl, rfl, rfl, trivial⟩, h8, hF⟩
                                  · replace H := ite_f hb156 H
                                    refine wp_skip ?_
                                    have e := Option.some.inj H
                                    subst e
                                    exact ⟨g133, hS.re ⟨rfl, rfl, rfl, rfl, rfl, trivial⟩, h8, hF⟩
                                · clear H
                                  clear h8 hF
                                  clear hS
                                  rintro a w139 ⟨g139, hS, h8, hF⟩
                                  have H := Hl142
                                  clear Hl142
                                  refine c_pure1 [(0, .int .i64 p0), (5, .slice A5 v140.length cap6), (8, .int .i64 m2_1), (9, .int .i64 m3_1), (10, .int .i64 (wi (m4_1 + 1)))] (fun R hR => st_val hS rfl rfl rfl (r_move hS rfl rfl) fun a171 hS171 => st_val hS171 rfl rfl rfl (r_bin hS171 rfl rfl rfl b_add) fun a172 hS172 => st_val hS172 rfl rfl rfl (r_assign hS172 rfl rfl) fun a173 hS173 => wpList_nil (hR _ (hS173.re ⟨rfl, rfl, rfl, rfl, rfl, trivial⟩))) ?_
                                  clear hS
                                  clear a
                                  intro a hS
                                  refine ⟨k134, Nat.lt_succ_self _, ?_⟩
                                  exact ⟨v140, wi (m4_1 + 1), g139, H, hS.re ⟨rfl, rfl, rfl, rfl, rfl, trivial⟩, h8, hF⟩
                              · replace H := ite_f hb138 H
                                refine wp_exit ?_
                                have e := Option.some.inj H
                                subst e
                                exact ⟨g133, hS.re ⟨rfl, rfl, rfl, rfl, trivial⟩, h8, hF⟩
                      · clear H
                        clear h8 hF
                        clear hS
                        rintro a w113 ⟨g113, hS, h8, hF⟩
                        have H := Hl116
                        clear Hl116
                        refine c_pure1 [(0, .int .i64 p0), (5, .slice A5 v114.length cap6), (8, .int .i64 m2_1), (9, .int .i64 (wi (m3_1 + 1)))] (fun R hR => st_val hS rfl rfl rfl (r_move hS rfl rfl) fun a174 hS174 => st_val hS174 rfl rfl rfl (r_bin hS174 rfl rfl rfl b_add) fun a175 hS175 => st_val hS175 rfl rfl rfl (r_assign hS175 rfl rfl) fun a176 hS176 => wpList_nil (hR _ (hS176.re ⟨rfl, rfl, rfl, rfl, trivial⟩))) ?_
                        clear hS
                        clear a
                        intro a hS
                        refine ⟨k108, Nat.lt_succ_self _, ?_⟩
                        exact ⟨v114, wi (m3_1 + 1), g113, H, hS.re ⟨rfl, rfl, rfl, rfl, trivial⟩, h8, hF⟩
                    · replace H := ite_f hb112 H
                      refine wp_exit ?_
                      have e := Option.some.inj H
                      subst e
                      exact ⟨g107, hS.re ⟨rfl, rfl, rfl, trivial⟩, h8, hF⟩
              · clear H
                clear h8 hF
                clear hS
                rintro a w102 ⟨g102, hS, h8, hF⟩
                have H := Hl105
                clear Hl105
                refine c_pure1 [(0, .int .i64 p0), (5, .slice A5 v103.length cap6), (8, .int .i64 (wi (m2_1 + 1)))] (fun R hR => st_val hS rfl rfl rfl (r_move hS rfl rfl) fun a177 hS177 => st_val hS177 rfl rfl rfl (r_bin hS177 rfl rfl rfl b_add) fun a178 hS178 => st_val hS178 rfl rfl rfl (r_assign hS178 rfl rfl) fun a179 hS179 => wpList_nil (hR _ (hS179.re ⟨rfl, rfl, rfl, trivial⟩))) ?_
                clear hS
                clear a
                intro a hS
                refine ⟨k97, Nat.lt_succ_self _, ?_⟩
                exact ⟨v103, wi (m2_1 + 1), g102, H, hS.re ⟨rfl, rfl, rfl, trivial⟩, h8, hF⟩
            · replace H := ite_f hb101 H
              refine wp_exit ?_
              have e := Option.some.inj H
              subst e
              exact ⟨g96, hS.re ⟨rfl, trivial⟩, h8, hF⟩
      · clear H
        clear h8 hF
        clear hS
        rintro a w91 ⟨g91, hS, h8, hF⟩
        have H := Hl94
        clear Hl94
        refine c_pure [(4, .slice A5 v92.length cap6)] (fun R hR => st_val hS rfl rfl rfl (r_move hS rfl rfl) fun a180 hS180 => st_val hS180 rfl rfl rfl (r_assign hS180 rfl rfl) fun a181 hS181 => wpList_nil (hR _ (hS181.re ⟨rfl, trivial⟩))) ?_
        clear hS
        clear a
        intro a hS
        refine wp_ret ?_
        have e := Option.some.inj H
        subst e
        have h182 := OwM.toS (fun _ _ _ _ _ _ _ _ h => h) (by decide) h8
        have F183 := Fr.recol2 w91 g91 (N + 0) r0
        replace h182 := h182.recol2 r0
        replace hF := hF.trans F183 (fun c' (hm : c' = N + 0 ∨ c' = N + 0 + 1) => by show (r0 ≤ c' ∧ c' < r0 + 2) ∨ N ≤ c'; omega)
        repeat (with_reducible first | refine then_ret ?_ | refine inBlock_ret ?_)
        exact c_ret1 hS Try.results95 rfl ⟨_, rfl, (recol2 g91 (N + 0) r0), A5, cap6, rfl, h182, hF⟩


end Go.Proofs.Ythmjgadmadlpkaa.Sim

namespace Go.Proofs.Ythmjgadmadlpkaa.Sim
open Go
set_option linter.unusedVariables false
set_option linter.unusedSimpArgs false

/-! ### ref24_Check: function 75 -/
def ref24_Check.l0 (p0 : Int) (r16 : (List (List Bool))) : Nat → Int → Option (Fl (Int) (Unit))
  | 0, _ => none
  | k29 + 1, m0_0 => if decide (m0_0 < p0) = true then ((idx r16 m0_0).bind fun x36 => (idx x36 m0_0).bind fun x47 => if x47 = true then (some (.out 18)) else (ref24_Check.l0 p0 r16 k29 (wi (m0_0 + 1)))) else (some (.nxt ()))
def ref24_Check.f (p0 : Int) (p1 : List api_Link) : Option (Int) := (ref24_Basic.f p0 p1).bind fun r4 => if (r4 != 0) = true then (some r4) else ((ref24_Matrix.f p0 p1).bind fun r16 => (ref24_Check.l0 p0 r16 FUEL 0 : Option (Fl (Int) (Unit))).bind fun o26 => o26.go fun _ => some 0)
set_option maxRecDepth 100000 in
set_option maxHeartbeats 4000000 in
theorem ref24_Check.calls {p0 : Int} {p1 : List api_Link} {A1 : Option Addr} {cap1 : Nat} {C1 : Nat → Prop} {w : World} {g : Nat → Nat} {out : Int} (N : Nat) (hp1 : RdS kd_api_Link w g C1 A1 cap1 p1) (hC1 : ∀ c, C1 c → c < N) (H : ref24_Check.f p0 p1 = some out) :
    Calls Try.prog 75 #[.int .i64 p0, .slice A1 p1.length cap1] w (fun e w' => ∃ v, e = .returned v ∧ ∃ (g' : Nat → Nat), v = .int .i64 out ∧ Fr (fun q => N ≤ q) w g w' g') := by
  unfold ref24_Check.f at H
  refine calls_enter Try.func75 rfl Try.ntmps75 rfl (fun a hS => ?_)
  replace hS : Sl 29 a [(0, .int .i64 p0), (1, .slice A1 p1.length cap1)] := hS
  have hF : Fr (fun q => N ≤ q) w g w g := Fr.refl _ _ _
  refine c_pure [(0, .int .i64 p0), (1, .slice A1 p1.length cap1)] (fun R hR => st_val hS rfl rfl rfl (r_assign hS rfl rfl) fun a1 hS1 => wpList_nil (hR _ (hS1.re ⟨rfl, rfl, trivial⟩))) ?_
  clear hS
  clear a
  intro a hS
  refine wp_seq ?_
  obtain ⟨r4, hr5, H⟩ := bind_el H
  refine c_region (fun K hK => ?_)
  refine st_val hS rfl rfl rfl (r_move hS rfl rfl) fun a2 hS2 => st_val hS2 rfl rfl rfl (r_move hS2 rfl rfl) fun a3 hS3 => ?_
  refine st_enter hS3 rfl rfl rfl (r_call hS3 rfl rfl (by kernel_rfl)) (ref24_Basic.calls (C1 := C1) (p0 := p0) (p1 := p1) (g := g) (N + 2)  hp1 (fun q (hq : C1 q) => by have := hC1 q hq; omega) hr5) ?_
  rintro _ a6 w7 ⟨g7, rfl, F7⟩ hS6
  replace hp1 := RdS.fr hp1 F7 (by decide) (fun q (hq : C1 q) (hm : N + 2 ≤ q) => by have := hC1 q hq; omega)
  replace hF := hF.trans F7 (fun c' (hm : N + 2 ≤ c') => by show N ≤ c'; omega)
  refine st_val hS6 rfl rfl rfl (r_assign hS6 rfl rfl) fun a8 hS8 => wpList_nil (hK _ _ ?_)
  replace hS : Sl 29 _ [(0, .int .i64 p0), (1, .slice A1 p1.length cap1), (5, .int .i64 r4)] := hS8.re ⟨rfl, rfl, rfl, trivial⟩
  clear hK K
  try clear hS2 hS3 hS6 hS8
  obtain ⟨a, ha⟩ : ∃ a', a' = a8 := ⟨_, rfl⟩
  rw [← ha] at hS ⊢; clear ha
  refine c_pure [(0, .int .i64 p0), (1, .slice A1 p1.length cap1), (5, .int .i64 r4), (12, .bool (r4 != 0))] (fun R hR => st_val hS rfl rfl rfl (r_move hS rfl rfl) fun a9 hS9 => st_val hS9 rfl rfl rfl (r_bin hS9 rfl rfl rfl b_neq) fun a10 hS10 => wpList_nil (hR _ (hS10.re ⟨rfl, rfl, rfl, rfl, trivial⟩))) ?_
  clear hS
  clear a
  intro a hS
  refine c_cond hS rfl (fun hb11 => ?_) (fun hb11 => ?_)
  · replace H := ite_t hb11 H
    refine c_pure [(4, .int .i64 r4)] (fun R hR => st_val hS rfl rfl rfl (r_move hS rfl rfl) fun a12 hS12 => st_val hS12 rfl rfl rfl (r_assign hS12 rfl rfl) fun a13 hS13 => wpList_nil (hR _ (hS13.re ⟨rfl, trivial⟩))) ?_
    clear hS
    clear a
    intro a hS
    refine wp_ret ?_
    have e := Option.some.inj H
    subst e
    repeat (with_reducible first | refine then_ret ?_ | refine inBlock_ret ?_)
    exact c_ret1 hS Try.results75 rfl ⟨_, rfl, g7, rfl, hF⟩
  · replace H := ite_f hb11 H
    refine wp_skip ?_
    change Code.wp _ _ _ _ _
    obtain ⟨r16, hr17, H⟩ := bind_el H
    refine c_region (fun K hK => ?_)
    refine st_val hS rfl rfl rfl (r_move hS rfl rfl) fun a14 hS14 => st_val hS14 rfl rfl rfl (r_move hS14 rfl rfl) fun a15 hS15 => ?_
    refine st_enter hS15 rfl rfl rfl (r_call hS15 rfl rfl (by kernel_rfl)) (ref24_Matrix.calls (C1 := C1) (p0 := p0) (p1 := p1) (g := g7) (N + 2) (N + 0) hp1 (fun q (hq : C1 q) => by have := hC1 q hq; omega) (by omega) hr17) ?_
    rintro _ a22 w23 ⟨g23, A18, cap19, rfl, h20, F23⟩ hS22
    replace hp1 := RdS.fr hp1 F23 (by decide) (fun q (hq : C1 q) (hm : (N + 0 ≤ q ∧ q < N + 0 + 2) ∨ N + 2 ≤ q) => by have := hC1 q hq; omega)
    replace hF := hF.trans F23 (fun c' (hm : (N + 0 ≤ c' ∧ c' < N + 0 + 2) ∨ N + 2 ≤ c') => by show N ≤ c'; omega)
    refine st_val hS22 rfl rfl rfl (r_assign hS22 rfl rfl) fun a24 hS24 => wpList_nil (hK _ _ ?_)
    replace hS : Sl 29 _ [(0, .int .i64 p0), (6, .slice A18 r16.length cap19)] := hS24.re ⟨rfl, rfl, trivial⟩
    clear hK K
    try clear hS14 hS15 hS22 hS24
    obtain ⟨a, ha⟩ : ∃ a', a' = a24 := ⟨_, rfl⟩
    rw [← ha] at hS ⊢; clear ha
    obtain ⟨o26, H, Hl27⟩ := bind_el H
    refine c_cut (fun a w' => o26 = .nxt () ∧ w23 = w' ∧ Sl 29 a []) ?_ ?_
    · refine c_pure [(0, .int .i64 p0), (6, .slice A18 r16.length cap19), (7, .int .i64 0)] (fun R hR => st_val hS rfl rfl rfl (r_assign hS rfl rfl) fun a28 hS28 => wpList_nil (hR _ (hS28.re ⟨rfl, rfl, rfl, trivial⟩))) ?_
      clear hS
      clear a
      intro a hS
      refine wp_block ?_
      refine wp_loop_ghost (fun kq => fun a w' => ∃ (m0_0 : Int), ref24_Check.l0 p0 r16 kq m0_0 = some o26 ∧ w23 = w' ∧ Sl 29 a [(0, .int .i64 p0), (6, .slice A18 r16.length cap19), (7, .int .i64 m0_0)]) FUEL ?_ ?_
      · exact ⟨0, H, rfl, hS.re ⟨rfl, rfl, rfl, trivial⟩⟩
      · clear H
        clear hS
        rintro k29 a w' ⟨m0_0, hpre0, hw, hS⟩
        subst hw
        have H := hpre0
        clear hpre0
        cases k29 with
        | zero => exact absurd H (by simp [ref24_Check.l0])
        | succ k29 =>
          rw [ref24_Check.l0] at H
          refine wp_seq ?_
          refine c_pure [(0, .int .i64 p0), (6, .slice A18 r16.length cap19), (7, .int .i64 m0_0), (19, .bool (decide (m0_0 < p0)))] (fun R hR => st_val hS rfl rfl rfl (r_move hS rfl rfl) fun a30 hS30 => st_val hS30 rfl rfl rfl (r_move hS30 rfl rfl) fun a31 hS31 => st_val hS31 rfl rfl rfl (r_bin hS31 rfl rfl rfl b_lss) fun a32 hS32 => wpList_nil (hR _ (hS32.re ⟨rfl, rfl, rfl, rfl, trivial⟩))) ?_
          clear hS
          clear a
          intro a hS
          refine c_cond hS rfl (fun hb33 => ?_) (fun hb33 => ?_)
          · replace H := ite_t hb33 H
            refine wp_skip ?_
            change Code.wp _ _ _ _ _
            refine wp_seq ?_
            refine wp_block ?_
            obtain ⟨x36, hx37, H⟩ := bind_el H
            obtain ⟨x47, hx48, H⟩ := bind_el H
            refine c_region (fun K hK => ?_)
            refine st_val hS rfl rfl rfl (r_move hS rfl rfl) fun a34 hS34 => st_val hS34 rfl rfl rfl (r_move hS34 rfl rfl) fun a35 hS35 => ?_
            obtain ⟨_, ⟨A39, cap40, rfl, h41⟩, hel38⟩ := El.of (OwD.rdx h20) hx37 (by decide)
            replace hel38 : El w23 g23 (fun q => q = N + 0) A18 (m0_0.toNat * 1) [.slice A39 x36.length cap40] := hel38
            refine st_val hS35 rfl rfl rfl (r_index (e := 74) (sz := 1) (by_ := 24) hS35 rfl rfl rfl (by kernel_rfl) (RdS.some_ (OwS.rd h20) hx37) (idx_lo hx37) (idx_hi hx37)) fun a44 hS44 => st_val hS44 rfl rfl rfl (r_load1 (n := 1) hS44 rfl rfl (by kernel_rfl) (El.cell (j := 0) hel38 rfl)) fun a45 hS45 => st_val hS45 rfl rfl rfl (r_move hS45 rfl rfl) fun a46 hS46 => st_val hS46 rfl rfl rfl (r_index (e := 4) (sz := 1) (by_ := 1) hS46 rfl rfl rfl (by kernel_rfl) (RdS.some_ h41 hx48) (idx_lo hx48) (idx_hi hx48)) fun a49 hS49 => st_val hS49 rfl rfl rfl (r_load1 (n := 1) hS49 rfl rfl (by kernel_rfl) (RdS.cell (i := m0_0) (sz := 1) (j := 0) h41 hx48 rfl)) fun a50 hS50 => wpList_nil (hK _ _ ?_)
            replace hS : Sl 29 _ [(0, .int .i64 p0), (6, .slice A18 r16.length cap19), (7, .int .i64 m0_0), (28, .bool x47)] := hS50.re ⟨rfl, rfl, rfl, rfl, trivial⟩
            clear hK K
            try clear hS34 hS35 hS44 hS45 hS46 hS49 hS50
            obtain ⟨a, ha⟩ : ∃ a', a' = a50 := ⟨_, rfl⟩
            rw [← ha] at hS ⊢; clear ha
            refine c_cond hS rfl (fun hb51 => ?_) (fun hb51 => ?_)
            · replace H := ite_t hb51 H
              refine c_pure [(4, .int .i64 18)] (fun R hR => st_val hS rfl rfl rfl (r_assign hS rfl rfl) fun a52 hS52 => wpList_nil (hR _ (hS52.re ⟨rfl, trivial⟩))) ?_
              clear hS
              clear a
              intro a hS
              refine wp_ret ?_
              have e := Option.some.inj H
              subst e
              replace H := Fl.go_out Hl27
              have e := Option.some.inj H
              subst e
              repeat (with_reducible first | refine then_ret ?_ | refine inBlock_ret ?_)
              exact c_ret1 hS Try.results75 rfl ⟨_, rfl, g23, rfl, hF⟩
            · replace H := ite_f hb51 H
              refine wp_skip ?_
              change Code.wp _ _ _ _ _
              refine c_pure1 [(0, .int .i64 p0), (6, .slice A18 r16.length cap19), (7, .int .i64 (wi (m0_0 + 1)))] (fun R hR => st_val hS rfl rfl rfl (r_move hS rfl rfl) fun a53 hS53 => st_val hS53 rfl rfl rfl (r_bin hS53 rfl rfl rfl b_add) fun a54 hS54 => st_val hS54 rfl rfl rfl (r_assign hS54 rfl rfl) fun a55 hS55 => wpList_nil (hR _ (hS55.re ⟨rfl, rfl, rfl, trivial⟩))) ?_
              clear hS
              clear a
              intro a hS
              refine ⟨k29, Nat.lt_succ_self _, ?_⟩
              exact ⟨wi (m0_0 + 1), H, rfl, hS.re ⟨rfl, rfl, rfl, trivial⟩⟩
          · replace H := ite_f hb33 H
            refine wp_exit ?_
            have e := Option.some.inj H
            exact ⟨e.symm, rfl, hS.re trivial⟩
    · clear H
      clear hS
      rintro a w' ⟨hpre0, hw, hS⟩
      subst hpre0
      subst hw
      have H := Fl.go_nxt Hl27
      clear Hl27
      refine c_pure [(4, .int .i64 0)] (fun R hR => st_val hS rfl rfl rfl (r_assign hS rfl rfl) fun a56 hS56 => wpList_nil (hR _ (hS56.re ⟨rfl, trivial⟩))) ?_
      clear hS
      clear a
      intro a hS
      refine wp_ret ?_
      have e := Option.some.inj H
      subst e
      repeat (with_reducible first | refine then_ret ?_ | refine inBlock_ret ?_)
      exact c_ret1 hS Try.results75 rfl ⟨_, rfl, g23, rfl, hF⟩


end Go.Proofs.Ythmjgadmadlpkaa.Sim

namespace Go.Proofs.Ythmjgadmadlpkaa.Sim
open Go
set_option linter.unusedVariables false
set_option linter.unusedSimpArgs false

/-! ### ref24_remove: function 77 -/
def ref24_remove.l2 (p1 : List api_Link) (m0_1 : List Bool) (m1_1 : Int) : Nat → Bool → Int → Option (Bool)
  | 0, _, _ => none
  | k52 + 1, m2_0, m2_1 => if ((decide (m2_1 < (p1.length : Int))) && m2_0) = true then (((idx p1 m2_1).bind fun x71 => (if (x71.Consumer == m1_1) = true then (idx m0_1 x71.Supplier).bind fun x86 => some (!x86) else some false).bind fun t91 => if t91 = true then (some false) else (some m2_0) : Option (Bool)).bind fun v66 => ref24_remove.l2 p1 m0_1 m1_1 k52 v66 (wi (m2_1 + 1))) else (some m2_0)
def ref24_remove.l1 (p1 : List api_Link) (m0_1 : List Bool) : Nat → Int → Int → Option (Int)
  | 0, _, _ => none
  | k33 + 1, m1_0, m1_1 => if decide (0 ≤ m1_1) = true then (((idx m0_1 m1_1).bind fun x42 => (ref24_remove.l2 p1 m0_1 m1_1 FUEL (!x42) 0 : Option (Bool)).bind fun v48 => if v48 = true then (some m1_1) else (some m1_0) : Option (Int)).bind fun v37 => ref24_remove.l1 p1 m0_1 k33 v37 (wi (m1_1 - 1))) else (some m1_0)
def ref24_remove.l0 (p0 : Int) (p1 : List api_Link) : Nat → (List Int) → (List Bool) → Option ((List Int) × (List Bool))
  | 0, _, _ => none
  | k18 + 1, m0_0, m0_1 => ((ref24_remove.l1 p1 m0_1 FUEL (-1) (wi (p0 - 1)) : Option (Int)).bind fun v27 => if decide (v27 < 0) = true then (some (.out (m0_0, m0_1))) else ((idx m0_1 v27).bind fun x141 => (app m0_0 [v27]).bind fun y153 => some (.nxt (y153, (upd m0_1 v27 true)))) : Option (Fl ((List Int) × (List Bool)) ((List Int) × (List Bool)))).bind fun o24 => o24.go fun v23 => ref24_remove.l0 p0 p1 k18 v23.1 v23.2
def ref24_remove.f (p0 : Int) (p1 : List api_Link) : Option ((List Int) × (List Bool)) := (mk p0 false).bind fun y5 => ref24_remove.l0 p0 p1 FUEL [] y5
set_option maxRecDepth 100000 in
set_option maxHeartbeats 4000000 in
theorem ref24_remove.calls {p0 : Int} {p1 : List api_Link} {A1 : Option Addr} {cap1 : Nat} {C1 : Nat → Prop} {w : World} {g : Nat → Nat} {out : (List Int) × (List Bool)} (N : Nat) (r0 : Nat) (r1 : Nat) (hp1 : RdS kd_api_Link w g C1 A1 cap1 p1) (hC1 : ∀ c, C1 c → c < N) (hr0 : r0 + 2 ≤ N) (hr1 : r1 + 2 ≤ N) (ht1_0 : r1 + 2 ≤ r0 ∨ r0 + 2 ≤ r1) (H : ref24_remove.f p0 p1 = some out) :
    Calls Try.prog 77 #[.int .i64 p0, .slice A1 p1.length cap1] w (fun e w' => ∃ v, e = .returned v ∧ ∃ (g' : Nat → Nat) (A_r0 : Option Addr) (cap_r0 : Nat) (A_r1 : Option Addr) (cap_r1 : Nat), v = .tuple #[.slice A_r0 out.1.length cap_r0, .slice A_r1 out.2.length cap_r1] ∧ OwS (kint .i64) 3 w' g' r0 A_r0 cap_r0 out.1 ∧ OwS kbool 4 w' g' r1 A_r1 cap_r1 out.2 ∧ Fr (fun q => (r0 ≤ q ∧ q < r0 + 2) ∨ (r1 ≤ q ∧ q < r1 + 2) ∨ N ≤ q) w g w' g') := by
  unfold ref24_remove.f at H
  refine calls_enter Try.func77 rfl Try.ntmps77 rfl (fun a hS => ?_)
  replace hS : Sl 65 a [(0, .int .i64 p0), (1, .slice A1 p1.length cap1)] := hS
  have hF : Fr (fun q => (r0 ≤ q ∧ q < r0 + 2) ∨ (r1 ≤ q ∧ q < r1 + 2) ∨ N ≤ q) w g w g := Fr.refl _ _ _
  refine c_pure [(0, .int .i64 p0), (1, .slice A1 p1.length cap1)] (fun R hR => st_val hS rfl rfl rfl (r_assign hS rfl rfl) fun a1 hS1 => st_val hS1 rfl rfl rfl (r_assign hS1 rfl rfl) fun a2 hS2 => wpList_nil (hR _ (hS2.re ⟨rfl, rfl, trivial⟩))) ?_
  clear hS
  clear a
  intro a hS
  refine c_pure [(0, .int .i64 p0), (1, .slice A1 p1.length cap1), (6, .slice none 0 0)] (fun R hR => st_val hS rfl rfl rfl (r_assign hS rfl rfl) fun a3 hS3 => wpList_nil (hR _ (hS3.re ⟨rfl, rfl, rfl, trivial⟩))) ?_
  clear hS
  clear a
  intro a hS
  obtain ⟨y5, hy6, H⟩ := bind_el H
  refine c_region (fun K hK => ?_)
  refine st_val hS rfl rfl rfl (r_move hS rfl rfl) fun a4 hS4 => ?_
  refine st_eff hS4 rfl rfl rfl (e_make (e := 4) (sz := 1) (by_ := 1) (z := [.bool false]) (kd := kbool) (N + 0) g hS4 rfl rfl (by kernel_rfl) (by kernel_rfl) rfl rfl rfl (fun _ _ _ => by exact rfl) hy6) ?_
  rintro _ a11 w12 g12 ⟨⟨A7, cap8, rfl, h9⟩, F12⟩ hS11
  replace hp1 := RdS.fr hp1 F12 (by decide) (fun _ _ h => h)
  replace hF := hF.trans F12 (fun _ h => h.elim)
  refine st_val hS11 rfl rfl rfl (r_assign hS11 rfl rfl) fun a13 hS13 => wpList_nil (hK _ _ ?_)
  replace hS : Sl 65 _ [(0, .int .i64 p0), (1, .slice A1 p1.length cap1), (6, .slice none 0 0), (7, .slice A7 y5.length cap8)] := hS13.re ⟨rfl, rfl, rfl, rfl, trivial⟩
  clear hK K
  try clear hS4 hS11 hS13
  obtain ⟨a, ha⟩ : ∃ a', a' = a13 := ⟨_, rfl⟩
  rw [← ha] at hS ⊢; clear ha
  refine wp_block ?_
  refine wp_loop_ghost (fun kq => fun a w14 => ∃ (m0_0 : List Int), ∃ (m0_1 : List Bool), ∃ (g14 : Nat → Nat), ∃ (A15 : Option Addr), ∃ (cap16 : Nat), ref24_remove.l0 p0 p1 kq m0_0 m0_1 = some out ∧ Sl 65 a [(0, .int .i64 p0), (1, .slice A1 p1.length cap1), (6, .slice A15 m0_0.length cap16), (7, .slice A7 m0_1.length cap8)] ∧ OwS kbool 4 w14 g14 (N + 0) A7 cap8 m0_1 ∧ OwS (kint .i64) 3 w14 g14 (N + 4) A15 cap16 m0_0 ∧ RdS kd_api_Link w14 g14 C1 A1 cap1 p1 ∧ Fr (fun q => (r0 ≤ q ∧ q < r0 + 2) ∨ (r1 ≤ q ∧ q < r1 + 2) ∨ N ≤ q) w g w14 g14) FUEL ?_ ?_
  · exact ⟨[], y5, g12, none, 0, H, hS.re ⟨rfl, rfl, rfl, rfl, trivial⟩, h9, OwS.nil (kint .i64) 3 w12 g12 (N + 4), hp1, hF⟩
  · clear H
    clear hp1 h9 hF
    clear hS
    rintro k18 a w14 ⟨m0_0, m0_1, g14, A15, cap16, hpre0, hS, h9, h17, hp1, hF⟩
    have H := hpre0
    clear hpre0
    cases k18 with
    | zero => exact absurd H (by simp [ref24_remove.l0])
    | succ k18 =>
      rw [ref24_remove.l0] at H
      obtain ⟨o24, H, Hl25⟩ := bind_el H
      refine c_cut1 (fun a w19 => ∃ (v23 : (List Int) × (List Bool)), ∃ (g19 : Nat → Nat), ∃ (A20 : Option Addr), ∃ (cap21 : Nat), o24 = .nxt v23 ∧ Sl 65 a [(0, .int .i64 p0), (1, .slice A1 p1.length cap1), (6, .slice A20 v23.1.length cap21), (7, .slice A7 v23.2.length cap8)] ∧ OwS kbool 4 w19 g19 (N + 0) A7 cap8 v23.2 ∧ OwS (kint .i64) 3 w19 g19 (N + 4) A20 cap21 v23.1 ∧ RdS kd_api_Link w19 g19 C1 A1 cap1 p1 ∧ Fr (fun q => (r0 ≤ q ∧ q < r0 + 2) ∨ (r1 ≤ q ∧ q < r1 + 2) ∨ N ≤ q) w g w19 g19) ?_ ?_
      · refine wp_block ?_
        refine c_pure [(0, .int .i64 p0), (1, .slice A1 p1.length cap1), (6, .slice A15 m0_0.length cap16), (7, .slice A7 m0_1.length cap8), (8, .int .i64 (-1))] (fun R hR => st_val hS rfl rfl rfl (r_assign hS rfl rfl) fun a26 hS26 => wpList_nil (hR _ (hS26.re ⟨rfl, rfl, rfl, rfl, rfl, trivial⟩))) ?_
        clear hS
        clear a
        intro a hS
        obtain ⟨v27, H, Hl29⟩ := bind_el H
        refine c_cut (fun a w' => w14 = w' ∧ Sl 65 a [(0, .int .i64 p0), (1, .slice A1 p1.length cap1), (6, .slice A15 m0_0.length cap16), (7, .slice A7 m0_1.length cap8), (8, .int .i64 v27)]) ?_ ?_
        · refine c_pure [(0, .int .i64 p0), (1, .slice A1 p1.length cap1), (6, .slice A15 m0_0.length cap16), (7, .slice A7 m0_1.length cap8), (8, .int .i64 (-1)), (9, .int .i64 (wi (p0 - 1)))] (fun R hR => st_val hS rfl rfl rfl (r_move hS rfl rfl) fun a30 hS30 => st_val hS30 rfl rfl rfl (r_bin hS30 rfl rfl rfl b_sub) fun a31 hS31 => st_val hS31 rfl rfl rfl (r_assign hS31 rfl rfl) fun a32 hS32 => wpList_nil (hR _ (hS32.re ⟨rfl, rfl, rfl, rfl, rfl, rfl, trivial⟩))) ?_
          clear hS
          clear a
          intro a hS
          refine wp_block ?_
          refine wp_loop_ghost (fun kq => fun a w' => ∃ (m1_0 : Int), ∃ (m1_1 : Int), ref24_remove.l1 p1 m0_1 kq m1_0 m1_1 = some v27 ∧ w14 = w' ∧ Sl 65 a [(0, .int .i64 p0), (1, .slice A1 p1.length cap1), (6, .slice A15 m0_0.length cap16), (7, .slice A7 m0_1.length cap8), (8, .int .i64 m1_0), (9, .int .i64 m1_1)]) FUEL ?_ ?_
          · exact ⟨(-1), wi (p0 - 1), H, rfl, hS.re ⟨rfl, rfl, rfl, rfl, rfl, rfl, trivial⟩⟩
          · clear H
            clear hS
            rintro k33 a w' ⟨m1_0, m1_1, hpre0, hw, hS⟩
            subst hw
            have H := hpre0
            clear hpre0
            cases k33 with
            | zero => exact absurd H (by simp [ref24_remove.l1])
            | succ k33 =>
              rw [ref24_remove.l1] at H
              refine wp_seq ?_
              refine c_pure [(0, .int .i64 p0), (1, .slice A1 p1.length cap1), (6, .slice A15 m0_0.length cap16), (7, .slice A7 m0_1.length cap8), (8, .int .i64 m1_0), (9, .int .i64 m1_1), (17, .bool (decide (0 ≤ m1_1)))] (fun R hR => st_val hS rfl rfl rfl (r_move hS rfl rfl) fun a34 hS34 => st_val hS34 rfl rfl rfl (r_bin hS34 rfl rfl rfl b_geq) fun a35 hS35 => wpList_nil (hR _ (hS35.re ⟨rfl, rfl, rfl, rfl, rfl, rfl, rfl, trivial⟩))) ?_
              clear hS
              clear a
              intro a hS
              refine c_cond hS rfl (fun hb36 => ?_) (fun hb36 => ?_)
              · replace H := ite_t hb36 H
                refine wp_skip ?_
                change Code.wp _ _ _ _ _
                obtain ⟨v37, H, Hl39⟩ := bind_el H
                refine c_cut (fun a w' => w14 = w' ∧ Sl 65 a [(0, .int .i64 p0), (1, .slice A1 p1.length cap1), (6, .slice A15 m0_0.length cap16), (7, .slice A7 m0_1.length cap8), (8, .int .i64 v37), (9, .int .i64 m1_1)]) ?_ ?_
                · refine wp_block ?_
                  obtain ⟨x42, hx43, H⟩ := bind_el H
                  refine c_pure [(0, .int .i64 p0), (1, .slice A1 p1.length cap1), (6, .slice A15 m0_0.length cap16), (7, .slice A7 m0_1.length cap8), (8, .int .i64 m1_0), (9, .int .i64 m1_1), (10, .bool (!x42))] (fun R hR => st_val hS rfl rfl rfl (r_move hS rfl rfl) fun a40 hS40 => st_val hS40 rfl rfl rfl (r_move hS40 rfl rfl) fun a41 hS41 => st_val hS41 rfl rfl rfl (r_index (e := 4) (sz := 1) (by_ := 1) hS41 rfl rfl rfl (by kernel_rfl) (RdS.some_ (OwS.rd h9) hx43) (idx_lo hx43) (idx_hi hx43)) fun a44 hS44 => st_val hS44 rfl rfl rfl (r_load1 (n := 1) hS44 rfl rfl (by kernel_rfl) (RdS.cell (i := m1_1) (sz := 1) (j := 0) (OwS.rd h9) hx43 rfl)) fun a45 hS45 => st_val hS45 rfl rfl rfl (r_not hS45 rfl rfl) fun a46 hS46 => st_val hS46 rfl rfl rfl (r_assign hS46 rfl rfl) fun a47 hS47 => wpList_nil (hR _ (hS47.re ⟨rfl, rfl, rfl, rfl, rfl, rfl, rfl, trivial⟩))) ?_
                  clear hS
                  clear a
                  intro a hS
                  obtain ⟨v48, H, Hl50⟩ := bind_el H
                  refine c_cut (fun a w' => w14 = w' ∧ Sl 65 a [(0, .int .i64 p0), (1, .slice A1 p1.length cap1), (6, .slice A15 m0_0.length cap16), (7, .slice A7 m0_1.length cap8), (8, .int .i64 m1_0), (9, .int .i64 m1_1), (10, .bool v48)]) ?_ ?_
                  · refine c_pure [(0, .int .i64 p0), (1, .slice A1 p1.length cap1), (6, .slice A15 m0_0.length cap16), (7, .slice A7 m0_1.length cap8), (8, .int .i64 m1_0), (9, .int .i64 m1_1), (10, .bool (!x42)), (11, .int .i64 0)] (fun R hR => st_val hS rfl rfl rfl (r_assign hS rfl rfl) fun a51 hS51 => wpList_nil (hR _ (hS51.re ⟨rfl, rfl, rfl, rfl, rfl, rfl, rfl, rfl, trivial⟩))) ?_
                    clear hS
                    clear a
                    intro a hS
                    refine wp_block ?_
                    refine wp_loop_ghost (fun kq => fun a w' => ∃ (m2_0 : Bool), ∃ (m2_1 : Int), ref24_remove.l2 p1 m0_1 m1_1 kq m2_0 m2_1 = some v48 ∧ w14 = w' ∧ Sl 65 a [(0, .int .i64 p0), (1, .slice A1 p1.length cap1), (6, .slice A15 m0_0.length cap16), (7, .slice A7 m0_1.length cap8), (8, .int .i64 m1_0), (9, .int .i64 m1_1), (10, .bool m2_0), (11, .int .i64 m2_1)]) FUEL ?_ ?_
                    · exact ⟨(!x42), 0, H, rfl, hS.re ⟨rfl, rfl, rfl, rfl, rfl, rfl, rfl, rfl, trivial⟩⟩
                    · clear H
                      clear hS
                      rintro k52 a w' ⟨m2_0, m2_1, hpre0, hw, hS⟩
                      subst hw
                      have H := hpre0
                      clear hpre0
                      cases k52 with
                      | zero => exact absurd H (by simp [ref24_remove.l2])
                      | succ k52 =>
                        rw [ref24_remove.l2] at H
                        refine wp_seq ?_
                        refine c_region (fun K hK => ?_)
                        refine st_val hS rfl rfl rfl (r_move hS rfl rfl) fun a53 hS53 => st_val hS53 rfl rfl rfl (r_move hS53 rfl rfl) fun a54 hS54 => st_val hS54 rfl rfl rfl (r_len (e := 43) (sz := 2) (by_ := 16) hS54 rfl rfl (by kernel_rfl)) fun a55 hS55 => st_val hS55 rfl rfl rfl (r_bin hS55 rfl rfl rfl b_lss) fun a56 hS56 => st_val hS56 rfl rfl rfl (r_move hS56 rfl rfl) fun a57 hS57 => ?_
                        refine g_join (N := 65) 2 [(0, .int .i64 p0), (1, .slice A1 p1.length cap1), (6, .slice A15 m0_0.length cap16), (7, .slice A7 m0_1.length cap8), (8, .int .i64 m1_0), (9, .int .i64 m1_1), (10, .bool m2_0), (11, .int .i64 m2_1), (31, .bool ((decide (m2_1 < (p1.length : Int))) && m2_0))] ?_ (fun hk => ?_)
                        rotate_left
                        · rcases Bool.eq_false_or_eq_true (decide (m2_1 < (p1.length : Int))) with hb58 | hb58
                          · refine st_valW hS57 (want_on hS57 rfl rfl rfl hb58) rfl rfl (r_move hS57 rfl rfl) fun a60 hS60 => st_val hS60 rfl rfl rfl (r_pickT hS60 rfl rfl rfl hb58) fun a61 hS61 => hk _ (hS61.re ⟨rfl, rfl, rfl, rfl, rfl, rfl, rfl, rfl, (by rw [hb58]; rfl), trivial⟩)
                          · refine st_off hS57 (want_off hS57 rfl rfl rfl hb58) rfl rfl fun a62 hS62 => st_val hS62 rfl rfl rfl (r_pickF hS62 rfl rfl rfl hb58) fun a63 hS63 => hk _ (hS63.re ⟨rfl, rfl, rfl, rfl, rfl, rfl, rfl, rfl, (by rw [hb58]; rfl), trivial⟩)
                        intro a64 hS64
                        refine wpList_nil (hK _ _ ?_)
                        replace hS : Sl 65 _ [(0, .int .i64 p0), (1, .slice A1 p1.length cap1), (6, .slice A15 m0_0.length cap16), (7, .slice A7 m0_1.length cap8), (8, .int .i64 m1_0), (9, .int .i64 m1_1), (10, .bool m2_0), (11, .int .i64 m2_1), (31, .bool ((decide (m2_1 < (p1.length : Int))) && m2_0))] := hS64.re ⟨rfl, rfl, rfl, rfl, rfl, rfl, rfl, rfl, rfl, trivial⟩
                        clear hK K
                        try clear hS53 hS54 hS55 hS56 hS57 hS64
                        obtain ⟨a, ha⟩ : ∃ a', a' = a64 := ⟨_, rfl⟩
                        rw [← ha] at hS ⊢; clear ha
                        refine c_cond hS rfl (fun hb65 => ?_) (fun hb65 => ?_)
                        · replace H := ite_t hb65 H
                          refine wp_skip ?_
                          change Code.wp _ _ _ _ _
                          obtain ⟨v66, H, Hl68⟩ := bind_el H
                          refine c_cut (fun a w' => w14 = w' ∧ Sl 65 a [(0, .int .i64 p0), (1, .slice A1 p1.length cap1), (6, .slice A15 m0_0.length cap16), (7, .slice A7 m0_1.length cap8), (8, .int .i64 m1_0), (9, .int .i64 m1_1), (10, .bool v66), (11, .int .i64 m2_1)]) ?_ ?_
                          · refine wp_block ?_
                            obtain ⟨x71, hx72, H⟩ := bind_el H
                            obtain ⟨t91, ht92, H⟩ := bind_el H
                            refine c_region (fun K hK => ?_)
                            refine st_val hS rfl rfl rfl (r_move hS rfl rfl) fun a69 hS69 => st_val hS69 rfl rfl rfl (r_move hS69 rfl rfl) fun a70 hS70 => st_val hS70 rfl rfl rfl (r_index (e := 43) (sz := 2) (by_ := 16) hS70 rfl rfl rfl (by kernel_rfl) (RdS.some_ hp1 hx72) (idx_lo hx72) (idx_hi hx72)) fun a73 hS73 => st_val hS73 rfl rfl rfl (r_fieldE (off := 0) hS73 rfl rfl (by kernel_rfl)) fun a74 hS74 => st_val hS74 rfl rfl rfl (r_load1 (n := 1) hS74 rfl rfl (by kernel_rfl) (RdS.cell (i := m2_1) (sz := 2) (j := 0) hp1 hx72 rfl)) fun a75 hS75 => st_val hS75 rfl rfl rfl (r_move hS75 rfl rfl) fun a76 hS76 => st_val hS76 rfl rfl rfl (r_bin hS76 rfl rfl rfl b_eql) fun a77 hS77 => st_val hS77 rfl rfl rfl (r_move hS77 rfl rfl) fun a78 hS78 => ?_
                            refine g_join (N := 65) 10 [(0, .int .i64 p0), (1, .slice A1 p1.length cap1), (6, .slice A15 m0_0.length cap16), (7, .slice A7 m0_1.length cap8), (8, .int .i64 m1_0), (9, .int .i64 m1_1), (10, .bool m2_0), (11, .int .i64 m2_1), (51, .bool t91)] ?_ (fun hk => ?_)
                            rotate_left
                            · rcases Bool.eq_false_or_eq_true ((x71.Consumer == m1_1)) with hb79 | hb79
                              · have H := ite_t hb79 ht92
                                obtain ⟨x99, hx100, H⟩ := bind_el H
                                have e104 := Option.some.inj H
                                refine st_valW hS78 (want_on hS78 rfl rfl rfl hb79) rfl rfl (r_move hS78 rfl rfl) fun a93 hS93 => st_valW hS93 (want_on hS93 rfl rfl rfl hb79) rfl rfl (r_move hS93 rfl rfl) fun a94 hS94 => st_valW hS94 (want_on hS94 rfl rfl rfl hb79) rfl rfl (r_move hS94 rfl rfl) fun a95 hS95 => st_valW hS95 (want_on hS95 rfl rfl rfl hb79) rfl rfl (r_index (e := 43) (sz := 2) (by_ := 16) hS95 rfl rfl rfl (by kernel_rfl) (RdS.some_ hp1 hx72) (idx_lo hx72) (idx_hi hx72)) fun a96 hS96 => st_valW hS96 (want_on hS96 rfl rfl rfl hb79) rfl rfl (r_fieldE (off := 1) hS96 rfl rfl (by kernel_rfl)) fun a97 hS97 => st_valW hS97 (want_on hS97 rfl rfl rfl hb79) rfl rfl (r_load1 (n := 1) hS97 rfl rfl (by kernel_rfl) (RdS.cell (i := m2_1) (sz := 2) (j := 1) hp1 hx72 rfl)) fun a98 hS98 => st_valW hS98 (want_on hS98 rfl rfl rfl hb79) rfl rfl (r_index (e := 4) (sz := 1) (by_ := 1) hS98 rfl rfl rfl (by kernel_rfl) (RdS.some_ (OwS.rd h9) hx100) (idx_lo hx100) (idx_hi hx100)) fun a101 hS101 => st_valW hS101 (want_on hS101 rfl rfl rfl hb79) rfl rfl (r_load1 (n := 1) hS101 rfl rfl (by kernel_rfl) (RdS.cell (i := x71.Supplier) (sz := 1) (j := 0) (OwS.rd h9) hx100 rfl)) fun a102 hS102 => st_valW hS102 (want_on hS102 rfl rfl rfl hb79) rfl rfl (r_not hS102 rfl rfl) fun a103 hS103 => st_val hS103 rfl rfl rfl (r_pickT hS103 rfl rfl rfl hb79) fun a105 hS105 => hk _ (hS105.re ⟨rfl, rfl, rfl, rfl, rfl, rfl, rfl, rfl, (by rw [← e104]; rfl), trivial⟩)
                              · have H := ite_f hb79 ht92
                                have e106 := Option.some.inj H
                                refine st_off hS78 (want_off hS78 rfl rfl rfl hb79) rfl rfl fun a107 hS107 => st_off hS107 (want_off hS107 rfl rfl rfl hb79) rfl rfl fun a108 hS108 => st_off hS108 (want_off hS108 rfl rfl rfl hb79) rfl rfl fun a109 hS109 => st_off hS109 (want_off hS109 rfl rfl rfl hb79) rfl rfl fun a110 hS110 => st_off hS110 (want_off hS110 rfl rfl rfl hb79) rfl rfl fun a111 hS111 => st_off hS111 (want_off hS111 rfl rfl rfl hb79) rfl rfl fun a112 hS112 => st_off hS112 (want_off hS112 rfl rfl rfl hb79) rfl rfl fun a113 hS113 => st_off hS113 (want_off hS113 rfl rfl rfl hb79) rfl rfl fun a114 hS114 => st_off hS114 (want_off hS114 rfl rfl rfl hb79) rfl rfl fun a115 hS115 => st_val hS115 rfl rfl rfl (r_pickF hS115 rfl rfl rfl hb79) fun a116 hS116 => hk _ (hS116.re ⟨rfl, rfl, rfl, rfl, rfl, rfl, rfl, rfl, (by rw [← e106]; rfl), trivial⟩)
                            intro a117 hS117
                            refine wpList_nil (hK _ _ ?_)
                            replace hS : Sl 65 _ [(0, .int .i64 p0), (1, .slice A1 p1.length cap1), (6, .slice A15 m0_0.length cap16), (7, .slice A7 m0_1.length cap8), (8, .int .i64 m1_0), (9, .int .i64 m1_1), (10, .bool m2_0), (11, .int .i64 m2_1), (51, .bool t91)] := hS117.re ⟨rfl, rfl, rfl, rfl, rfl, rfl, rfl, rfl, rfl, trivial⟩
                            clear hK K
                            try clear hS69 hS70 hS73 hS74 hS75 hS76 hS77 hS78 hS117
                            obtain ⟨a, ha⟩ : ∃ a', a' = a117 := ⟨_, rfl⟩
                            rw [← ha] at hS ⊢; clear ha
                            refine c_cond hS rfl (fun hb118 => ?_) (fun hb118 => ?_)
                            · replace H := ite_t hb118 H
                              refine c_pure1 [(0, .int .i64 p0), (1, .slice A1 p1.length cap1), (6, .slice A15 m0_0.length cap16), (7, .slice A7 m0_1.length cap8), (8, .int .i64 m1_0), (9, .int .i64 m1_1), (10, .bool false), (11, .int .i64 m2_1)] (fun R hR => st_val hS rfl rfl rfl (r_assign hS rfl rfl) fun a119 hS119 => wpList_nil (hR _ (hS119.re ⟨rfl, rfl, rfl, rfl, rfl, rfl, rfl, rfl, trivial⟩))) ?_
                              clear hS
                              clear a
                              intro a hS
                              have e := Option.some.inj H
                              subst e
                              exact ⟨rfl, hS.re ⟨rfl, rfl, rfl, rfl, rfl, rfl, rfl, rfl, trivial⟩⟩
                            · replace H := ite_f hb118 H
                              refine wp_skip ?_
                              have e := Option.some.inj H
                              subst e
                              exact ⟨rfl, hS.re ⟨rfl, rfl, rfl, rfl, rfl, rfl, rfl, rfl, trivial⟩⟩
                          · clear H
                            clear hS
                            rintro a w' ⟨hw, hS⟩
                            subst hw
                            have H := Hl68
                            clear Hl68
                            refine c_pure1 [(0, .int .i64 p0), (1, .slice A1 p1.length cap1), (6, .slice A15 m0_0.length cap16), (7, .slice A7 m0_1.length cap8), (8, .int .i64 m1_0), (9, .int .i64 m1_1), (10, .bool v66), (11, .int .i64 (wi (m2_1 + 1)))] (fun R hR => st_val hS rfl rfl rfl (r_move hS rfl rfl) fun a120 hS120 => st_val hS120 rfl rfl rfl (r_bin hS120 rfl rfl rfl b_add) fun a121 hS121 => st_val hS121 rfl rfl rfl (r_assign hS121 rfl rfl) fun a122 hS122 => wpList_nil (hR _ (hS122.re ⟨rfl, rfl, rfl, rfl, rfl, rfl, rfl, rfl, trivial⟩))) ?_
                            clear hS
                            clear a
                            intro a hS
                            refine ⟨k52, Nat.lt_succ_self _, ?_⟩
                            exact ⟨v66, wi (m2_1 + 1), H, rfl, hS.re ⟨rfl, rfl, rfl, rfl, rfl, rfl, rfl, rfl, trivial⟩⟩
                        · replace H := ite_f hb65 H
                          refine wp_exit ?_
                          have e := Option.some.inj H
                          subst e
                          exact ⟨rfl, hS.re ⟨rfl, rfl, rfl, rfl, rfl, rfl, rfl, trivial⟩⟩
                  · clear H
                    clear hS
                    rintro a w' ⟨hw, hS⟩
                    subst hw
                    have H := Hl50
                    clear Hl50
                    refine c_pure [(0, .int .i64 p0), (1, .slice A1 p1.length cap1), (6, .slice A15 m0_0.length cap16), (7, .slice A7 m0_1.length cap8), (8, .int .i64 m1_0), (9, .int .i64 m1_1), (52, .bool v48)] (fun R hR => st_val hS rfl rfl rfl (r_move hS rfl rfl) fun a123 hS123 => wpList_nil (hR _ (hS123.re ⟨rfl, rfl, rfl, rfl, rfl, rfl, rfl, trivial⟩))) ?_
                    clear hS
                    clear a
                    intro a hS
                    refine c_cond hS rfl (fun hb124 => ?_) (fun hb124 => ?_)
                    · replace H := ite_t hb124 H
                      refine c_pure1 [(0, .int .i64 p0), (1, .slice A1 p1.length cap1), (6, .slice A15 m0_0.length cap16), (7, .slice A7 m0_1.length cap8), (8, .int .i64 m1_1), (9, .int .i64 m1_1)] (fun R hR => st_val hS rfl rfl rfl (r_move hS rfl rfl) fun a125 hS125 => st_val hS125 rfl rfl rfl (r_assign hS125 rfl rfl) fun a126 hS126 => wpList_nil (hR _ (hS126.re ⟨rfl, rfl, rfl, rfl, rfl, rfl, trivial⟩))) ?_
                      clear hS
                      clear a
                      intro a hS
                      have e := Option.some.inj H
                      subst e
                      exact ⟨rfl, hS.re ⟨rfl, rfl, rfl, rfl, rfl, rfl, trivial⟩⟩
                    · replace H := ite_f hb124 H
                      refine wp_skip ?_
                      have e := Option.some.inj H
                      subst e
                      exact ⟨rfl, hS.re ⟨rfl, rfl, rfl, rfl, rfl, rfl, trivial⟩⟩
                · clear H
                  clear hS
                  rintro a w' ⟨hw, hS⟩
                  subst hw
                  have H := Hl39
                  clear Hl39
                  refine c_pure1 [(0, .int .i64 p0), (1, .slice A1 p1.length cap1), (6, .slice A15 m0_0.length cap16), (7, .slice A7 m0_1.length cap8), (8, .int .i64 v37), (9, .int .i64 (wi (m1_1 - 1)))] (fun R hR => st_val hS rfl rfl rfl (r_move hS rfl rfl) fun a127 hS127 => st_val hS127 rfl rfl rfl (r_bin hS127 rfl rfl rfl b_sub) fun a128 hS128 => st_val hS128 rfl rfl rfl (r_assign hS128 rfl rfl) fun a129 hS129 => wpList_nil (hR _ (hS129.re ⟨rfl, rfl, rfl, rfl, rfl, rfl, trivial⟩))) ?_
                  clear hS
                  clear a
                  intro a hS
                  refine ⟨k33, Nat.lt_succ_self _, ?_⟩
                  exact ⟨v37, wi (m1_1 - 1), H, rfl, hS.re ⟨rfl, rfl, rfl, rfl, rfl, rfl, trivial⟩⟩
              · replace H := ite_f hb36 H
                refine wp_exit ?_
                have e := Option.some.inj H
                subst e
                exact ⟨rfl, hS.re ⟨rfl, rfl, rfl, rfl, rfl, trivial⟩⟩
        · clear H
          clear hS
          rintro a w' ⟨hw, hS⟩
          subst hw
          have H := Hl29
          clear Hl29
          refine wp_seq ?_
          refine c_pure [(0, .int .i64 p0), (1, .slice A1 p1.length cap1), (6, .slice A15 m0_0.length cap16), (7, .slice A7 m0_1.length cap8), (8, .int .i64 v27), (55, .bool (decide (v27 < 0)))] (fun R hR => st_val hS rfl rfl rfl (r_move hS rfl rfl) fun a130 hS130 => st_val hS130 rfl rfl rfl (r_bin hS130 rfl rfl rfl b_lss) fun a131 hS131 => wpList_nil (hR _ (hS131.re ⟨rfl, rfl, rfl, rfl, rfl, rfl, trivial⟩))) ?_
          clear hS
          clear a
          intro a hS
          refine c_cond hS rfl (fun hb132 => ?_) (fun hb132 => ?_)
          · replace H := ite_t hb132 H
            refine c_pure [(4, .slice A15 m0_0.length cap16), (5, .slice A7 m0_1.length cap8)] (fun R hR => st_val hS rfl rfl rfl (r_move hS rfl rfl) fun a133 hS133 => st_val hS133 rfl rfl rfl (r_move hS133 rfl rfl) fun a134 hS134 => st_val hS134 rfl rfl rfl (r_assign hS134 rfl rfl) fun a135 hS135 => st_val hS135 rfl rfl rfl (r_assign hS135 rfl rfl) fun a136 hS136 => wpList_nil (hR _ (hS136.re ⟨rfl, rfl, trivial⟩))) ?_
            clear hS
            clear a
            intro a hS
            refine wp_ret ?_
            have e := Option.some.inj H
            subst e
            replace H := Fl.go_out Hl25
            have e := Option.some.inj H
            subst e
            have F137 := Fr.recol2 w14 g14 (N + 4) r0
            replace h17 := h17.recol2 r0
            replace h9 := OwS.fr h9 F137 (fun c' hc (hm : c' = N + 4 ∨ c' = N + 4 + 1) => by omega)
            replace hF := hF.trans F137 (fun c' (hm : c' = N + 4 ∨ c' = N + 4 + 1) => by show (r0 ≤ c' ∧ c' < r0 + 2) ∨ (r1 ≤ c' ∧ c' < r1 + 2) ∨ N ≤ c'; omega)
            have F138 := Fr.recol2 w14 (recol2 g14 (N + 4) r0) (N + 0) r1
            replace h9 := h9.recol2 r1
            replace h17 := OwS.fr h17 F138 (fun c' hc (hm : c' = N + 0 ∨ c' = N + 0 + 1) => by omega)
            replace hF := hF.trans F138 (fun c' (hm : c' = N + 0 ∨ c' = N + 0 + 1) => by show (r0 ≤ c' ∧ c' < r0 + 2) ∨ (r1 ≤ c' ∧ c' < r1 + 2) ∨ N ≤ c'; omega)
            repeat (with_reducible first | refine then_ret ?_ | refine inBlock_ret ?_)
            exact c_ret2 hS Try.results77 rfl rfl ⟨_, rfl, (recol2 (recol2 g14 (N + 4) r0) (N + 0) r1), A15, cap16, A7, cap8, rfl, h17, h9, hF⟩
          · replace H := ite_f hb132 H
            refine wp_skip ?_
            change Code.wp _ _ _ _ _
            obtain ⟨x141, hx142, H⟩ := bind_el H
            refine c_region (fun K hK => ?_)
            refine st_val hS rfl rfl rfl (r_move hS rfl rfl) fun a139 hS139 => st_val hS139 rfl rfl rfl (r_move hS139 rfl rfl) fun a140 hS140 => st_val hS140 rfl rfl rfl (r_index (e := 4) (sz := 1) (by_ := 1) hS140 rfl rfl rfl (by kernel_rfl) (RdS.some_ (OwS.rd h9) hx142) (idx_lo hx142) (idx_hi hx142)) fun a143 hS143 => ?_
            refine st_effS hS143 rfl rfl (e_storeE (n := 1) (bb := false) (kd := kbool) (j := 0) (x' := true) (us := [.bool true]) g14 hS143 rfl rfl rfl rfl (by kernel_rfl) rfl rfl (by intro v hv; simp only [List.mem_cons, List.not_mem_nil, or_false] at hv; rcases hv with rfl <;> rfl) h9 hx142 rfl (fun _ _ cs hR => by rw [show cs = _ from hR]; rfl)) ?_
            rintro a144 w145 g145 ⟨h9, F145⟩ hS144
            replace h17 := OwS.fr h17 F145 (fun c' hc (hm : c' = N + 0) => by omega)
            replace hp1 := RdS.fr hp1 F145 (by decide) (fun q (hq : C1 q) (hm : q = N + 0) => by have := hC1 q hq; omega)
            replace hF := hF.trans F145 (fun c' (hm : c' = N + 0) => by show (r0 ≤ c' ∧ c' < r0 + 2) ∨ (r1 ≤ c' ∧ c' < r1 + 2) ∨ N ≤ c'; omega)
            have hT : Sl 65 a144 [(0, .int .i64 p0), (1, .slice A1 p1.length cap1), (6, .slice A15 m0_0.length cap16), (7, .slice A7 m0_1.length cap8), (8, .int .i64 v27)] := hS144.re ⟨rfl, rfl, rfl, rfl, rfl, trivial⟩
            replace hS144 : Sl 65 a144 [(0, .int .i64 p0), (1, .slice A1 p1.length cap1), (6, .slice A15 m0_0.length cap16), (7, .slice A7 (upd m0_1 v27 true).length cap8), (8, .int .i64 v27)] := by simpa only [upd_length] using hT
            clear hT
            refine wpList_nil (hK _ _ ?_)
            replace hS : Sl 65 _ [(0, .int .i64 p0), (1, .slice A1 p1.length cap1), (6, .slice A15 m0_0.length cap16), (7, .slice A7 (upd m0_1 v27 true).length cap8), (8, .int .i64 v27)] := hS144.re ⟨rfl, rfl, rfl, rfl, rfl, trivial⟩
            clear hK K
            try clear hS139 hS140 hS143 hS144
            obtain ⟨a, ha⟩ : ∃ a', a' = a144 := ⟨_, rfl⟩
            rw [← ha] at hS ⊢; clear ha
            obtain ⟨y153, hy154, H⟩ := bind_el H
            refine c_region1 (fun K hK => ?_)
            refine st_val hS rfl rfl rfl (r_move hS rfl rfl) fun a146 hS146 => st_val hS146 rfl rfl rfl (r_move hS146 rfl rfl) fun a147 hS147 => ?_
            refine st_eff hS147 rfl rfl rfl (e_lit (e := 3) (parts := [(0, .int .i64 v27)]) (cs := [.int .i64 v27]) (kint .i64) [v27] (N + 2) g145 hS147 rfl rfl (fun _ => by kernel_rfl) rfl (by decide) (Rows.cons (cs := [.int .i64 v27]) rfl Rows.nil)) ?_
            rintro _ a151 w152 g152 ⟨⟨A148, rfl, h149⟩, F152⟩ hS151
            replace h9 := OwS.fr h9 F152 (fun _ _ h => h)
            replace h17 := OwS.fr h17 F152 (fun _ _ h => h)
            replace hp1 := RdS.fr hp1 F152 (by decide) (fun _ _ h => h)
            replace hF := hF.trans F152 (fun _ h => h.elim)
            refine st_eff hS151 rfl rfl rfl (e_append (e := 3) (sz := 1) (by_ := 8) (z := [.int .i64 0]) (kd := (kint .i64)) g152 hS151 rfl rfl rfl rfl (by kernel_rfl) (by kernel_rfl) rfl rfl rfl rfl h17 (OwD.rdx h149) (fun _ _ _ h => h) hy154) ?_
            rintro _ a159 w160 g160 ⟨⟨A155, cap156, rfl, h157⟩, F160⟩ hS159
            replace h9 := OwS.fr h9 F160 (fun c' hc (hm : c' = N + 4) => by omega)
            replace h149 := OwS.fr h149 F160 (fun c' hc (hm : c' = N + 4) => by omega)
            replace hp1 := RdS.fr hp1 F160 (by decide) (fun q (hq : C1 q) (hm : q = N + 4) => by have := hC1 q hq; omega)
            replace hF := hF.trans F160 (fun c' (hm : c' = N + 4) => by show (r0 ≤ c' ∧ c' < r0 + 2) ∨ (r1 ≤ c' ∧ c' < r1 + 2) ∨ N ≤ c'; omega)
            refine st_val hS159 rfl rfl rfl (r_assign hS159 rfl rfl) fun a161 hS161 => wpList_nil (hK _ _ ?_)
            replace hS : Sl 65 _ [(0, .int .i64 p0), (1, .slice A1 p1.length cap1), (6, .slice A155 y153.length cap156), (7, .slice A7 (upd m0_1 v27 true).length cap8)] := hS161.re ⟨rfl, rfl, rfl, rfl, trivial⟩
            clear hK K
            try clear hS146 hS147 hS151 hS159 hS161
            obtain ⟨a, ha⟩ : ∃ a', a' = a161 := ⟨_, rfl⟩
            rw [← ha] at hS ⊢; clear ha
            have e := Option.some.inj H
            exact ⟨(y153, (upd m0_1 v27 true)), g160, A155, cap156, e.symm, hS.re ⟨rfl, rfl, rfl, rfl, trivial⟩, h9, h157, hp1, hF⟩
      · clear H
        clear hp1 h9 h17 hF
        clear hS
        rintro a w19 ⟨v23, g19, A20, cap21, hpre0, hS, h9, h22, hp1, hF⟩
        subst hpre0
        have H := Fl.go_nxt Hl25
        clear Hl25
        refine ⟨k18, Nat.lt_succ_self _, ?_⟩
        exact ⟨v23.1, v23.2, g19, A20, cap21, H, hS.re ⟨rfl, rfl, rfl, rfl, trivial⟩, h9, h22, hp1, hF⟩


end Go.Proofs.Ythmjgadmadlpkaa.Sim

namespace Go.Proofs.Ythmjgadmadlpkaa.Sim
open Go
set_option linter.unusedVariables false
set_option linter.unusedSimpArgs false

/-! ### ref24_Order: function 42 -/
def ref24_Order.f (p0 : Int) (p1 : List api_Link) : Option ((List Int) × Int) := (ref24_Check.f p0 p1).bind fun r5 => if (r5 != 0) = true then (some ([], r5)) else ((ref24_remove.f p0 p1).bind fun r18 => some (r18.1, 0))
set_option maxRecDepth 100000 in
set_option maxHeartbeats 4000000 in
theorem ref24_Order.calls {p0 : Int} {p1 : List api_Link} {A1 : Option Addr} {cap1 : Nat} {C1 : Nat → Prop} {w : World} {g : Nat → Nat} {out : (List Int) × Int} (N : Nat) (r0 : Nat) (hp1 : RdS kd_api_Link w g C1 A1 cap1 p1) (hC1 : ∀ c, C1 c → c < N) (hr0 : r0 + 2 ≤ N) (H : ref24_Order.f p0 p1 = some out) :
    Calls Try.prog 42 #[.int .i64 p0, .slice A1 p1.length cap1] w (fun e w' => ∃ v, e = .returned v ∧ ∃ (g' : Nat → Nat) (A_r0 : Option Addr) (cap_r0 : Nat), v = .tuple #[.slice A_r0 out.1.length cap_r0, .int .i64 out.2] ∧ OwS (kint .i64) 3 w' g' r0 A_r0 cap_r0 out.1 ∧ Fr (fun q => (r0 ≤ q ∧ q < r0 + 2) ∨ N ≤ q) w g w' g') := by
  unfold ref24_Order.f at H
  refine calls_enter Try.func42 rfl Try.ntmps42 rfl (fun a hS => ?_)
  replace hS : Sl 22 a [(0, .int .i64 p0), (1, .slice A1 p1.length cap1)] := hS
  have hF : Fr (fun q => (r0 ≤ q ∧ q < r0 + 2) ∨ N ≤ q) w g w g := Fr.refl _ _ _
  refine c_pure [(0, .int .i64 p0), (1, .slice A1 p1.length cap1)] (fun R hR => st_val hS rfl rfl rfl (r_assign hS rfl rfl) fun a1 hS1 => st_val hS1 rfl rfl rfl (r_assign hS1 rfl rfl) fun a2 hS2 => wpList_nil (hR _ (hS2.re ⟨rfl, rfl, trivial⟩))) ?_
  clear hS
  clear a
  intro a hS
  refine wp_seq ?_
  obtain ⟨r5, hr6, H⟩ := bind_el H
  refine c_region (fun K hK => ?_)
  refine st_val hS rfl rfl rfl (r_move hS rfl rfl) fun a3 hS3 => st_val hS3 rfl rfl rfl (r_move hS3 rfl rfl) fun a4 hS4 => ?_
  refine st_enter hS4 rfl rfl rfl (r_call hS4 rfl rfl (by kernel_rfl)) (ref24_Check.calls (C1 := C1) (p0 := p0) (p1 := p1) (g := g) (N + 4)  hp1 (fun q (hq : C1 q) => by have := hC1 q hq; omega) hr6) ?_
  rintro _ a7 w8 ⟨g8, rfl, F8⟩ hS7
  replace hp1 := RdS.fr hp1 F8 (by decide) (fun q (hq : C1 q) (hm : N + 4 ≤ q) => by have := hC1 q hq; omega)
  replace hF := hF.trans F8 (fun c' (hm : N + 4 ≤ c') => by show (r0 ≤ c' ∧ c' < r0 + 2) ∨ N ≤ c'; omega)
  refine st_val hS7 rfl rfl rfl (r_assign hS7 rfl rfl) fun a9 hS9 => wpList_nil (hK _ _ ?_)
  replace hS : Sl 22 _ [(0, .int .i64 p0), (1, .slice A1 p1.length cap1), (6, .int .i64 r5)] := hS9.re ⟨rfl, rfl, rfl, trivial⟩
  clear hK K
  try clear hS3 hS4 hS7 hS9
  obtain ⟨a, ha⟩ : ∃ a', a' = a9 := ⟨_, rfl⟩
  rw [← ha] at hS ⊢; clear ha
  refine c_pure [(0, .int .i64 p0), (1, .slice A1 p1.length cap1), (6, .int .i64 r5), (13, .bool (r5 != 0))] (fun R hR => st_val hS rfl rfl rfl (r_move hS rfl rfl) fun a10 hS10 => st_val hS10 rfl rfl rfl (r_bin hS10 rfl rfl rfl b_neq) fun a11 hS11 => wpList_nil (hR _ (hS11.re ⟨rfl, rfl, rfl, rfl, trivial⟩))) ?_
  clear hS
  clear a
  intro a hS
  refine c_cond hS rfl (fun hb12 => ?_) (fun hb12 => ?_)
  · replace H := ite_t hb12 H
    refine c_pure [(4, .slice none 0 0), (5, .int .i64 r5)] (fun R hR => st_val hS rfl rfl rfl (r_move hS rfl rfl) fun a13 hS13 => st_val hS13 rfl rfl rfl (r_assign hS13 rfl rfl) fun a14 hS14 => st_val hS14 rfl rfl rfl (r_assign hS14 rfl rfl) fun a15 hS15 => wpList_nil (hR _ (hS15.re ⟨rfl, rfl, trivial⟩))) ?_
    clear hS
    clear a
    intro a hS
    refine wp_ret ?_
    have e := Option.some.inj H
    subst e
    repeat (with_reducible first | refine then_ret ?_ | refine inBlock_ret ?_)
    exact c_ret2 hS Try.results42 rfl rfl ⟨_, rfl, g8, none, 0, rfl, OwS.nil (kint .i64) 3 w8 g8 r0, hF⟩
  · replace H := ite_f hb12 H
    refine wp_skip ?_
    change Code.wp _ _ _ _ _
    obtain ⟨r18, hr19, H⟩ := bind_el H
    refine c_region (fun K hK => ?_)
    refine st_val hS rfl rfl rfl (r_move hS rfl rfl) fun a16 hS16 => st_val hS16 rfl rfl rfl (r_move hS16 rfl rfl) fun a17 hS17 => ?_
    refine st_enter hS17 rfl rfl rfl (r_call hS17 rfl rfl (by kernel_rfl)) (ref24_remove.calls (C1 := C1) (p0 := p0) (p1 := p1) (g := g8) (N + 4) (N + 0) (N + 2) hp1 (fun q (hq : C1 q) => by have := hC1 q hq; omega) (by omega) (by omega) (by omega) hr19) ?_
    rintro _ a28 w29 ⟨g29, A20, cap21, A24, cap25, rfl, h22, h26, F29⟩ hS28
    replace hp1 := RdS.fr hp1 F29 (by decide) (fun q (hq : C1 q) (hm : (N + 0 ≤ q ∧ q < N + 0 + 2) ∨ (N + 2 ≤ q ∧ q < N + 2 + 2) ∨ N + 4 ≤ q) => by have := hC1 q hq; omega)
    replace hF := hF.trans F29 (fun c' (hm : (N + 0 ≤ c' ∧ c' < N + 0 + 2) ∨ (N + 2 ≤ c' ∧ c' < N + 2 + 2) ∨ N + 4 ≤ c') => by show (r0 ≤ c' ∧ c' < r0 + 2) ∨ N ≤ c'; omega)
    refine st_val hS28 rfl rfl rfl (r_move hS28 rfl rfl) fun a30 hS30 => st_val hS30 rfl rfl rfl (r_extract hS30 rfl rfl rfl) fun a31 hS31 => st_val hS31 rfl rfl rfl (r_extract hS31 rfl rfl rfl) fun a32 hS32 => st_val hS32 rfl rfl rfl (r_assign hS32 rfl rfl) fun a33 hS33 => st_val hS33 rfl rfl rfl (r_assign hS33 rfl rfl) fun a34 hS34 => wpList_nil (hK _ _ ?_)
    replace hS : Sl 22 _ [(7, .slice A20 r18.1.length cap21)] := hS34.re ⟨rfl, trivial⟩
    clear hK K
    try clear hS16 hS17 hS28 hS30 hS31 hS32 hS33 hS34
    obtain ⟨a, ha⟩ : ∃ a', a' = a34 := ⟨_, rfl⟩
    rw [← ha] at hS ⊢; clear ha
    refine c_pure [(4, .slice A20 r18.1.length cap21), (5, .int .i64 0)] (fun R hR => st_val hS rfl rfl rfl (r_move hS rfl rfl) fun a35 hS35 => st_val hS35 rfl rfl rfl (r_assign hS35 rfl rfl) fun a36 hS36 => st_val hS36 rfl rfl rfl (r_assign hS36 rfl rfl) fun a37 hS37 => wpList_nil (hR _ (hS37.re ⟨rfl, rfl, trivial⟩))) ?_
    clear hS
    clear a
    intro a hS
    refine wp_ret ?_
    have e := Option.some.inj H
    subst e
    have F38 := Fr.recol2 w29 g29 (N + 0) r0
    replace h22 := h22.recol2 r0
    replace hF := hF.trans F38 (fun c' (hm : c' = N + 0 ∨ c' = N + 0 + 1) => by show (r0 ≤ c' ∧ c' < r0 + 2) ∨ N ≤ c'; omega)
    repeat (with_reducible first | refine then_ret ?_ | refine inBlock_ret ?_)
    exact c_ret2 hS Try.results42 rfl rfl ⟨_, rfl, (recol2 g29 (N + 0) r0), A20, cap21, rfl, h22, hF⟩


end Go.Proofs.Ythmjgadmadlpkaa.Sim

namespace Go.Proofs.Ythmjgadmadlpkaa.Sim
open Go
set_option linter.unusedVariables false
set_option linter.unusedSimpArgs false

/-! ### ref31_input: function 39 -/
def ref31_input.l0 (p0 : Int) (p2 : List Int) : Nat → Int → Option (Fl (Int) (Unit))
  | 0, _ => none
  | k46 + 1, m0_0 => if decide (m0_0 < p0) = true then ((idx p2 m0_0).bind fun x53 => if decide (9007199254740992 < x53) = true then (some (.out 1)) else (ref31_input.l0 p0 p2 k46 (wi (m0_0 + 1)))) else (some (.nxt ()))
def ref31_input.f (p0 : Int) (p1 : List api_Link) (p2 : List Int) (p3 : Int) : Option (Int) := (ref24_Check.f p0 p1).bind fun r4 => if (r4 != 0) = true then (some r4) else (if ((((p2.length : Int) != p0) || (decide (p3 < 0))) || (decide (16 < p3))) = true then (some 1) else ((ref31_input.l0 p0 p2 FUEL 0 : Option (Fl (Int) (Unit))).bind fun o43 => o43.go fun _ => some 0))
set_option maxRecDepth 100000 in
set_option maxHeartbeats 4000000 in
theorem ref31_input.calls {p0 : Int} {p1 : List api_Link} {A1 : Option Addr} {cap1 : Nat} {C1 : Nat → Prop} {p2 : List Int} {A2 : Option Addr} {cap2 : Nat} {C2 : Nat → Prop} {p3 : Int} {w : World} {g : Nat → Nat} {out : Int} (N : Nat) (hp1 : RdS kd_api_Link w g C1 A1 cap1 p1) (hC1 : ∀ c, C1 c → c < N) (hp2 : RdS (kint .u64) w g C2 A2 cap2 p2) (hC2 : ∀ c, C2 c → c < N) (H : ref31_input.f p0 p1 p2 p3 = some out) :
    Calls Try.prog 39 #[.int .i64 p0, .slice A1 p1.length cap1, .slice A2 p2.length cap2, .int .i64 p3] w (fun e w' => ∃ v, e = .returned v ∧ ∃ (g' : Nat → Nat), v = .int .i64 out ∧ Fr (fun q => N ≤ q) w g w' g') := by
  unfold ref31_input.f at H
  refine calls_enter Try.func39 rfl Try.ntmps39 rfl (fun a hS => ?_)
  replace hS : Sl 39 a [(0, .int .i64 p0), (1, .slice A1 p1.length cap1), (2, .slice A2 p2.length cap2), (3, .int .i64 p3)] := hS
  have hF : Fr (fun q => N ≤ q) w g w g := Fr.refl _ _ _
  refine c_pure [(0, .int .i64 p0), (1, .slice A1 p1.length cap1), (2, .slice A2 p2.length cap2), (3, .int .i64 p3)] (fun R hR => st_val hS rfl rfl rfl (r_assign hS rfl rfl) fun a1 hS1 => wpList_nil (hR _ (hS1.re ⟨rfl, rfl, rfl, rfl, trivial⟩))) ?_
  clear hS
  clear a
  intro a hS
  refine wp_seq ?_
  obtain ⟨r4, hr5, H⟩ := bind_el H
  refine c_region (fun K hK => ?_)
  refine st_val hS rfl rfl rfl (r_move hS rfl rfl) fun a2 hS2 => st_val hS2 rfl rfl rfl (r_move hS2 rfl rfl) fun a3 hS3 => ?_
  refine st_enter hS3 rfl rfl rfl (r_call hS3 rfl rfl (by kernel_rfl)) (ref24_Check.calls (C1 := C1) (p0 := p0) (p1 := p1) (g := g) (N + 0)  hp1 (fun q (hq : C1 q) => by have := hC1 q hq; omega) hr5) ?_
  rintro _ a6 w7 ⟨g7, rfl, F7⟩ hS6
  replace hp1 := RdS.fr hp1 F7 (by decide) (fun q (hq : C1 q) (hm : N + 0 ≤ q) => by have := hC1 q hq; omega)
  replace hp2 := RdS.fr hp2 F7 (by decide) (fun q (hq : C2 q) (hm : N + 0 ≤ q) => by have := hC2 q hq; omega)
  replace hF := hF.trans F7 (fun c' (hm : N + 0 ≤ c') => by show N ≤ c'; omega)
  refine st_val hS6 rfl rfl rfl (r_assign hS6 rfl rfl) fun a8 hS8 => wpList_nil (hK _ _ ?_)
  replace hS : Sl 39 _ [(0, .int .i64 p0), (2, .slice A2 p2.length cap2), (3, .int .i64 p3), (9, .int .i64 r4)] := hS8.re ⟨rfl, rfl, rfl, rfl, trivial⟩
  clear hK K
  try clear hS2 hS3 hS6 hS8
  obtain ⟨a, ha⟩ : ∃ a', a' = a8 := ⟨_, rfl⟩
  rw [← ha] at hS ⊢; clear ha
  refine c_pure [(0, .int .i64 p0), (2, .slice A2 p2.length cap2), (3, .int .i64 p3), (9, .int .i64 r4), (15, .bool (r4 != 0))] (fun R hR => st_val hS rfl rfl rfl (r_move hS rfl rfl) fun a9 hS9 => st_val hS9 rfl rfl rfl (r_bin hS9 rfl rfl rfl b_neq) fun a10 hS10 => wpList_nil (hR _ (hS10.re ⟨rfl, rfl, rfl, rfl, rfl, trivial⟩))) ?_
  clear hS
  clear a
  intro a hS
  refine c_cond hS rfl (fun hb11 => ?_) (fun hb11 => ?_)
  · replace H := ite_t hb11 H
    refine c_pure [(8, .int .i64 r4)] (fun R hR => st_val hS rfl rfl rfl (r_move hS rfl rfl) fun a12 hS12 => st_val hS12 rfl rfl rfl (r_assign hS12 rfl rfl) fun a13 hS13 => wpList_nil (hR _ (hS13.re ⟨rfl, trivial⟩))) ?_
    clear hS
    clear a
    intro a hS
    refine wp_ret ?_
    have e := Option.some.inj H
    subst e
    repeat (with_reducible first | refine then_ret ?_ | refine inBlock_ret ?_)
    exact c_ret1 hS Try.results39 rfl ⟨_, rfl, g7, rfl, hF⟩
  · replace H := ite_f hb11 H
    refine wp_skip ?_
    change Code.wp _ _ _ _ _
    refine wp_seq ?_
    refine c_region (fun K hK => ?_)
    refine st_val hS rfl rfl rfl (r_move hS rfl rfl) fun a14 hS14 => st_val hS14 rfl rfl rfl (r_len (e := 33) (sz := 1) (by_ := 8) hS14 rfl rfl (by kernel_rfl)) fun a15 hS15 => st_val hS15 rfl rfl rfl (r_move hS15 rfl rfl) fun a16 hS16 => st_val hS16 rfl rfl rfl (r_bin hS16 rfl rfl rfl b_neq) fun a17 hS17 => st_val hS17 rfl rfl rfl (r_move hS17 rfl rfl) fun a18 hS18 => ?_
    refine g_join (N := 39) 3 [(0, .int .i64 p0), (2, .slice A2 p2.length cap2), (3, .int .i64 p3), (24, .bool (((p2.length : Int) != p0) || (decide (p3 < 0))))] ?_ (fun hk => ?_)
    rotate_left
    · rcases Bool.eq_false_or_eq_true (((p2.length : Int) != p0)) with hb19 | hb19
      · refine st_off hS18 (want_off hS18 rfl rfl rfl hb19) rfl rfl fun a22 hS22 => st_off hS22 (want_off hS22 rfl rfl rfl hb19) rfl rfl fun a23 hS23 => st_val hS23 rfl rfl rfl (r_pickT hS23 rfl rfl rfl hb19) fun a24 hS24 => hk _ (hS24.re ⟨rfl, rfl, rfl, (by rw [hb19]; rfl), trivial⟩)
      · refine st_valW hS18 (want_on hS18 rfl rfl rfl hb19) rfl rfl (r_move hS18 rfl rfl) fun a25 hS25 => st_valW hS25 (want_on hS25 rfl rfl rfl hb19) rfl rfl (r_bin hS25 rfl rfl rfl b_lss) fun a26 hS26 => st_val hS26 rfl rfl rfl (r_pickF hS26 rfl rfl rfl hb19) fun a27 hS27 => hk _ (hS27.re ⟨rfl, rfl, rfl, (by rw [hb19]; rfl), trivial⟩)
    intro a28 hS28
    refine st_val hS28 rfl rfl rfl (r_move hS28 rfl rfl) fun a29 hS29 => ?_
    refine g_join (N := 39) 3 [(0, .int .i64 p0), (2, .slice A2 p2.length cap2), (28, .bool ((((p2.length : Int) != p0) || (decide (p3 < 0))) || (decide (16 < p3))))] ?_ (fun hk => ?_)
    rotate_left
    · rcases Bool.eq_false_or_eq_true ((((p2.length : Int) != p0) || (decide (p3 < 0)))) with hb30 | hb30
      · refine st_off hS29 (want_off hS29 rfl rfl rfl hb30) rfl rfl fun a33 hS33 => st_off hS33 (want_off hS33 rfl rfl rfl hb30) rfl rfl fun a34 hS34 => st_val hS34 rfl rfl rfl (r_pickT hS34 rfl rfl rfl hb30) fun a35 hS35 => hk _ (hS35.re ⟨rfl, rfl, (by rw [hb30]; rfl), trivial⟩)
      · refine st_valW hS29 (want_on hS29 rfl rfl rfl hb30) rfl rfl (r_move hS29 rfl rfl) fun a36 hS36 => st_valW hS36 (want_on hS36 rfl rfl rfl hb30) rfl rfl (r_bin hS36 rfl rfl rfl b_gtr) fun a37 hS37 => st_val hS37 rfl rfl rfl (r_pickF hS37 rfl rfl rfl hb30) fun a38 hS38 => hk _ (hS38.re ⟨rfl, rfl, (by rw [hb30]; rfl), trivial⟩)
    intro a39 hS39
    refine wpList_nil (hK _ _ ?_)
    replace hS : Sl 39 _ [(0, .int .i64 p0), (2, .slice A2 p2.length cap2), (28, .bool ((((p2.length : Int) != p0) || (decide (p3 < 0))) || (decide (16 < p3))))] := hS39.re ⟨rfl, rfl, rfl, trivial⟩
    clear hK K
    try clear hS14 hS15 hS16 hS17 hS18 hS28 hS29 hS39
    obtain ⟨a, ha⟩ : ∃ a', a' = a39 := ⟨_, rfl⟩
    rw [← ha] at hS ⊢; clear ha
    refine c_cond hS rfl (fun hb40 => ?_) (fun hb40 => ?_)
    · replace H := ite_t hb40 H
      refine c_pure [(8, .int .i64 1)] (fun R hR => st_val hS rfl rfl rfl (r_assign hS rfl rfl) fun a41 hS41 => wpList_nil (hR _ (hS41.re ⟨rfl, trivial⟩))) ?_
      clear hS
      clear a
      intro a hS
      refine wp_ret ?_
      have e := Option.some.inj H
      subst e
      repeat (with_reducible first | refine then_ret ?_ | refine inBlock_ret ?_)
      exact c_ret1 hS Try.results39 rfl ⟨_, rfl, g7, rfl, hF⟩
    · replace H := ite_f hb40 H
      refine wp_skip ?_
      change Code.wp _ _ _ _ _
      obtain ⟨o43, H, Hl44⟩ := bind_el H
      refine c_cut (fun a w' => o43 = .nxt () ∧ w7 = w' ∧ Sl 39 a []) ?_ ?_
      · refine c_pure [(0, .int .i64 p0), (2, .slice A2 p2.length cap2), (10, .int .i64 0)] (fun R hR => st_val hS rfl rfl rfl (r_assign hS rfl rfl) fun a45 hS45 => wpList_nil (hR _ (hS45.re ⟨rfl, rfl, rfl, trivial⟩))) ?_
        clear hS
        clear a
        intro a hS
        refine wp_block ?_
        refine wp_loop_ghost (fun kq => fun a w' => ∃ (m0_0 : Int), ref31_input.l0 p0 p2 kq m0_0 = some o43 ∧ w7 = w' ∧ Sl 39 a [(0, .int .i64 p0), (2, .slice A2 p2.length cap2), (10, .int .i64 m0_0)]) FUEL ?_ ?_
        · exact ⟨0, H, rfl, hS.re ⟨rfl, rfl, rfl, trivial⟩⟩
        · clear H
          clear hS
          rintro k46 a w' ⟨m0_0, hpre0, hw, hS⟩
          subst hw
          have H := hpre0
          clear hpre0
          cases k46 with
          | zero => exact absurd H (by simp [ref31_input.l0])
          | succ k46 =>
            rw [ref31_input.l0] at H
            refine wp_seq ?_
            refine c_pure [(0, .int .i64 p0), (2, .slice A2 p2.length cap2), (10, .int .i64 m0_0), (31, .bool (decide (m0_0 < p0)))] (fun R hR => st_val hS rfl rfl rfl (r_move hS rfl rfl) fun a47 hS47 => st_val hS47 rfl rfl rfl (r_move hS47 rfl rfl) fun a48 hS48 => st_val hS48 rfl rfl rfl (r_bin hS48 rfl rfl rfl b_lss) fun a49 hS49 => wpList_nil (hR _ (hS49.re ⟨rfl, rfl, rfl, rfl, trivial⟩))) ?_
            clear hS
            clear a
            intro a hS
            refine c_cond hS rfl (fun hb50 => ?_) (fun hb50 => ?_)
            · replace H := ite_t hb50 H
              refine wp_skip ?_
              change Code.wp _ _ _ _ _
              refine wp_seq ?_
              refine wp_block ?_
              obtain ⟨x53, hx54, H⟩ := bind_el H
              refine c_pure [(0, .int .i64 p0), (2, .slice A2 p2.length cap2), (10, .int .i64 m0_0), (38, .bool (decide (9007199254740992 < x53)))] (fun R hR => st_val hS rfl rfl rfl (r_move hS rfl rfl) fun a51 hS51 => st_val hS51 rfl rfl rfl (r_move hS51 rfl rfl) fun a52 hS52 => st_val hS52 rfl rfl rfl (r_index (e := 33) (sz := 1) (by_ := 8) hS52 rfl rfl rfl (by kernel_rfl) (RdS.some_ hp2 hx54) (idx_lo hx54) (idx_hi hx54)) fun a55 hS55 => st_val hS55 rfl rfl rfl (r_load1 (n := 1) hS55 rfl rfl (by kernel_rfl) (RdS.cell (i := m0_0) (sz := 1) (j := 0) hp2 hx54 rfl)) fun a56 hS56 => st_val hS56 rfl rfl rfl (r_bin hS56 rfl rfl rfl b_gtr) fun a57 hS57 => wpList_nil (hR _ (hS57.re ⟨rfl, rfl, rfl, rfl, trivial⟩))) ?_
              clear hS
              clear a
              intro a hS
              refine c_cond hS rfl (fun hb58 => ?_) (fun hb58 => ?_)
              · replace H := ite_t hb58 H
                refine c_pure [(8, .int .i64 1)] (fun R hR => st_val hS rfl rfl rfl (r_assign hS rfl rfl) fun a59 hS59 => wpList_nil (hR _ (hS59.re ⟨rfl, trivial⟩))) ?_
                clear hS
                clear a
                intro a hS
                refine wp_ret ?_
                have e := Option.some.inj H
                subst e
                replace H := Fl.go_out Hl44
                have e := Option.some.inj H
                subst e
                repeat (with_reducible first | refine then_ret ?_ | refine inBlock_ret ?_)
                exact c_ret1 hS Try.results39 rfl ⟨_, rfl, g7, rfl, hF⟩
              · replace H := ite_f hb58 H
                refine wp_skip ?_
                change Code.wp _ _ _ _ _
                refine c_pure1 [(0, .int .i64 p0), (2, .slice A2 p2.length cap2), (10, .int .i64 (wi (m0_0 + 1)))] (fun R hR => st_val hS rfl rfl rfl (r_move hS rfl rfl) fun a60 hS60 => st_val hS60 rfl rfl rfl (r_bin hS60 rfl rfl rfl b_add) fun a61 hS61 => st_val hS61 rfl rfl rfl (r_assign hS61 rfl rfl) fun a62 hS62 => wpList_nil (hR _ (hS62.re ⟨rfl, rfl, rfl, trivial⟩))) ?_
                clear hS
                clear a
                intro a hS
                refine ⟨k46, Nat.lt_succ_self _, ?_⟩
                exact ⟨wi (m0_0 + 1), H, rfl, hS.re ⟨rfl, rfl, rfl, trivial⟩⟩
            · replace H := ite_f hb50 H
              refine wp_exit ?_
              have e := Option.some.inj H
              exact ⟨e.symm, rfl, hS.re trivial⟩
      · clear H
        clear hS
        rintro a w' ⟨hpre0, hw, hS⟩
        subst hpre0
        subst hw
        have H := Fl.go_nxt Hl44
        clear Hl44
        refine c_pure [(8, .int .i64 0)] (fun R hR => st_val hS rfl rfl rfl (r_assign hS rfl rfl) fun a63 hS63 => wpList_nil (hR _ (hS63.re ⟨rfl, trivial⟩))) ?_
        clear hS
        clear a
        intro a hS
        refine wp_ret ?_
        have e := Option.some.inj H
        subst e
        repeat (with_reducible first | refine then_ret ?_ | refine inBlock_ret ?_)
        exact c_ret1 hS Try.results39 rfl ⟨_, rfl, g7, rfl, hF⟩


end Go.Proofs.Ythmjgadmadlpkaa.Sim

namespace Go.Proofs.Ythmjgadmadlpkaa.Sim
open Go
set_option linter.unusedVariables false
set_option linter.unusedSimpArgs false

/-! ### ref31_CriticalPath: function 21 -/
def ref31_CriticalPath.l1 (p1 : List api_Link) (m0_0 : List Int) (x60 : Int) : Nat → Int → Int → Option (Int)
  | 0, _, _ => none
  | k70 + 1, m1_0, m1_1 => if decide (m1_1 < (p1.length : Int)) = true then (((idx p1 m1_1).bind fun x81 => (if (x81.Consumer == x60) = true then (idx m0_0 x81.Supplier).bind fun x96 => some (decide (m1_0 < x96)) else some false).bind fun t102 => if t102 = true then ((idx m0_0 x81.Supplier).bind fun x138 => some x138) else (some m1_0) : Option (Int)).bind fun v76 => ref31_CriticalPath.l1 p1 m0_0 x60 k70 v76 (wi (m1_1 + 1))) else (some m1_0)
def ref31_CriticalPath.l0 (p0 : Int) (p1 : List api_Link) (p2 : List Int) (r19 : (List Int) × Int) : Nat → (List Int) → Int → Int → Option (Int)
  | 0, _, _, _ => none
  | k49 + 1, m0_0, m0_1, m0_2 => if decide (m0_2 < p0) = true then (((idx r19.1 m0_2).bind fun x60 => (ref31_CriticalPath.l1 p1 m0_0 x60 FUEL 0 0 : Option (Int)).bind fun v66 => (idx p2 x60).bind fun x151 => (idx m0_0 x60).bind fun x156 => (idx (upd m0_0 x60 (wu (v66 + x151))) x60).bind fun x163 => if decide (m0_1 < x163) = true then (some ((upd m0_0 x60 (wu (v66 + x151))), x163)) else (some ((upd m0_0 x60 (wu (v66 + x151))), m0_1)) : Option ((List Int) × Int)).bind fun v55 => ref31_CriticalPath.l0 p0 p1 p2 r19 k49 v55.1 v55.2 (wi (m0_2 + 1))) else (some m0_1)
def ref31_CriticalPath.f (p0 : Int) (p1 : List api_Link) (p2 : List Int) : Option (Int × Int) := (ref31_input.f p0 p1 p2 0).bind fun r6 => if (r6 != 0) = true then (some (0, r6)) else ((ref24_Order.f p0 p1).bind fun r19 => (mk p0 0).bind fun y33 => (ref31_CriticalPath.l0 p0 p1 p2 r19 FUEL y33 0 0 : Option (Int)).bind fun v44 => some (v44, 0))
set_option maxRecDepth 100000 in
set_option maxHeartbeats 4000000 in
theorem ref31_CriticalPath.calls {p0 : Int} {p1 : List api_Link} {A1 : Option Addr} {cap1 : Nat} {C1 : Nat → Prop} {p2 : List Int} {A2 : Option Addr} {cap2 : Nat} {C2 : Nat → Prop} {w : World} {g : Nat → Nat} {out : Int × Int} (N : Nat) (hp1 : RdS kd_api_Link w g C1 A1 cap1 p1) (hC1 : ∀ c, C1 c → c < N) (hp2 : RdS (kint .u64) w g C2 A2 cap2 p2) (hC2 : ∀ c, C2 c → c < N) (H : ref31_CriticalPath.f p0 p1 p2 = some out) :
    Calls Try.prog 21 #[.int .i64 p0, .slice A1 p1.length cap1, .slice A2 p2.length cap2] w (fun e w' => ∃ v, e = .returned v ∧ ∃ (g' : Nat → Nat), v = .tuple #[.int .u64 out.1, .int .i64 out.2] ∧ Fr (fun q => N ≤ q) w g w' g') := by
  unfold ref31_CriticalPath.f at H
  refine calls_enter Try.func21 rfl Try.ntmps21 rfl (fun a hS => ?_)
  replace hS : Sl 94 a [(0, .int .i64 p0), (1, .slice A1 p1.length cap1), (2, .slice A2 p2.length cap2)] := hS
  have hF : Fr (fun q => N ≤ q) w g w g := Fr.refl _ _ _
  refine c_pure [(0, .int .i64 p0), (1, .slice A1 p1.length cap1), (2, .slice A2 p2.length cap2)] (fun R hR => st_val hS rfl rfl rfl (r_assign hS rfl rfl) fun a1 hS1 => st_val hS1 rfl rfl rfl (r_assign hS1 rfl rfl) fun a2 hS2 => wpList_nil (hR _ (hS2.re ⟨rfl, rfl, rfl, trivial⟩))) ?_
  clear hS
  clear a
  intro a hS
  refine wp_seq ?_
  obtain ⟨r6, hr7, H⟩ := bind_el H
  refine c_region (fun K hK => ?_)
  refine st_val hS rfl rfl rfl (r_move hS rfl rfl) fun a3 hS3 => st_val hS3 rfl rfl rfl (r_move hS3 rfl rfl) fun a4 hS4 => st_val hS4 rfl rfl rfl (r_move hS4 rfl rfl) fun a5 hS5 => ?_
  refine st_enter hS5 rfl rfl rfl (r_call hS5 rfl rfl (by kernel_rfl)) (ref31_input.calls (C1 := C1) (C2 := C2) (p0 := p0) (p1 := p1) (p2 := p2) (p3 := 0) (g := g) (N + 4)  hp1 (fun q (hq : C1 q) => by have := hC1 q hq; omega) hp2 (fun q (hq : C2 q) => by have := hC2 q hq; omega) hr7) ?_
  rintro _ a8 w9 ⟨g9, rfl, F9⟩ hS8
  replace hp1 := RdS.fr hp1 F9 (by decide) (fun q (hq : C1 q) (hm : N + 4 ≤ q) => by have := hC1 q hq; omega)
  replace hp2 := RdS.fr hp2 F9 (by decide) (fun q (hq : C2 q) (hm : N + 4 ≤ q) => by have := hC2 q hq; omega)
  replace hF := hF.trans F9 (fun c' (hm : N + 4 ≤ c') => by show N ≤ c'; omega)
  refine st_val hS8 rfl rfl rfl (r_assign hS8 rfl rfl) fun a10 hS10 => wpList_nil (hK _ _ ?_)
  replace hS : Sl 94 _ [(0, .int .i64 p0), (1, .slice A1 p1.length cap1), (2, .slice A2 p2.length cap2), (8, .int .i64 r6)] := hS10.re ⟨rfl, rfl, rfl, rfl, trivial⟩
  clear hK K
  try clear hS3 hS4 hS5 hS8 hS10
  obtain ⟨a, ha⟩ : ∃ a', a' = a10 := ⟨_, rfl⟩
  rw [← ha] at hS ⊢; clear ha
  refine c_pure [(0, .int .i64 p0), (1, .slice A1 p1.length cap1), (2, .slice A2 p2.length cap2), (8, .int .i64 r6), (22, .bool (r6 != 0))] (fun R hR => st_val hS rfl rfl rfl (r_move hS rfl rfl) fun a11 hS11 => st_val hS11 rfl rfl rfl (r_bin hS11 rfl rfl rfl b_neq) fun a12 hS12 => wpList_nil (hR _ (hS12.re ⟨rfl, rfl, rfl, rfl, rfl, trivial⟩))) ?_
  clear hS
  clear a
  intro a hS
  refine c_cond hS rfl (fun hb13 => ?_) (fun hb13 => ?_)
  · replace H := ite_t hb13 H
    refine c_pure [(6, .int .u64 0), (7, .int .i64 r6)] (fun R hR => st_val hS rfl rfl rfl (r_move hS rfl rfl) fun a14 hS14 => st_val hS14 rfl rfl rfl (r_assign hS14 rfl rfl) fun a15 hS15 => st_val hS15 rfl rfl rfl (r_assign hS15 rfl rfl) fun a16 hS16 => wpList_nil (hR _ (hS16.re ⟨rfl, rfl, trivial⟩))) ?_
    clear hS
    clear a
    intro a hS
    refine wp_ret ?_
    have e := Option.some.inj H
    subst e
    repeat (with_reducible first | refine then_ret ?_ | refine inBlock_ret ?_)
    exact c_ret2 hS Try.results21 rfl rfl ⟨_, rfl, g9, rfl, hF⟩
  · replace H := ite_f hb13 H
    refine wp_skip ?_
    change Code.wp _ _ _ _ _
    obtain ⟨r19, hr20, H⟩ := bind_el H
    refine c_region (fun K hK => ?_)
    refine st_val hS rfl rfl rfl (r_move hS rfl rfl) fun a17 hS17 => st_val hS17 rfl rfl rfl (r_move hS17 rfl rfl) fun a18 hS18 => ?_
    refine st_enter hS18 rfl rfl rfl (r_call hS18 rfl rfl (by kernel_rfl)) (ref24_Order.calls (C1 := C1) (p0 := p0) (p1 := p1) (g := g9) (N + 4) (N + 0) hp1 (fun q (hq : C1 q) => by have := hC1 q hq; omega) (by omega) hr20) ?_
    rintro _ a25 w26 ⟨g26, A21, cap22, rfl, h23, F26⟩ hS25
    replace hp1 := RdS.fr hp1 F26 (by decide) (fun q (hq : C1 q) (hm : (N + 0 ≤ q ∧ q < N + 0 + 2) ∨ N + 4 ≤ q) => by have := hC1 q hq; omega)
    replace hp2 := RdS.fr hp2 F26 (by decide) (fun q (hq : C2 q) (hm : (N + 0 ≤ q ∧ q < N + 0 + 2) ∨ N + 4 ≤ q) => by have := hC2 q hq; omega)
    replace hF := hF.trans F26 (fun c' (hm : (N + 0 ≤ c' ∧ c' < N + 0 + 2) ∨ N + 4 ≤ c') => by show N ≤ c'; omega)
    refine st_val hS25 rfl rfl rfl (r_move hS25 rfl rfl) fun a27 hS27 => st_val hS27 rfl rfl rfl (r_extract hS27 rfl rfl rfl) fun a28 hS28 => st_val hS28 rfl rfl rfl (r_extract hS28 rfl rfl rfl) fun a29 hS29 => st_val hS29 rfl rfl rfl (r_assign hS29 rfl rfl) fun a30 hS30 => st_val hS30 rfl rfl rfl (r_assign hS30 rfl rfl) fun a31 hS31 => wpList_nil (hK _ _ ?_)
    replace hS : Sl 94 _ [(0, .int .i64 p0), (1, .slice A1 p1.length cap1), (2, .slice A2 p2.length cap2), (9, .slice A21 r19.1.length cap22)] := hS31.re ⟨rfl, rfl, rfl, rfl, trivial⟩
    clear hK K
    try clear hS17 hS18 hS25 hS27 hS28 hS29 hS30 hS31
    obtain ⟨a, ha⟩ : ∃ a', a' = a31 := ⟨_, rfl⟩
    rw [← ha] at hS ⊢; clear ha
    obtain ⟨y33, hy34, H⟩ := bind_el H
    refine c_region (fun K hK => ?_)
    refine st_val hS rfl rfl rfl (r_move hS rfl rfl) fun a32 hS32 => ?_
    refine st_eff hS32 rfl rfl rfl (e_make (e := 33) (sz := 1) (by_ := 8) (z := [.int .u64 0]) (kd := (kint .u64)) (N + 2) g26 hS32 rfl rfl (by kernel_rfl) (by kernel_rfl) rfl rfl rfl (fun _ _ _ => by exact rfl) hy34) ?_
    rintro _ a39 w40 g40 ⟨⟨A35, cap36, rfl, h37⟩, F40⟩ hS39
    replace h23 := OwS.fr h23 F40 (fun _ _ h => h)
    replace hp1 := RdS.fr hp1 F40 (by decide) (fun _ _ h => h)
    replace hp2 := RdS.fr hp2 F40 (by decide) (fun _ _ h => h)
    replace hF := hF.trans F40 (fun _ h => h.elim)
    refine st_val hS39 rfl rfl rfl (r_assign hS39 rfl rfl) fun a41 hS41 => wpList_nil (hK _ _ ?_)
    replace hS : Sl 94 _ [(0, .int .i64 p0), (1, .slice A1 p1.length cap1), (2, .slice A2 p2.length cap2), (9, .slice A21 r19.1.length cap22), (11, .slice A35 y33.length cap36)] := hS41.re ⟨rfl, rfl, rfl, rfl, rfl, trivial⟩
    clear hK K
    try clear hS32 hS39 hS41
    obtain ⟨a, ha⟩ : ∃ a', a' = a41 := ⟨_, rfl⟩
    rw [← ha] at hS ⊢; clear ha
    refine c_pure [(0, .int .i64 p0), (1, .slice A1 p1.length cap1), (2, .slice A2 p2.length cap2), (9, .slice A21 r19.1.length cap22), (11, .slice A35 y33.length cap36), (12, .int .u64 0)] (fun R hR => st_val hS rfl rfl rfl (r_assign hS rfl rfl) fun a42 hS42 => wpList_nil (hR _ (hS42.re ⟨rfl, rfl, rfl, rfl, rfl, rfl, trivial⟩))) ?_
    clear hS
    clear a
    intro a hS
    obtain ⟨v44, H, Hl46⟩ := bind_el H
    refine c_cut (fun a w43 => ∃ (g43 : Nat → Nat), Sl 94 a [(12, .int .u64 v44)] ∧ Fr (fun q => N ≤ q) w g w43 g43) ?_ ?_
    · refine c_pure [(0, .int .i64 p0), (1, .slice A1 p1.length cap1), (2, .slice A2 p2.length cap2), (9, .slice A21 r19.1.length cap22), (11, .slice A35 y33.length cap36), (12, .int .u64 0), (13, .int .i64 0)] (fun R hR => st_val hS rfl rfl rfl (r_assign hS rfl rfl) fun a47 hS47 => wpList_nil (hR _ (hS47.re ⟨rfl, rfl, rfl, rfl, rfl, rfl, rfl, trivial⟩))) ?_
      clear hS
      clear a
      intro a hS
      refine wp_block ?_
      refine wp_loop_ghost (fun kq => fun a w48 => ∃ (m0_0 : List Int), ∃ (m0_1 : Int), ∃ (m0_2 : Int), ∃ (g48 : Nat → Nat), ref31_CriticalPath.l0 p0 p1 p2 r19 kq m0_0 m0_1 m0_2 = some v44 ∧ Sl 94 a [(0, .int .i64 p0), (1, .slice A1 p1.length cap1), (2, .slice A2 p2.length cap2), (9, .slice A21 r19.1.length cap22), (11, .slice A35 m0_0.length cap36), (12, .int .u64 m0_1), (13, .int .i64 m0_2)] ∧ OwS (kint .i64) 3 w48 g48 (N + 0) A21 cap22 r19.1 ∧ OwS (kint .u64) 33 w48 g48 (N + 2) A35 cap36 m0_0 ∧ RdS kd_api_Link w48 g48 C1 A1 cap1 p1 ∧ RdS (kint .u64) w48 g48 C2 A2 cap2 p2 ∧ Fr (fun q => N ≤ q) w g w48 g48) FUEL ?_ ?_
      · exact ⟨y33, 0, 0, g40, H, hS.re ⟨rfl, rfl, rfl, rfl, rfl, rfl, rfl, trivial⟩, h23, h37, hp1, hp2, hF⟩
      · clear H
        clear hp1 hp2 h23 h37 hF
        clear hS
        rintro k49 a w48 ⟨m0_0, m0_1, m0_2, g48, hpre0, hS, h23, h37, hp1, hp2, hF⟩
        have H := hpre0
        clear hpre0
        cases k49 with
        | zero => exact absurd H (by simp [ref31_CriticalPath.l0])
        | succ k49 =>
          rw [ref31_CriticalPath.l0] at H
          refine wp_seq ?_
          refine c_pure [(0, .int .i64 p0), (1, .slice A1 p1.length cap1), (2, .slice A2 p2.length cap2), (9, .slice A21 r19.1.length cap22), (11, .slice A35 m0_0.length cap36), (12, .int .u64 m0_1), (13, .int .i64 m0_2), (34, .bool (decide (m0_2 < p0)))] (fun R hR => st_val hS rfl rfl rfl (r_move hS rfl rfl) fun a50 hS50 => st_val hS50 rfl rfl rfl (r_move hS50 rfl rfl) fun a51 hS51 => st_val hS51 rfl rfl rfl (r_bin hS51 rfl rfl rfl b_lss) fun a52 hS52 => wpList_nil (hR _ (hS52.re ⟨rfl, rfl, rfl, rfl, rfl, rfl, rfl, rfl, trivial⟩))) ?_
          clear hS
          clear a
          intro a hS
          refine c_cond hS rfl (fun hb53 => ?_) (fun hb53 => ?_)
          · replace H := ite_t hb53 H
            refine wp_skip ?_
            change Code.wp _ _ _ _ _
            obtain ⟨v55, H, Hl57⟩ := bind_el H
            refine c_cut (fun a w54 => ∃ (g54 : Nat → Nat), Sl 94 a [(0, .int .i64 p0), (1, .slice A1 p1.length cap1), (2, .slice A2 p2.length cap2), (9, .slice A21 r19.1.length cap22), (11, .slice A35 v55.1.length cap36), (12, .int .u64 v55.2), (13, .int .i64 m0_2)] ∧ OwS (kint .i64) 3 w54 g54 (N + 0) A21 cap22 r19.1 ∧ OwS (kint .u64) 33 w54 g54 (N + 2) A35 cap36 v55.1 ∧ RdS kd_api_Link w54 g54 C1 A1 cap1 p1 ∧ RdS (kint .u64) w54 g54 C2 A2 cap2 p2 ∧ Fr (fun q => N ≤ q) w g w54 g54) ?_ ?_
            · refine wp_block ?_
              obtain ⟨x60, hx61, H⟩ := bind_el H
              refine c_pure [(0, .int .i64 p0), (1, .slice A1 p1.length cap1), (2, .slice A2 p2.length cap2), (9, .slice A21 r19.1.length cap22), (11, .slice A35 m0_0.length cap36), (12, .int .u64 m0_1), (13, .int .i64 m0_2), (14, .int .i64 x60)] (fun R hR => st_val hS rfl rfl rfl (r_move hS rfl rfl) fun a58 hS58 => st_val hS58 rfl rfl rfl (r_move hS58 rfl rfl) fun a59 hS59 => st_val hS59 rfl rfl rfl (r_index (e := 3) (sz := 1) (by_ := 8) hS59 rfl rfl rfl (by kernel_rfl) (RdS.some_ (OwS.rd h23) hx61) (idx_lo hx61) (idx_hi hx61)) fun a62 hS62 => st_val hS62 rfl rfl rfl (r_load1 (n := 1) hS62 rfl rfl (by kernel_rfl) (RdS.cell (i := m0_2) (sz := 1) (j := 0) (OwS.rd h23) hx61 rfl)) fun a63 hS63 => st_val hS63 rfl rfl rfl (r_assign hS63 rfl rfl) fun a64 hS64 => wpList_nil (hR _ (hS64.re ⟨rfl, rfl, rfl, rfl, rfl, rfl, rfl, rfl, trivial⟩))) ?_
              clear hS
              clear a
              intro a hS
              refine c_pure [(0, .int .i64 p0), (1, .slice A1 p1.length cap1), (2, .slice A2 p2.length cap2), (9, .slice A21 r19.1.length cap22), (11, .slice A35 m0_0.length cap36), (12, .int .u64 m0_1), (13, .int .i64 m0_2), (14, .int .i64 x60), (15, .int .u64 0)] (fun R hR => st_val hS rfl rfl rfl (r_assign hS rfl rfl) fun a65 hS65 => wpList_nil (hR _ (hS65.re ⟨rfl, rfl, rfl, rfl, rfl, rfl, rfl, rfl, rfl, trivial⟩))) ?_
              clear hS
              clear a
              intro a hS
              obtain ⟨v66, H, Hl68⟩ := bind_el H
              refine c_cut (fun a w' => w48 = w' ∧ Sl 94 a [(0, .int .i64 p0), (1, .slice A1 p1.length cap1), (2, .slice A2 p2.length cap2), (9, .slice A21 r19.1.length cap22), (11, .slice A35 m0_0.length cap36), (12, .int .u64 m0_1), (13, .int .i64 m0_2), (14, .int .i64 x60), (15, .int .u64 v66)]) ?_ ?_
              · refine c_pure [(0, .int .i64 p0), (1, .slice A1 p1.length cap1), (2, .slice A2 p2.length cap2), (9, .slice A21 r19.1.length cap22), (11, .slice A35 m0_0.length cap36), (12, .int .u64 m0_1), (13, .int .i64 m0_2), (14, .int .i64 x60), (15, .int .u64 0), (16, .int .i64 0)] (fun R hR => st_val hS rfl rfl rfl (r_assign hS rfl rfl) fun a69 hS69 => wpList_nil (hR _ (hS69.re ⟨rfl, rfl, rfl, rfl, rfl, rfl, rfl, rfl, rfl, rfl, trivial⟩))) ?_
                clear hS
                clear a
                intro a hS
                refine wp_block ?_
                refine wp_loop_ghost (fun kq => fun a w' => ∃ (m1_0 : Int), ∃ (m1_1 : Int), ref31_CriticalPath.l1 p1 m0_0 x60 kq m1_0 m1_1 = some v66 ∧ w48 = w' ∧ Sl 94 a [(0, .int .i64 p0), (1, .slice A1 p1.length cap1), (2, .slice A2 p2.length cap2), (9, .slice A21 r19.1.length cap22), (11, .slice A35 m0_0.length cap36), (12, .int .u64 m0_1), (13, .int .i64 m0_2), (14, .int .i64 x60), (15, .int .u64 m1_0), (16, .int .i64 m1_1)]) FUEL ?_ ?_
                · exact ⟨0, 0, H, rfl, hS.re ⟨rfl, rfl, rfl, rfl, rfl, rfl, rfl, rfl, rfl, rfl, trivial⟩⟩
                · clear H
                  clear hS
                  rintro k70 a w' ⟨m1_0, m1_1, hpre0, hw, hS⟩
                  subst hw
                  have H := hpre0
                  clear hpre0
                  cases k70 with
                  | zero => exact absurd H (by simp [ref31_CriticalPath.l1])
                  | succ k70 =>
                    rw [ref31_CriticalPath.l1] at H
                    refine wp_seq ?_
                    refine c_pure [(0, .int .i64 p0), (1, .slice A1 p1.length cap1), (2, .slice A2 p2.length cap2), (9, .slice A21 r19.1.length cap22), (11, .slice A35 m0_0.length cap36), (12, .int .u64 m0_1), (13, .int .i64 m0_2), (14, .int .i64 x60), (15, .int .u64 m1_0), (16, .int .i64 m1_1), (44, .bool (decide (m1_1 < (p1.length : Int))))] (fun R hR => st_val hS rfl rfl rfl (r_move hS rfl rfl) fun a71 hS71 => st_val hS71 rfl rfl rfl (r_move hS71 rfl rfl) fun a72 hS72 => st_val hS72 rfl rfl rfl (r_len (e := 43) (sz := 2) (by_ := 16) hS72 rfl rfl (by kernel_rfl)) fun a73 hS73 => st_val hS73 rfl rfl rfl (r_bin hS73 rfl rfl rfl b_lss) fun a74 hS74 => wpList_nil (hR _ (hS74.re ⟨rfl, rfl, rfl, rfl, rfl, rfl, rfl, rfl, rfl, rfl, rfl, trivial⟩))) ?_
                    clear hS
                    clear a
                    intro a hS
                    refine c_cond hS rfl (fun hb75 => ?_) (fun hb75 => ?_)
                    · replace H := ite_t hb75 H
                      refine wp_skip ?_
                      change Code.wp _ _ _ _ _
                      obtain ⟨v76, H, Hl78⟩ := bind_el H
                      refine c_cut (fun a w' => w48 = w' ∧ Sl 94 a [(0, .int .i64 p0), (1, .slice A1 p1.length cap1), (2, .slice A2 p2.length cap2), (9, .slice A21 r19.1.length cap22), (11, .slice A35 m0_0.length cap36), (12, .int .u64 m0_1), (13, .int .i64 m0_2), (14, .int .i64 x60), (15, .int .u64 v76), (16, .int .i64 m1_1)]) ?_ ?_
                      · refine wp_block ?_
                        obtain ⟨x81, hx82, H⟩ := bind_el H
                        obtain ⟨t102, ht103, H⟩ := bind_el H
                        refine c_region (fun K hK => ?_)
                        refine st_val hS rfl rfl rfl (r_move hS rfl rfl) fun a79 hS79 => st_val hS79 rfl rfl rfl (r_move hS79 rfl rfl) fun a80 hS80 => st_val hS80 rfl rfl rfl (r_index (e := 43) (sz := 2) (by_ := 16) hS80 rfl rfl rfl (by kernel_rfl) (RdS.some_ hp1 hx82) (idx_lo hx82) (idx_hi hx82)) fun a83 hS83 => st_val hS83 rfl rfl rfl (r_fieldE (off := 0) hS83 rfl rfl (by kernel_rfl)) fun a84 hS84 => st_val hS84 rfl rfl rfl (r_load1 (n := 1) hS84 rfl rfl (by kernel_rfl) (RdS.cell (i := m1_1) (sz := 2) (j := 0) hp1 hx82 rfl)) fun a85 hS85 => st_val hS85 rfl rfl rfl (r_move hS85 rfl rfl) fun a86 hS86 => st_val hS86 rfl rfl rfl (r_bin hS86 rfl rfl rfl b_eql) fun a87 hS87 => st_val hS87 rfl rfl rfl (r_move hS87 rfl rfl) fun a88 hS88 => ?_
                        refine g_join (N := 94) 11 [(0, .int .i64 p0), (1, .slice A1 p1.length cap1), (2, .slice A2 p2.length cap2), (9, .slice A21 r19.1.length cap22), (11, .slice A35 m0_0.length cap36), (12, .int .u64 m0_1), (13, .int .i64 m0_2), (14, .int .i64 x60), (15, .int .u64 m1_0), (16, .int .i64 m1_1), (65, .bool t102)] ?_ (fun hk => ?_)
                        rotate_left
                        · rcases Bool.eq_false_or_eq_true ((x81.Consumer == x60)) with hb89 | hb89
                          · have H := ite_t hb89 ht103
                            obtain ⟨x110, hx111, H⟩ := bind_el H
                            have e116 := Option.some.inj H
                            refine st_valW hS88 (want_on hS88 rfl rfl rfl hb89) rfl rfl (r_move hS88 rfl rfl) fun a104 hS104 => st_valW hS104 (want_on hS104 rfl rfl rfl hb89) rfl rfl (r_move hS104 rfl rfl) fun a105 hS105 => st_valW hS105 (want_on hS105 rfl rfl rfl hb89) rfl rfl (r_move hS105 rfl rfl) fun a106 hS106 => st_valW hS106 (want_on hS106 rfl rfl rfl hb89) rfl rfl (r_index (e := 43) (sz := 2) (by_ := 16) hS106 rfl rfl rfl (by kernel_rfl) (RdS.some_ hp1 hx82) (idx_lo hx82) (idx_hi hx82)) fun a107 hS107 => st_valW hS107 (want_on hS107 rfl rfl rfl hb89) rfl rfl (r_fieldE (off := 1) hS107 rfl rfl (by kernel_rfl)) fun a108 hS108 => st_valW hS108 (want_on hS108 rfl rfl rfl hb89) rfl rfl (r_load1 (n := 1) hS108 rfl rfl (by kernel_rfl) (RdS.cell (i := m1_1) (sz := 2) (j := 1) hp1 hx82 rfl)) fun a109 hS109 => st_valW hS109 (want_on hS109 rfl rfl rfl hb89) rfl rfl (r_index (e := 33) (sz := 1) (by_ := 8) hS109 rfl rfl rfl (by kernel_rfl) (RdS.some_ (OwS.rd h37) hx111) (idx_lo hx111) (idx_hi hx111)) fun a112 hS112 => st_valW hS112 (want_on hS112 rfl rfl rfl hb89) rfl rfl (r_load1 (n := 1) hS112 rfl rfl (by kernel_rfl) (RdS.cell (i := x81.Supplier) (sz := 1) (j := 0) (OwS.rd h37) hx111 rfl)) fun a113 hS113 => st_valW hS113 (want_on hS113 rfl rfl rfl hb89) rfl rfl (r_move hS113 rfl rfl) fun a114 hS114 => st_valW hS114 (want_on hS114 rfl rfl rfl hb89) rfl rfl (r_bin hS114 rfl rfl rfl b_gtr) fun a115 hS115 => st_val hS115 rfl rfl rfl (r_pickT hS115 rfl rfl rfl hb89) fun a117 hS117 => hk _ (hS117.re ⟨rfl, rfl, rfl, rfl, rfl, rfl, rfl, rfl, rfl, rfl, (by rw [← e116]; rfl), trivial⟩)
                          · have H := ite_f hb89 ht103
                            have e118 := Option.some.inj H
                            refine st_off hS88 (want_off hS88 rfl rfl rfl hb89) rfl rfl fun a119 hS119 => st_off hS119 (want_off hS119 rfl rfl rfl hb89) rfl rfl fun a120 hS120 => st_off hS120 (want_off hS120 rfl rfl rfl hb89) rfl rfl fun a121 hS121 => st_off hS121 (want_off hS121 rfl rfl rfl hb89) rfl rfl fun a122 hS122 => st_off hS122 (want_off hS122 rfl rfl rfl hb89) rfl rfl fun a123 hS123 => st_off hS123 (want_off hS123 rfl rfl rfl hb89) rfl rfl fun a124 hS124 => st_off hS124 (want_off hS124 rfl rfl rfl hb89) rfl rfl fun a125 hS125 => st_off hS125 (want_off hS125 rfl rfl rfl hb89) rfl rfl fun a126 hS126 => st_off hS126 (want_off hS126 rfl rfl rfl hb89) rfl rfl fun a127 hS127 => st_off hS127 (want_off hS127 rfl rfl rfl hb89) rfl rfl fun a128 hS128 => st_val hS128 rfl rfl rfl (r_pickF hS128 rfl rfl rfl hb89) fun a129 hS129 => hk _ (hS129.re ⟨rfl, rfl, rfl, rfl, rfl, rfl, rfl, rfl, rfl, rfl, (by rw [← e118]; rfl), trivial⟩)
                        intro a130 hS130
                        refine wpList_nil (hK _ _ ?_)
                        replace hS : Sl 94 _ [(0, .int .i64 p0), (1, .slice A1 p1.length cap1), (2, .slice A2 p2.length cap2), (9, .slice A21 r19.1.length cap22), (11, .slice A35 m0_0.length cap36), (12, .int .u64 m0_1), (13, .int .i64 m0_2), (14, .int .i64 x60), (15, .int .u64 m1_0), (16, .int .i64 m1_1), (65, .bool t102)] := hS130.re ⟨rfl, rfl, rfl, rfl, rfl, rfl, rfl, rfl, rfl, rfl, rfl, trivial⟩
                        clear hK K
                        try clear hS79 hS80 hS83 hS84 hS85 hS86 hS87 hS88 hS130
                        obtain ⟨a, ha⟩ : ∃ a', a' = a130 := ⟨_, rfl⟩
                        rw [← ha] at hS ⊢; clear ha
                        refine c_cond hS rfl (fun hb131 => ?_) (fun hb131 => ?_)
                        · replace H := ite_t hb131 H
                          obtain ⟨x138, hx139, H⟩ := bind_el H
                          refine c_pure1 [(0, .int .i64 p0), (1, .slice A1 p1.length cap1), (2, .slice A2 p2.length cap2), (9, .slice A21 r19.1.length cap22), (11, .slice A35 m0_0.length cap36), (12, .int .u64 m0_1), (13, .int .i64 m0_2), (14, .int .i64 x60), (15, .int .u64 x138), (16, .int .i64 m1_1)] (fun R hR => st_val hS rfl rfl rfl (r_move hS rfl rfl) fun a132 hS132 => st_val hS132 rfl rfl rfl (r_move hS132 rfl rfl) fun a133 hS133 => st_val hS133 rfl rfl rfl (r_move hS133 rfl rfl) fun a134 hS134 => st_val hS134 rfl rfl rfl (r_index (e := 43) (sz := 2) (by_ := 16) hS134 rfl rfl rfl (by kernel_rfl) (RdS.some_ hp1 hx82) (idx_lo hx82) (idx_hi hx82)) fun a135 hS135 => st_val hS135 rfl rfl rfl (r_fieldE (off := 1) hS135 rfl rfl (by kernel_rfl)) fun a136 hS136 => st_val hS136 rfl rfl rfl (r_load1 (n := 1) hS136 rfl rfl (by kernel_rfl) (RdS.cell (i := m1_1) (sz := 2) (j := 1) hp1 hx82 rfl)) fun a137 hS137 => st_val hS137 rfl rfl rfl (r_index (e := 33) (sz := 1) (by_ := 8) hS137 rfl rfl rfl (by kernel_rfl) (RdS.some_ (OwS.rd h37) hx139) (idx_lo hx139) (idx_hi hx139)) fun a140 hS140 => st_val hS140 rfl rfl rfl (r_load1 (n := 1) hS140 rfl rfl (by kernel_rfl) (RdS.cell (i := x81.Supplier) (sz := 1) (j := 0) (OwS.rd h37) hx139 rfl)) fun a141 hS141 => st_val hS141 rfl rfl rfl (r_assign hS141 rfl rfl) fun a142 hS142 => wpList_nil (hR _ (hS142.re ⟨rfl, rfl, rfl, rfl, rfl, rfl, rfl, rfl, rfl, rfl, trivial⟩))) ?_
                          clear hS
                          clear a
                          intro a hS
                          have e := Option.some.inj H
                          subst e
                          exact ⟨rfl, hS.re ⟨rfl, rfl, rfl, rfl, rfl, rfl, rfl, rfl, rfl, rfl, trivial⟩⟩
                        · replace H := ite_f hb131 H
                          refine wp_skip ?_
                          have e := Option.some.inj H
                          subst e
                          exact ⟨rfl, hS.re ⟨rfl, rfl, rfl, rfl, rfl, rfl, rfl, rfl, rfl, rfl, trivial⟩⟩
                      · clear H
                        clear hS
                        rintro a w' ⟨hw, hS⟩
                        subst hw
                        have H := Hl78
                        clear Hl78
                        refine c_pure1 [(0, .int .i64 p0), (1, .slice A1 p1.length cap1), (2, .slice A2 p2.length cap2), (9, .slice A21 r19.1.length cap22), (11, .slice A35 m0_0.length cap36), (12, .int .u64 m0_1), (13, .int .i64 m0_2), (14, .int .i64 x60), (15, .int .u64 v76), (16, .int .i64 (wi (m1_1 + 1)))] (fun R hR => st_val hS rfl rfl rfl (r_move hS rfl rfl) fun a143 hS143 => st_val hS143 rfl rfl rfl (r_bin hS143 rfl rfl rfl b_add) fun a144 hS144 => st_val hS144 rfl rfl rfl (r_assign hS144 rfl rfl) fun a145 hS145 => wpList_nil (hR _ (hS145.re ⟨rfl, rfl, rfl, rfl, rfl, rfl, rfl, rfl, rfl, rfl, trivial⟩))) ?_
                        clear hS
                        clear a
                        intro a hS
                        refine ⟨k70, Nat.lt_succ_self _, ?_⟩
                        exact ⟨v76, wi (m1_1 + 1), H, rfl, hS.re ⟨rfl, rfl, rfl, rfl, rfl, rfl, rfl, rfl, rfl, rfl, trivial⟩⟩
                    · replace H := ite_f hb75 H
                      refine wp_exit ?_
                      have e := Option.some.inj H
                      subst e
                      exact ⟨rfl, hS.re ⟨rfl, rfl, rfl, rfl, rfl, rfl, rfl, rfl, rfl, trivial⟩⟩
              · clear H
                clear hS
                rintro a w' ⟨hw, hS⟩
                subst hw
                have H := Hl68
                clear Hl68
                obtain ⟨x151, hx152, H⟩ := bind_el H
                obtain ⟨x156, hx157, H⟩ := bind_el H
                refine c_region (fun K hK => ?_)
                refine st_val hS rfl rfl rfl (r_move hS rfl rfl) fun a146 hS146 => st_val hS146 rfl rfl rfl (r_move hS146 rfl rfl) fun a147 hS147 => st_val hS147 rfl rfl rfl (r_move hS147 rfl rfl) fun a148 hS148 => st_val hS148 rfl rfl rfl (r_move hS148 rfl rfl) fun a149 hS149 => st_val hS149 rfl rfl rfl (r_move hS149 rfl rfl) fun a150 hS150 => st_val hS150 rfl rfl rfl (r_index (e := 33) (sz := 1) (by_ := 8) hS150 rfl rfl rfl (by kernel_rfl) (RdS.some_ hp2 hx152) (idx_lo hx152) (idx_hi hx152)) fun a153 hS153 => st_val hS153 rfl rfl rfl (r_load1 (n := 1) hS153 rfl rfl (by kernel_rfl) (RdS.cell (i := x60) (sz := 1) (j := 0) hp2 hx152 rfl)) fun a154 hS154 => st_val hS154 rfl rfl rfl (r_bin hS154 rfl rfl rfl b_add) fun a155 hS155 => st_val hS155 rfl rfl rfl (r_index (e := 33) (sz := 1) (by_ := 8) hS155 rfl rfl rfl (by kernel_rfl) (RdS.some_ (OwS.rd h37) hx157) (idx_lo hx157) (idx_hi hx157)) fun a158 hS158 => ?_
                refine st_effS hS158 rfl rfl (e_storeE (n := 1) (bb := false) (kd := (kint .u64)) (j := 0) (x' := wu (v66 + x151)) (us := [.int .u64 (wu (v66 + x151))]) g48 hS158 rfl rfl rfl rfl (by kernel_rfl) rfl rfl (by intro v hv; simp only [List.mem_cons, List.not_mem_nil, or_false] at hv; rcases hv with rfl <;> rfl) h37 hx157 rfl (fun _ _ cs hR => by rw [show cs = _ from hR]; rfl)) ?_
                rintro a159 w160 g160 ⟨h37, F160⟩ hS159
                replace h23 := OwS.fr h23 F160 (fun c' hc (hm : c' = N + 2) => by omega)
                replace hp1 := RdS.fr hp1 F160 (by decide) (fun q (hq : C1 q) (hm : q = N + 2) => by have := hC1 q hq; omega)
                replace hp2 := RdS.fr hp2 F160 (by decide) (fun q (hq : C2 q) (hm : q = N + 2) => by have := hC2 q hq; omega)
                replace hF := hF.trans F160 (fun c' (hm : c' = N + 2) => by show N ≤ c'; omega)
                have hT : Sl 94 a159 [(0, .int .i64 p0), (1, .slice A1 p1.length cap1), (2, .slice A2 p2.length cap2), (9, .slice A21 r19.1.length cap22), (11, .slice A35 m0_0.length cap36), (12, .int .u64 m0_1), (13, .int .i64 m0_2), (14, .int .i64 x60)] := hS159.re ⟨rfl, rfl, rfl, rfl, rfl, rfl, rfl, rfl, trivial⟩
                replace hS159 : Sl 94 a159 [(0, .int .i64 p0), (1, .slice A1 p1.length cap1), (2, .slice A2 p2.length cap2), (9, .slice A21 r19.1.length cap22), (11, .slice A35 (upd m0_0 x60 (wu (v66 + x151))).length cap36), (12, .int .u64 m0_1), (13, .int .i64 m0_2), (14, .int .i64 x60)] := by simpa only [upd_length] using hT
                clear hT
                refine wpList_nil (hK _ _ ?_)
                replace hS : Sl 94 _ [(0, .int .i64 p0), (1, .slice A1 p1.length cap1), (2, .slice A2 p2.length cap2), (9, .slice A21 r19.1.length cap22), (11, .slice A35 (upd m0_0 x60 (wu (v66 + x151))).length cap36), (12, .int .u64 m0_1), (13, .int .i64 m0_2), (14, .int .i64 x60)] := hS159.re ⟨rfl, rfl, rfl, rfl, rfl, rfl, rfl, rfl, trivial⟩
                clear hK K
                try clear hS146 hS147 hS148 hS149 hS150 hS153 hS154 hS155 hS158 hS159
                obtain ⟨a, ha⟩ : ∃ a', a' = a159 := ⟨_, rfl⟩
                rw [← ha] at hS ⊢; clear ha
                obtain ⟨x163, hx164, H⟩ := bind_el H
                refine c_pure [(0, .int .i64 p0), (1, .slice A1 p1.length cap1), (2, .slice A2 p2.length cap2), (9, .slice A21 r19.1.length cap22), (11, .slice A35 (upd m0_0 x60 (wu (v66 + x151))).length cap36), (12, .int .u64 m0_1), (13, .int .i64 m0_2), (14, .int .i64 x60), (88, .bool (decide (m0_1 < x163)))] (fun R hR => st_val hS rfl rfl rfl (r_move hS rfl rfl) fun a161 hS161 => st_val hS161 rfl rfl rfl (r_move hS161 rfl rfl) fun a162 hS162 => st_val hS162 rfl rfl rfl (r_index (e := 33) (sz := 1) (by_ := 8) hS162 rfl rfl rfl (by kernel_rfl) (RdS.some_ (OwS.rd h37) hx164) (idx_lo hx164) (idx_hi hx164)) fun a165 hS165 => st_val hS165 rfl rfl rfl (r_load1 (n := 1) hS165 rfl rfl (by kernel_rfl) (RdS.cell (i := x60) (sz := 1) (j := 0) (OwS.rd h37) hx164 rfl)) fun a166 hS166 => st_val hS166 rfl rfl rfl (r_move hS166 rfl rfl) fun a167 hS167 => st_val hS167 rfl rfl rfl (r_bin hS167 rfl rfl rfl b_gtr) fun a168 hS168 => wpList_nil (hR _ (hS168.re ⟨rfl, rfl, rfl, rfl, rfl, rfl, rfl, rfl, rfl, trivial⟩))) ?_
                clear hS
                clear a
                intro a hS
                refine c_cond hS rfl (fun hb169 => ?_) (fun hb169 => ?_)
                · replace H := ite_t hb169 H
                  refine c_pure1 [(0, .int .i64 p0), (1, .slice A1 p1.length cap1), (2, .slice A2 p2.length cap2), (9, .slice A21 r19.1.length cap22), (11, .slice A35 (upd m0_0 x60 (wu (v66 + x151))).length cap36), (12, .int .u64 x163), (13, .int .i64 m0_2)] (fun R hR => st_val hS rfl rfl rfl (r_move hS rfl rfl) fun a170 hS170 => st_val hS170 rfl rfl rfl (r_move hS170 rfl rfl) fun a171 hS171 => st_val hS171 rfl rfl rfl (r_index (e := 33) (sz := 1) (by_ := 8) hS171 rfl rfl rfl (by kernel_rfl) (RdS.some_ (OwS.rd h37) hx164) (idx_lo hx164) (idx_hi hx164)) fun a172 hS172 => st_val hS172 rfl rfl rfl (r_load1 (n := 1) hS172 rfl rfl (by kernel_rfl) (RdS.cell (i := x60) (sz := 1) (j := 0) (OwS.rd h37) hx164 rfl)) fun a173 hS173 => st_val hS173 rfl rfl rfl (r_assign hS173 rfl rfl) fun a174 hS174 => wpList_nil (hR _ (hS174.re ⟨rfl, rfl, rfl, rfl, rfl, rfl, rfl, trivial⟩))) ?_
                  clear hS
                  clear a
                  intro a hS
                  have e := Option.some.inj H
                  subst e
                  exact ⟨g160, hS.re ⟨rfl, rfl, rfl, rfl, rfl, rfl, rfl, trivial⟩, h23, h37, hp1, hp2, hF⟩
                · replace H := ite_f hb169 H
                  refine wp_skip ?_
                  have e := Option.some.inj H
                  subst e
                  exact ⟨g160, hS.re ⟨rfl, rfl, rfl, rfl, rfl, rfl, rfl, trivial⟩, h23, h37, hp1, hp2, hF⟩
            · clear H
              clear hp1 hp2 h23 h37 hF
              clear hS
              rintro a w54 ⟨g54, hS, h23, h37, hp1, hp2, hF⟩
              have H := Hl57
              clear Hl57
              refine c_pure1 [(0, .int .i64 p0), (1, .slice A1 p1.length cap1), (2, .slice A2 p2.length cap2), (9, .slice A21 r19.1.length cap22), (11, .slice A35 v55.1.length cap36), (12, .int .u64 v55.2), (13, .int .i64 (wi (m0_2 + 1)))] (fun R hR => st_val hS rfl rfl rfl (r_move hS rfl rfl) fun a175 hS175 => st_val hS175 rfl rfl rfl (r_bin hS175 rfl rfl rfl b_add) fun a176 hS176 => st_val hS176 rfl rfl rfl (r_assign hS176 rfl rfl) fun a177 hS177 => wpList_nil (hR _ (hS177.re ⟨rfl, rfl, rfl, rfl, rfl, rfl, rfl, trivial⟩))) ?_
              clear hS
              clear a
              intro a hS
              refine ⟨k49, Nat.lt_succ_self _, ?_⟩
              exact ⟨v55.1, v55.2, wi (m0_2 + 1), g54, H, hS.re ⟨rfl, rfl, rfl, rfl, rfl, rfl, rfl, trivial⟩, h23, h37, hp1, hp2, hF⟩
          · replace H := ite_f hb53 H
            refine wp_exit ?_
            have e := Option.some.inj H
            subst e
            exact ⟨g48, hS.re ⟨rfl, trivial⟩, hF⟩
    · clear H
      clear hp1 hp2 h23 h37 hF
      clear hS
      rintro a w43 ⟨g43, hS, hF⟩
      have H := Hl46
      clear Hl46
      refine c_pure [(6, .int .u64 v44), (7, .int .i64 0)] (fun R hR => st_val hS rfl rfl rfl (r_move hS rfl rfl) fun a178 hS178 => st_val hS178 rfl rfl rfl (r_assign hS178 rfl rfl) fun a179 hS179 => st_val hS179 rfl rfl rfl (r_assign hS179 rfl rfl) fun a180 hS180 => wpList_nil (hR _ (hS180.re ⟨rfl, rfl, trivial⟩))) ?_
      clear hS
      clear a
      intro a hS
      refine wp_ret ?_
      have e := Option.some.inj H
      subst e
      repeat (with_reducible first | refine then_ret ?_ | refine inBlock_ret ?_)
      exact c_ret2 hS Try.results21 rfl rfl ⟨_, rfl, g43, rfl, hF⟩


end Go.Proofs.Ythmjgadmadlpkaa.Sim
