/-
  Texts of this session, part 4 of 5: the words of the walk, plain functions with the same answers as the Go functions and the proofs of it, plain lemmas. No condition.
  They are, one behind the other: QResumeVerify QLaw31Awake QLaw31Durations Op LwResumeScales RowResumeScales G0 G1 G2 G3 G4 S1 S2 S3 S4 S5.
-/
import Derived.Test.YthmjgadmadlpkaaProg
import Derived.Test.YthmjgadmadlpkaaRows
import Derived.Test.YthmjgadmadlpkaaZResumeScales3

namespace Go.Proofs.Ythmjgadmadlpkaa.Sim
open Go
set_option linter.unusedVariables false
set_option linter.unusedSimpArgs false

/-! ### resume_Verify: function 25 -/
def resume_Verify.l1 (m0_0 : List api_Slot) (x52 : api_Slot) (y75 : List api_Slot) : Nat → Int → Option (Fl (Fl (Int) ((List api_Slot))) ((List api_Slot)))
  | 0, _ => none
  | k83 + 1, m1_0 => if decide (m1_0 < (y75.length : Int)) = true then ((idx y75 m1_0).bind fun x86 => if (((x52.Worker == x86.Worker) && (decide (x52.Start < x86.End))) && (decide (x86.Start < x52.End))) = true then (some (.out (.out 17))) else (resume_Verify.l1 m0_0 x52 y75 k83 (wi (m1_0 + 1)))) else (some (.nxt (upd m0_0 x52.Device x52)))
def resume_Verify.l0 (p4 : List api_Slot) : Nat → (List api_Slot) → Int → Option (Fl (Int) ((List api_Slot)))
  | 0, _, _ => none
  | k44 + 1, m0_0, m0_1 => if decide (m0_1 < (p4.length : Int)) = true then (((idx p4 m0_1).bind fun x52 => (idx m0_0 x52.Device).bind fun x68 => (slc p4 0 m0_1).bind fun y75 => resume_Verify.l1 m0_0 x52 y75 FUEL 0 : Option (Fl (Fl (Int) ((List api_Slot))) ((List api_Slot)))).bind fun o49 => o49.go fun v48 => resume_Verify.l0 p4 k44 v48 (wi (m0_1 + 1))) else (some (.nxt m0_0))
def resume_Verify.l2 (p1 : List api_Link) (v37 : (List api_Slot)) : Nat → Int → Option (Fl (Int) (Unit))
  | 0, _ => none
  | k156 + 1, m2_0 => if decide (m2_0 < (p1.length : Int)) = true then ((idx p1 m2_0).bind fun x159 => (idx v37 x159.Consumer).bind fun x174 => (idx v37 x159.Supplier).bind fun x182 => if decide (x174.Start < x182.End) = true then (some (.out 9)) else (resume_Verify.l2 p1 v37 k156 (wi (m2_0 + 1)))) else (some (.nxt ()))
def resume_Verify.f (p0 : Int) (p1 : List api_Link) (p2 : List Int) (p3 : Int) (p4 : List api_Slot) : Option (Int) := (resume_check.f p0 p1 p2 p3).bind fun r6 => if (r6 != 0) = true then (some r6) else ((resume_validSlots.f p2 p3 p4).bind fun r19 => if (!r19) = true then (some 1) else ((mk p0 (api_Slot.mk 0 0 0 0)).bind fun y27 => (resume_Verify.l0 p4 FUEL y27 0 : Option (Fl (Int) ((List api_Slot)))).bind fun o38 => o38.go fun v37 => (resume_Verify.l2 p1 v37 FUEL 0 : Option (Fl (Int) (Unit))).bind fun o150 => o150.go fun _ => some 0))
set_option maxRecDepth 100000 in
set_option maxHeartbeats 4000000 in
theorem resume_Verify.calls {p0 : Int} {p1 : List api_Link} {A1 : Option Addr} {cap1 : Nat} {C1 : Nat → Prop} {p2 : List Int} {A2 : Option Addr} {cap2 : Nat} {C2 : Nat → Prop} {p3 : Int} {p4 : List api_Slot} {A4 : Option Addr} {cap4 : Nat} {C4 : Nat → Prop} {w : World} {g : Nat → Nat} {out : Int} (N : Nat) (hp1 : RdS kd_api_Link w g C1 A1 cap1 p1) (hC1 : ∀ c, C1 c → c < N) (hp2 : RdS (kint .u64) w g C2 A2 cap2 p2) (hC2 : ∀ c, C2 c → c < N) (hp4 : RdS kd_api_Slot w g C4 A4 cap4 p4) (hC4 : ∀ c, C4 c → c < N) (H : resume_Verify.f p0 p1 p2 p3 p4 = some out) :
    Calls Try.prog 25 #[.int .i64 p0, .slice A1 p1.length cap1, .slice A2 p2.length cap2, .int .i64 p3, .slice A4 p4.length cap4] w (fun e w' => ∃ v, e = .returned v ∧ ∃ (g' : Nat → Nat), v = .int .i64 out ∧ Fr (fun q => N ≤ q) w g w' g') := by
  unfold resume_Verify.f at H
  refine calls_enter Try.func25 rfl Try.ntmps25 rfl (fun a hS => ?_)
  replace hS : Sl 95 a [(0, .int .i64 p0), (1, .slice A1 p1.length cap1), (2, .slice A2 p2.length cap2), (3, .int .i64 p3), (4, .slice A4 p4.length cap4)] := hS
  have hF : Fr (fun q => N ≤ q) w g w g := Fr.refl _ _ _
  refine c_pure [(0, .int .i64 p0), (1, .slice A1 p1.length cap1), (2, .slice A2 p2.length cap2), (3, .int .i64 p3), (4, .slice A4 p4.length cap4)] (fun R hR => st_val hS rfl rfl rfl (r_assign hS rfl rfl) fun a1 hS1 => wpList_nil (hR _ (hS1.re ⟨rfl, rfl, rfl, rfl, rfl, trivial⟩))) ?_
  clear hS
  clear a
  intro a hS
  refine wp_seq ?_
  obtain ⟨r6, hr7, H⟩ := bind_el H
  refine c_region (fun K hK => ?_)
  refine st_val hS rfl rfl rfl (r_move hS rfl rfl) fun a2 hS2 => st_val hS2 rfl rfl rfl (r_move hS2 rfl rfl) fun a3 hS3 => st_val hS3 rfl rfl rfl (r_move hS3 rfl rfl) fun a4 hS4 => st_val hS4 rfl rfl rfl (r_move hS4 rfl rfl) fun a5 hS5 => ?_
  refine st_enter hS5 rfl rfl rfl (r_call hS5 rfl rfl (by kernel_rfl)) (resume_check.calls (C1 := C1) (C2 := C2) (p0 := p0) (p1 := p1) (p2 := p2) (p3 := p3) (g := g) (N + 8)  hp1 (fun q (hq : C1 q) => by have := hC1 q hq; omega) hp2 (fun q (hq : C2 q) => by have := hC2 q hq; omega) hr7) ?_
  rintro _ a8 w9 ⟨g9, rfl, F9⟩ hS8
  replace hp1 := RdS.fr hp1 F9 (by decide) (fun q (hq : C1 q) (hm : N + 8 ≤ q) => by have := hC1 q hq; omega)
  replace hp2 := RdS.fr hp2 F9 (by decide) (fun q (hq : C2 q) (hm : N + 8 ≤ q) => by have := hC2 q hq; omega)
  replace hp4 := RdS.fr hp4 F9 (by decide) (fun q (hq : C4 q) (hm : N + 8 ≤ q) => by have := hC4 q hq; omega)
  replace hF := hF.trans F9 (fun c' (hm : N + 8 ≤ c') => by show N ≤ c'; omega)
  refine st_val hS8 rfl rfl rfl (r_assign hS8 rfl rfl) fun a10 hS10 => wpList_nil (hK _ _ ?_)
  replace hS : Sl 95 _ [(0, .int .i64 p0), (1, .slice A1 p1.length cap1), (2, .slice A2 p2.length cap2), (3, .int .i64 p3), (4, .slice A4 p4.length cap4), (11, .int .i64 r6)] := hS10.re ⟨rfl, rfl, rfl, rfl, rfl, rfl, trivial⟩
  clear hK K
  try clear hS2 hS3 hS4 hS5 hS8 hS10
  obtain ⟨a, ha⟩ : ∃ a', a' = a10 := ⟨_, rfl⟩
  rw [← ha] at hS ⊢; clear ha
  refine c_pure [(0, .int .i64 p0), (1, .slice A1 p1.length cap1), (2, .slice A2 p2.length cap2), (3, .int .i64 p3), (4, .slice A4 p4.length cap4), (11, .int .i64 r6), (25, .bool (r6 != 0))] (fun R hR => st_val hS rfl rfl rfl (r_move hS rfl rfl) fun a11 hS11 => st_val hS11 rfl rfl rfl (r_bin hS11 rfl rfl rfl b_neq) fun a12 hS12 => wpList_nil (hR _ (hS12.re ⟨rfl, rfl, rfl, rfl, rfl, rfl, rfl, trivial⟩))) ?_
  clear hS
  clear a
  intro a hS
  refine c_cond hS rfl (fun hb13 => ?_) (fun hb13 => ?_)
  · replace H := ite_t hb13 H
    refine c_pure [(10, .int .i64 r6)] (fun R hR => st_val hS rfl rfl rfl (r_move hS rfl rfl) fun a14 hS14 => st_val hS14 rfl rfl rfl (r_assign hS14 rfl rfl) fun a15 hS15 => wpList_nil (hR _ (hS15.re ⟨rfl, trivial⟩))) ?_
    clear hS
    clear a
    intro a hS
    refine wp_ret ?_
    have e := Option.some.inj H
    subst e
    repeat (with_reducible first | refine then_ret ?_ | refine inBlock_ret ?_)
    exact c_ret1 hS Try.results25 rfl ⟨_, rfl, g9, rfl, hF⟩
  · replace H := ite_f hb13 H
    refine wp_skip ?_
    change Code.wp _ _ _ _ _
    refine wp_seq ?_
    obtain ⟨r19, hr20, H⟩ := bind_el H
    refine c_region (fun K hK => ?_)
    refine st_val hS rfl rfl rfl (r_move hS rfl rfl) fun a16 hS16 => st_val hS16 rfl rfl rfl (r_move hS16 rfl rfl) fun a17 hS17 => st_val hS17 rfl rfl rfl (r_move hS17 rfl rfl) fun a18 hS18 => ?_
    refine st_enter hS18 rfl rfl rfl (r_call hS18 rfl rfl (by kernel_rfl)) (resume_validSlots.calls (C0 := C2) (C2 := C4) (p0 := p2) (p1 := p3) (p2 := p4) (g := g9) (N + 8)  hp2 (fun q (hq : C2 q) => by have := hC2 q hq; omega) hp4 (fun q (hq : C4 q) => by have := hC4 q hq; omega) hr20) ?_
    rintro _ a21 w22 ⟨g22, rfl, F22⟩ hS21
    replace hp1 := RdS.fr hp1 F22 (by decide) (fun q (hq : C1 q) (hm : N + 8 ≤ q) => by have := hC1 q hq; omega)
    replace hp2 := RdS.fr hp2 F22 (by decide) (fun q (hq : C2 q) (hm : N + 8 ≤ q) => by have := hC2 q hq; omega)
    replace hp4 := RdS.fr hp4 F22 (by decide) (fun q (hq : C4 q) (hm : N + 8 ≤ q) => by have := hC4 q hq; omega)
    replace hF := hF.trans F22 (fun c' (hm : N + 8 ≤ c') => by show N ≤ c'; omega)
    refine st_val hS21 rfl rfl rfl (r_not hS21 rfl rfl) fun a23 hS23 => wpList_nil (hK _ _ ?_)
    replace hS : Sl 95 _ [(0, .int .i64 p0), (1, .slice A1 p1.length cap1), (4, .slice A4 p4.length cap4), (31, .bool (!r19))] := hS23.re ⟨rfl, rfl, rfl, rfl, trivial⟩
    clear hK K
    try clear hS16 hS17 hS18 hS21 hS23
    obtain ⟨a, ha⟩ : ∃ a', a' = a23 := ⟨_, rfl⟩
    rw [← ha] at hS ⊢; clear ha
    refine c_cond hS rfl (fun hb24 => ?_) (fun hb24 => ?_)
    · replace H := ite_t hb24 H
      refine c_pure [(10, .int .i64 1)] (fun R hR => st_val hS rfl rfl rfl (r_assign hS rfl rfl) fun a25 hS25 => wpList_nil (hR _ (hS25.re ⟨rfl, trivial⟩))) ?_
      clear hS
      clear a
      intro a hS
      refine wp_ret ?_
      have e := Option.some.inj H
      subst e
      repeat (with_reducible first | refine then_ret ?_ | refine inBlock_ret ?_)
      exact c_ret1 hS Try.results25 rfl ⟨_, rfl, g22, rfl, hF⟩
    · replace H := ite_f hb24 H
      refine wp_skip ?_
      change Code.wp _ _ _ _ _
      obtain ⟨y27, hy28, H⟩ := bind_el H
      refine c_region (fun K hK => ?_)
      refine st_val hS rfl rfl rfl (r_move hS rfl rfl) fun a26 hS26 => ?_
      refine st_eff hS26 rfl rfl rfl (e_make (e := 38) (sz := 4) (by_ := 32) (z := [.int .i64 0, .int .i64 0, .int .u64 0, .int .u64 0]) (kd := kd_api_Slot) (N + 0) g22 hS26 rfl rfl (by kernel_rfl) (by kernel_rfl) rfl rfl rfl (fun _ _ _ => by exact rfl) hy28) ?_
      rintro _ a33 w34 g34 ⟨⟨A29, cap30, rfl, h31⟩, F34⟩ hS33
      replace hp1 := RdS.fr hp1 F34 (by decide) (fun _ _ h => h)
      replace hp4 := RdS.fr hp4 F34 (by decide) (fun _ _ h => h)
      replace hF := hF.trans F34 (fun _ h => h.elim)
      refine st_val hS33 rfl rfl rfl (r_assign hS33 rfl rfl) fun a35 hS35 => wpList_nil (hK _ _ ?_)
      replace hS : Sl 95 _ [(1, .slice A1 p1.length cap1), (4, .slice A4 p4.length cap4), (12, .slice A29 y27.length cap30)] := hS35.re ⟨rfl, rfl, rfl, trivial⟩
      clear hK K
      try clear hS26 hS33 hS35
      obtain ⟨a, ha⟩ : ∃ a', a' = a35 := ⟨_, rfl⟩
      rw [← ha] at hS ⊢; clear ha
      obtain ⟨o38, H, Hl39⟩ := bind_el H
      refine c_cut (fun a w36 => ∃ (v37 : (List api_Slot)), ∃ (g36 : Nat → Nat), o38 = .nxt v37 ∧ Sl 95 a [(1, .slice A1 p1.length cap1), (12, .slice A29 v37.length cap30)] ∧ OwS kd_api_Slot 38 w36 g36 (N + 0) A29 cap30 v37 ∧ RdS kd_api_Link w36 g36 C1 A1 cap1 p1 ∧ Fr (fun q => N ≤ q) w g w36 g36) ?_ ?_
      · refine c_pure [(1, .slice A1 p1.length cap1), (4, .slice A4 p4.length cap4), (12, .slice A29 y27.length cap30), (34, .slice A4 p4.length cap4), (35, .int .i64 (p4.length : Int)), (36, .int .i64 0)] (fun R hR => st_val hS rfl rfl rfl (r_move hS rfl rfl) fun a40 hS40 => st_val hS40 rfl rfl rfl (r_len (e := 38) (sz := 4) (by_ := 32) hS40 rfl rfl (by kernel_rfl)) fun a41 hS41 => st_val hS41 rfl rfl rfl (r_move hS41 rfl rfl) fun a42 hS42 => wpList_nil (hR _ (hS42.re ⟨rfl, rfl, rfl, rfl, rfl, rfl, trivial⟩))) ?_
        clear hS
        clear a
        intro a hS
        refine wp_block ?_
        refine wp_loop_ghost (fun kq => fun a w43 => ∃ (m0_0 : List api_Slot), ∃ (m0_1 : Int), ∃ (g43 : Nat → Nat), resume_Verify.l0 p4 kq m0_0 m0_1 = some o38 ∧ Sl 95 a [(1, .slice A1 p1.length cap1), (4, .slice A4 p4.length cap4), (12, .slice A29 m0_0.length cap30), (34, .slice A4 p4.length cap4), (35, .int .i64 (p4.length : Int)), (36, .int .i64 m0_1)] ∧ OwS kd_api_Slot 38 w43 g43 (N + 0) A29 cap30 m0_0 ∧ RdS kd_api_Link w43 g43 C1 A1 cap1 p1 ∧ RdS kd_api_Slot w43 g43 C4 A4 cap4 p4 ∧ Fr (fun q => N ≤ q) w g w43 g43) FUEL ?_ ?_
        · exact ⟨y27, 0, g34, H, hS.re ⟨rfl, rfl, rfl, rfl, rfl, rfl, trivial⟩, h31, hp1, hp4, hF⟩
        · clear H
          clear hp1 hp4 h31 hF
          clear hS
          rintro k44 a w43 ⟨m0_0, m0_1, g43, hpre0, hS, h31, hp1, hp4, hF⟩
          have H := hpre0
          clear hpre0
          cases k44 with
          | zero => exact absurd H (by simp [resume_Verify.l0])
          | succ k44 =>
            rw [resume_Verify.l0] at H
            refine c_pure [(1, .slice A1 p1.length cap1), (4, .slice A4 p4.length cap4), (12, .slice A29 m0_0.length cap30), (34, .slice A4 p4.length cap4), (35, .int .i64 (p4.length : Int)), (36, .int .i64 m0_1), (37, .bool (decide (m0_1 < (p4.length : Int))))] (fun R hR => st_val hS rfl rfl rfl (r_bin hS rfl rfl rfl b_lss) fun a45 hS45 => wpList_nil (hR _ (hS45.re ⟨rfl, rfl, rfl, rfl, rfl, rfl, rfl, trivial⟩))) ?_
            clear hS
            clear a
            intro a hS
            refine c_if hS rfl (fun hb46 => ?_) (fun hb46 => ?_)
            · replace H := ite_t hb46 H
              refine wp_skip ?_
              change Code.wp _ _ _ _ _
              obtain ⟨o49, H, Hl50⟩ := bind_el H
              refine c_cut (fun a w47 => ∃ (v48 : (List api_Slot)), ∃ (g47 : Nat → Nat), o49 = .nxt v48 ∧ Sl 95 a [(1, .slice A1 p1.length cap1), (4, .slice A4 p4.length cap4), (12, .slice A29 v48.length cap30), (34, .slice A4 p4.length cap4), (35, .int .i64 (p4.length : Int)), (36, .int .i64 m0_1)] ∧ OwS kd_api_Slot 38 w47 g47 (N + 0) A29 cap30 v48 ∧ RdS kd_api_Link w47 g47 C1 A1 cap1 p1 ∧ RdS kd_api_Slot w47 g47 C4 A4 cap4 p4 ∧ Fr (fun q => N ≤ q) w g w47 g47) ?_ ?_
              · refine wp_block ?_
                obtain ⟨x52, hx53, H⟩ := bind_el H
                refine c_region (fun K hK => ?_)
                refine st_val hS rfl rfl rfl (r_move hS rfl rfl) fun a51 hS51 => st_val hS51 rfl rfl rfl (r_index (e := 38) (sz := 4) (by_ := 32) hS51 rfl rfl rfl (by kernel_rfl) (RdS.some_ hp4 hx53) (idx_lo hx53) (idx_hi hx53)) fun a54 hS54 => st_val hS54 rfl rfl rfl (r_loadN (n := 4) (cs := [.int .i64 x52.Device, .int .i64 x52.Worker, .int .u64 x52.Start, .int .u64 x52.End]) hS54 rfl rfl (by kernel_rfl) rfl (RdS.cells_off hp4 hx53 0 4)) fun a55 hS55 => ?_
                refine st_eff hS55 rfl rfl rfl (e_alloc (cs := [.int .i64 0, .int .i64 0, .int .u64 0, .int .u64 0]) (N + 2) g43 hS55 rfl (by kernel_rfl)) ?_
                rintro _ a59 w60 g60 ⟨⟨b56, rfl, h57⟩, F60⟩ hS59
                replace h31 := OwS.fr h31 F60 (fun _ _ h => h)
                replace hp1 := RdS.fr hp1 F60 (by decide) (fun _ _ h => h)
                replace hp4 := RdS.fr hp4 F60 (by decide) (fun _ _ h => h)
                replace hF := hF.trans F60 (fun _ h => h.elim)
                refine st_val hS59 rfl rfl rfl (r_assign hS59 rfl rfl) fun a61 hS61 => ?_
                refine st_effS hS61 rfl rfl (e_storeB (n := 4) (bb := true) (cs' := [.int .i64 x52.Device, .int .i64 x52.Worker, .int .u64 x52.Start, .int .u64 x52.End]) g60 hS61 rfl rfl rfl (by kernel_rfl) rfl rfl rfl h57 rfl rfl) ?_
                rintro a62 w63 g63 ⟨h57, F63⟩ hS62
                replace h31 := OwS.fr h31 F63 (fun c' hc (hm : c' = N + 2) => by omega)
                replace hp1 := RdS.fr hp1 F63 (by decide) (fun q (hq : C1 q) (hm : q = N + 2) => by have := hC1 q hq; omega)
                replace hp4 := RdS.fr hp4 F63 (by decide) (fun q (hq : C4 q) (hm : q = N + 2) => by have := hC4 q hq; omega)
                replace hF := hF.trans F63 (fun c' (hm : c' = N + 2) => by show N ≤ c'; omega)
                refine wpList_nil (hK _ _ ?_)
                replace hS : Sl 95 _ [(1, .slice A1 p1.length cap1), (4, .slice A4 p4.length cap4), (12, .slice A29 m0_0.length cap30), (13, .int .i64 m0_1), (14, .pointer (some ⟨b56, 0, none⟩)), (34, .slice A4 p4.length cap4), (35, .int .i64 (p4.length : Int)), (36, .int .i64 m0_1)] := hS62.re ⟨rfl, rfl, rfl, rfl, rfl, rfl, rfl, rfl, trivial⟩
                clear hK K
                try clear hS51 hS54 hS55 hS59 hS61 hS62
                obtain ⟨a, ha⟩ : ∃ a', a' = a62 := ⟨_, rfl⟩
                rw [← ha] at hS ⊢; clear ha
                obtain ⟨x68, hx69, H⟩ := bind_el H
                refine c_region (fun K hK => ?_)
                refine st_val hS rfl rfl rfl (r_move hS rfl rfl) fun a64 hS64 => st_val hS64 rfl rfl rfl (r_fieldB (off := 0) hS64 rfl rfl (by kernel_rfl)) fun a65 hS65 => st_val hS65 rfl rfl rfl (r_load1 (n := 1) hS65 rfl rfl (by kernel_rfl) (Bx.cell h57 rfl)) fun a66 hS66 => st_val hS66 rfl rfl rfl (r_loadN (n := 4) (cs := [.int .i64 x52.Device, .int .i64 x52.Worker, .int .u64 x52.Start, .int .u64 x52.End]) hS66 rfl rfl (by kernel_rfl) rfl (Bx.cells_off h57 0 4)) fun a67 hS67 => st_val hS67 rfl rfl rfl (r_index (e := 38) (sz := 4) (by_ := 32) hS67 rfl rfl rfl (by kernel_rfl) (RdS.some_ (OwS.rd h31) hx69) (idx_lo hx69) (idx_hi hx69)) fun a70 hS70 => ?_
                refine st_effS hS70 rfl rfl (e_storeE (n := 4) (bb := true) (kd := kd_api_Slot) (j := 0) (x' := x52) (us := [.int .i64 x52.Device, .int .i64 x52.Worker, .int .u64 x52.Start, .int .u64 x52.End]) g63 hS70 rfl rfl rfl rfl (by kernel_rfl) rfl rfl (by intro v hv; simp only [List.mem_cons, List.not_mem_nil, or_false] at hv; rcases hv with rfl | rfl | rfl | rfl <;> rfl) h31 hx69 rfl (fun _ _ cs hR => by rw [show cs = _ from hR]; rfl)) ?_
                rintro a71 w72 g72 ⟨h31, F72⟩ hS71
                replace h57 := h57.fr F72 (fun (hm : N + 2 = N + 0) => by omega)
                replace hp1 := RdS.fr hp1 F72 (by decide) (fun q (hq : C1 q) (hm : q = N + 0) => by have := hC1 q hq; omega)
                replace hp4 := RdS.fr hp4 F72 (by decide) (fun q (hq : C4 q) (hm : q = N + 0) => by have := hC4 q hq; omega)
                replace hF := hF.trans F72 (fun c' (hm : c' = N + 0) => by show N ≤ c'; omega)
                have hT : Sl 95 a71 [(1, .slice A1 p1.length cap1), (4, .slice A4 p4.length cap4), (12, .slice A29 m0_0.length cap30), (13, .int .i64 m0_1), (14, .pointer (some ⟨b56, 0, none⟩)), (34, .slice A4 p4.length cap4), (35, .int .i64 (p4.length : Int)), (36, .int .i64 m0_1)] := hS71.re ⟨rfl, rfl, rfl, rfl, rfl, rfl, rfl, rfl, trivial⟩
                replace hS71 : Sl 95 a71 [(1, .slice A1 p1.length cap1), (4, .slice A4 p4.length cap4), (12, .slice A29 (upd m0_0 x52.Device x52).length cap30), (13, .int .i64 m0_1), (14, .pointer (some ⟨b56, 0, none⟩)), (34, .slice A4 p4.length cap4), (35, .int .i64 (p4.length : Int)), (36, .int .i64 m0_1)] := by simpa only [upd_length] using hT
                clear hT
                refine wpList_nil (hK _ _ ?_)
                replace hS : Sl 95 _ [(1, .slice A1 p1.length cap1), (4, .slice A4 p4.length cap4), (12, .slice A29 (upd m0_0 x52.Device x52).length cap30), (13, .int .i64 m0_1), (14, .pointer (some ⟨b56, 0, none⟩)), (34, .slice A4 p4.length cap4), (35, .int .i64 (p4.length : Int)), (36, .int .i64 m0_1)] := hS71.re ⟨rfl, rfl, rfl, rfl, rfl, rfl, rfl, rfl, trivial⟩
                clear hK K
                try clear hS64 hS65 hS66 hS67 hS70 hS71
                obtain ⟨a, ha⟩ : ∃ a', a' = a71 := ⟨_, rfl⟩
                rw [← ha] at hS ⊢; clear ha
                obtain ⟨y75, hy76, H⟩ := bind_el H
                refine c_region (fun K hK => ?_)
                refine st_val hS rfl rfl rfl (r_move hS rfl rfl) fun a73 hS73 => st_val hS73 rfl rfl rfl (r_move hS73 rfl rfl) fun a74 hS74 => ?_
                have h77 := RdS.slc hp4 hy76
                refine st_val hS74 rfl rfl rfl (r_slice (e := 38) (sz := 4) (by_ := 32) (l := 0) (h := m0_1) hS74 rfl rfl (by kernel_rfl) rfl rfl hy76 hp4.1) fun a79 hS79 => st_val hS79 rfl rfl rfl (r_len (e := 38) (sz := 4) (by_ := 32) hS79 rfl rfl (by kernel_rfl)) fun a80 hS80 => st_val hS80 rfl rfl rfl (r_move hS80 rfl rfl) fun a81 hS81 => wpList_nil (hK _ _ ?_)
                replace hS : Sl 95 _ [(1, .slice A1 p1.length cap1), (4, .slice A4 p4.length cap4), (12, .slice A29 (upd m0_0 x52.Device x52).length cap30), (14, .pointer (some ⟨b56, 0, none⟩)), (34, .slice A4 p4.length cap4), (35, .int .i64 (p4.length : Int)), (36, .int .i64 m0_1), (48, .slice (slA A4 cap4 (0 : Int).toNat 4) y75.length (cap4 - (0 : Int).toNat)), (49, .int .i64 (y75.length : Int)), (50, .int .i64 0)] := hS81.re ⟨rfl, rfl, rfl, rfl, rfl, rfl, rfl, rfl, rfl, rfl, trivial⟩
                clear hK K
                try clear hS73 hS74 hS79 hS80 hS81
                obtain ⟨a, ha⟩ : ∃ a', a' = a81 := ⟨_, rfl⟩
                rw [← ha] at hS ⊢; clear ha
                refine wp_block ?_
                refine wp_loop_ghost (fun kq => fun a w82 => ∃ (m1_0 : Int), ∃ (g82 : Nat → Nat), resume_Verify.l1 m0_0 x52 y75 kq m1_0 = some o49 ∧ Sl 95 a [(1, .slice A1 p1.length cap1), (4, .slice A4 p4.length cap4), (12, .slice A29 (upd m0_0 x52.Device x52).length cap30), (14, .pointer (some ⟨b56, 0, none⟩)), (34, .slice A4 p4.length cap4), (35, .int .i64 (p4.length : Int)), (36, .int .i64 m0_1), (48, .slice (slA A4 cap4 (0 : Int).toNat 4) y75.length (cap4 - (0 : Int).toNat)), (49, .int .i64 (y75.length : Int)), (50, .int .i64 m1_0)] ∧ OwS kd_api_Slot 38 w82 g82 (N + 0) A29 cap30 (upd m0_0 x52.Device x52) ∧ Bx w82 g82 (N + 2) b56 38 [.int .i64 x52.Device, .int .i64 x52.Worker, .int .u64 x52.Start, .int .u64 x52.End] ∧ RdS kd_api_Slot w82 g82 C4 (slA A4 cap4 (0 : Int).toNat 4) (cap4 - (0 : Int).toNat) y75 ∧ RdS kd_api_Link w82 g82 C1 A1 cap1 p1 ∧ RdS kd_api_Slot w82 g82 C4 A4 cap4 p4 ∧ Fr (fun q => N ≤ q) w g w82 g82) FUEL ?_ ?_
                · exact ⟨0, g72, H, hS.re ⟨rfl, rfl, rfl, rfl, rfl, rfl, rfl, rfl, rfl, rfl, trivial⟩, h31, h57, h77, hp1, hp4, hF⟩
                · clear H
                  clear hp1 hp4 h31 h57 h77 hF
                  clear hS
                  rintro k83 a w82 ⟨m1_0, g82, hpre0, hS, h31, h57, h77, hp1, hp4, hF⟩
                  have H := hpre0
                  clear hpre0
                  cases k83 with
                  | zero => exact absurd H (by simp [resume_Verify.l1])
                  | succ k83 =>
                    rw [resume_Verify.l1] at H
                    refine c_pure [(1, .slice A1 p1.length cap1), (4, .slice A4 p4.length cap4), (12, .slice A29 (upd m0_0 x52.Device x52).length cap30), (14, .pointer (some ⟨b56, 0, none⟩)), (34, .slice A4 p4.length cap4), (35, .int .i64 (p4.length : Int)), (36, .int .i64 m0_1), (48, .slice (slA A4 cap4 (0 : Int).toNat 4) y75.length (cap4 - (0 : Int).toNat)), (49, .int .i64 (y75.length : Int)), (50, .int .i64 m1_0), (51, .bool (decide (m1_0 < (y75.length : Int))))] (fun R hR => st_val hS rfl rfl rfl (r_bin hS rfl rfl rfl b_lss) fun a84 hS84 => wpList_nil (hR _ (hS84.re ⟨rfl, rfl, rfl, rfl, rfl, rfl, rfl, rfl, rfl, rfl, rfl, trivial⟩))) ?_
                    clear hS
                    clear a
                    intro a hS
                    refine c_if hS rfl (fun hb85 => ?_) (fun hb85 => ?_)
                    · replace H := ite_t hb85 H
                      refine wp_skip ?_
                      change Code.wp _ _ _ _ _
                      refine wp_seq ?_
                      refine wp_block ?_
                      obtain ⟨x86, hx87, H⟩ := bind_el H
                      refine c_region (fun K hK => ?_)
                      refine st_val hS rfl rfl rfl (r_index (e := 38) (sz := 4) (by_ := 32) hS rfl rfl rfl (by kernel_rfl) (RdS.some_ h77 hx87) (idx_lo hx87) (idx_hi hx87)) fun a88 hS88 => st_val hS88 rfl rfl rfl (r_loadN (n := 4) (cs := [.int .i64 x86.Device, .int .i64 x86.Worker, .int .u64 x86.Start, .int .u64 x86.End]) hS88 rfl rfl (by kernel_rfl) rfl (RdS.cells_off h77 hx87 0 4)) fun a89 hS89 => ?_
                      refine st_eff hS89 rfl rfl rfl (e_alloc (cs := [.int .i64 0, .int .i64 0, .int .u64 0, .int .u64 0]) (N + 4) g82 hS89 rfl (by kernel_rfl)) ?_
                      rintro _ a93 w94 g94 ⟨⟨b90, rfl, h91⟩, F94⟩ hS93
                      replace h31 := OwS.fr h31 F94 (fun _ _ h => h)
                      replace h57 := h57.fr F94 (fun h => h)
                      replace h77 := RdS.fr h77 F94 (by decide) (fun _ _ h => h)
                      replace hp1 := RdS.fr hp1 F94 (by decide) (fun _ _ h => h)
                      replace hp4 := RdS.fr hp4 F94 (by decide) (fun _ _ h => h)
                      replace hF := hF.trans F94 (fun _ h => h.elim)
                      refine st_effS hS93 rfl rfl (e_storeB (n := 4) (bb := true) (cs' := [.int .i64 x86.Device, .int .i64 x86.Worker, .int .u64 x86.Start, .int .u64 x86.End]) g94 hS93 rfl rfl rfl (by kernel_rfl) rfl rfl rfl h91 rfl rfl) ?_
                      rintro a95 w96 g96 ⟨h91, F96⟩ hS95
                      replace h31 := OwS.fr h31 F96 (fun c' hc (hm : c' = N + 4) => by omega)
                      replace h57 := h57.fr F96 (fun (hm : N + 2 = N + 4) => by omega)
                      replace h77 := RdS.fr h77 F96 (by decide) (fun q (hq : C4 q) (hm : q = N + 4) => by have := hC4 q hq; omega)
                      replace hp1 := RdS.fr hp1 F96 (by decide) (fun q (hq : C1 q) (hm : q = N + 4) => by have := hC1 q hq; omega)
                      replace hp4 := RdS.fr hp4 F96 (by decide) (fun q (hq : C4 q) (hm : q = N + 4) => by have := hC4 q hq; omega)
                      replace hF := hF.trans F96 (fun c' (hm : c' = N + 4) => by show N ≤ c'; omega)
                      refine wpList_nil (hK _ _ ?_)
                      replace hS : Sl 95 _ [(1, .slice A1 p1.length cap1), (4, .slice A4 p4.length cap4), (12, .slice A29 (upd m0_0 x52.Device x52).length cap30), (14, .pointer (some ⟨b56, 0, none⟩)), (16, .pointer (some ⟨b90, 0, none⟩)), (34, .slice A4 p4.length cap4), (35, .int .i64 (p4.length : Int)), (36, .int .i64 m0_1), (48, .slice (slA A4 cap4 (0 : Int).toNat 4) y75.length (cap4 - (0 : Int).toNat)), (49, .int .i64 (y75.length : Int)), (50, .int .i64 m1_0)] := hS95.re ⟨rfl, rfl, rfl, rfl, rfl, rfl, rfl, rfl, rfl, rfl, rfl, trivial⟩
                      clear hK K
                      try clear hS88 hS89 hS93 hS95
                      obtain ⟨a, ha⟩ : ∃ a', a' = a95 := ⟨_, rfl⟩
                      rw [← ha] at hS ⊢; clear ha
                      refine c_region (fun K hK => ?_)
                      refine st_val hS rfl rfl rfl (r_fieldB (off := 1) hS rfl rfl (by kernel_rfl)) fun a97 hS97 => st_val hS97 rfl rfl rfl (r_load1 (n := 1) hS97 rfl rfl (by kernel_rfl) (Bx.cell h57 rfl)) fun a98 hS98 => st_val hS98 rfl rfl rfl (r_fieldB (off := 1) hS98 rfl rfl (by kernel_rfl)) fun a99 hS99 => st_val hS99 rfl rfl rfl (r_load1 (n := 1) hS99 rfl rfl (by kernel_rfl) (Bx.cell h91 rfl)) fun a100 hS100 => st_val hS100 rfl rfl rfl (r_bin hS100 rfl rfl rfl b_eql) fun a101 hS101 => st_val hS101 rfl rfl rfl (r_move hS101 rfl rfl) fun a102 hS102 => ?_
                      refine g_join (N := 95) 6 [(1, .slice A1 p1.length cap1), (4, .slice A4 p4.length cap4), (12, .slice A29 (upd m0_0 x52.Device x52).length cap30), (14, .pointer (some ⟨b56, 0, none⟩)), (16, .pointer (some ⟨b90, 0, none⟩)), (34, .slice A4 p4.length cap4), (35, .int .i64 (p4.length : Int)), (36, .int .i64 m0_1), (48, .slice (slA A4 cap4 (0 : Int).toNat 4) y75.length (cap4 - (0 : Int).toNat)), (49, .int .i64 (y75.length : Int)), (50, .int .i64 m1_0), (65, .bool ((x52.Worker == x86.Worker) && (decide (x52.Start < x86.End))))] ?_ (fun hk => ?_)
                      rotate_left
                      · rcases Bool.eq_false_or_eq_true ((x52.Worker == x86.Worker)) with hb103 | hb103
                        · refine st_valW hS102 (want_on hS102 rfl rfl rfl hb103) rfl rfl (r_fieldB (off := 2) hS102 rfl rfl (by kernel_rfl)) fun a109 hS109 => st_valW hS109 (want_on hS109 rfl rfl rfl hb103) rfl rfl (r_load1 (n := 1) hS109 rfl rfl (by kernel_rfl) (Bx.cell h57 rfl)) fun a110 hS110 => st_valW hS110 (want_on hS110 rfl rfl rfl hb103) rfl rfl (r_fieldB (off := 3) hS110 rfl rfl (by kernel_rfl)) fun a111 hS111 => st_valW hS111 (want_on hS111 rfl rfl rfl hb103) rfl rfl (r_load1 (n := 1) hS111 rfl rfl (by kernel_rfl) (Bx.cell h91 rfl)) fun a112 hS112 => st_valW hS112 (want_on hS112 rfl rfl rfl hb103) rfl rfl (r_bin hS112 rfl rfl rfl b_lss) fun a113 hS113 => st_val hS113 rfl rfl rfl (r_pickT hS113 rfl rfl rfl hb103) fun a114 hS114 => hk _ (hS114.re ⟨rfl, rfl, rfl, rfl, rfl, rfl, rfl, rfl, rfl, rfl, rfl, (by rw [hb103]; rfl), trivial⟩)
                        · refine st_off hS102 (want_off hS102 rfl rfl rfl hb103) rfl rfl fun a115 hS115 => st_off hS115 (want_off hS115 rfl rfl rfl hb103) rfl rfl fun a116 hS116 => st_off hS116 (want_off hS116 rfl rfl rfl hb103) rfl rfl fun a117 hS117 => st_off hS117 (want_off hS117 rfl rfl rfl hb103) rfl rfl fun a118 hS118 => st_off hS118 (want_off hS118 rfl rfl rfl hb103) rfl rfl fun a119 hS119 => st_val hS119 rfl rfl rfl (r_pickF hS119 rfl rfl rfl hb103) fun a120 hS120 => hk _ (hS120.re ⟨rfl, rfl, rfl, rfl, rfl, rfl, rfl, rfl, rfl, rfl, rfl, (by rw [hb103]; rfl), trivial⟩)
                      intro a121 hS121
                      refine st_val hS121 rfl rfl rfl (r_move hS121 rfl rfl) fun a122 hS122 => ?_
                      refine g_join (N := 95) 6 [(1, .slice A1 p1.length cap1), (4, .slice A4 p4.length cap4), (12, .slice A29 (upd m0_0 x52.Device x52).length cap30), (14, .pointer (some ⟨b56, 0, none⟩)), (34, .slice A4 p4.length cap4), (35, .int .i64 (p4.length : Int)), (36, .int .i64 m0_1), (48, .slice (slA A4 cap4 (0 : Int).toNat 4) y75.length (cap4 - (0 : Int).toNat)), (49, .int .i64 (y75.length : Int)), (50, .int .i64 m1_0), (72, .bool (((x52.Worker == x86.Worker) && (decide (x52.Start < x86.End))) && (decide (x86.Start < x52.End))))] ?_ (fun hk => ?_)
                      rotate_left
                      · rcases Bool.eq_false_or_eq_true (((x52.Worker == x86.Worker) && (decide (x52.Start < x86.End)))) with hb123 | hb123
                        · refine st_valW hS122 (want_on hS122 rfl rfl rfl hb123) rfl rfl (r_fieldB (off := 2) hS122 rfl rfl (by kernel_rfl)) fun a129 hS129 => st_valW hS129 (want_on hS129 rfl rfl rfl hb123) rfl rfl (r_load1 (n := 1) hS129 rfl rfl (by kernel_rfl) (Bx.cell h91 rfl)) fun a130 hS130 => st_valW hS130 (want_on hS130 rfl rfl rfl hb123) rfl rfl (r_fieldB (off := 3) hS130 rfl rfl (by kernel_rfl)) fun a131 hS131 => st_valW hS131 (want_on hS131 rfl rfl rfl hb123) rfl rfl (r_load1 (n := 1) hS131 rfl rfl (by kernel_rfl) (Bx.cell h57 rfl)) fun a132 hS132 => st_valW hS132 (want_on hS132 rfl rfl rfl hb123) rfl rfl (r_bin hS132 rfl rfl rfl b_lss) fun a133 hS133 => st_val hS133 rfl rfl rfl (r_pickT hS133 rfl rfl rfl hb123) fun a134 hS134 => hk _ (hS134.re ⟨rfl, rfl, rfl, rfl, rfl, rfl, rfl, rfl, rfl, rfl, (by rw [hb123]; rfl), trivial⟩)
                        · refine st_off hS122 (want_off hS122 rfl rfl rfl hb123) rfl rfl fun a135 hS135 => st_off hS135 (want_off hS135 rfl rfl rfl hb123) rfl rfl fun a136 hS136 => st_off hS136 (want_off hS136 rfl rfl rfl hb123) rfl rfl fun a137 hS137 => st_off hS137 (want_off hS137 rfl rfl rfl hb123) rfl rfl fun a138 hS138 => st_off hS138 (want_off hS138 rfl rfl rfl hb123) rfl rfl fun a139 hS139 => st_val hS139 rfl rfl rfl (r_pickF hS139 rfl rfl rfl hb123) fun a140 hS140 => hk _ (hS140.re ⟨rfl, rfl, rfl, rfl, rfl, rfl, rfl, rfl, rfl, rfl, (by rw [hb123]; rfl), trivial⟩)
                      intro a141 hS141
                      refine wpList_nil (hK _ _ ?_)
                      replace hS : Sl 95 _ [(1, .slice A1 p1.length cap1), (4, .slice A4 p4.length cap4), (12, .slice A29 (upd m0_0 x52.Device x52).length cap30), (14, .pointer (some ⟨b56, 0, none⟩)), (34, .slice A4 p4.length cap4), (35, .int .i64 (p4.length : Int)), (36, .int .i64 m0_1), (48, .slice (slA A4 cap4 (0 : Int).toNat 4) y75.length (cap4 - (0 : Int).toNat)), (49, .int .i64 (y75.length : Int)), (50, .int .i64 m1_0), (72, .bool (((x52.Worker == x86.Worker) && (decide (x52.Start < x86.End))) && (decide (x86.Start < x52.End))))] := hS141.re ⟨rfl, rfl, rfl, rfl, rfl, rfl, rfl, rfl, rfl, rfl, rfl, trivial⟩
                      clear hK K
                      try clear hS97 hS98 hS99 hS100 hS101 hS102 hS121 hS122 hS141
                      obtain ⟨a, ha⟩ : ∃ a', a' = a141 := ⟨_, rfl⟩
                      rw [← ha] at hS ⊢; clear ha
                      refine c_cond hS rfl (fun hb142 => ?_) (fun hb142 => ?_)
                      · replace H := ite_t hb142 H
                        refine c_pure [(10, .int .i64 17)] (fun R hR => st_val hS rfl rfl rfl (r_assign hS rfl rfl) fun a143 hS143 => wpList_nil (hR _ (hS143.re ⟨rfl, trivial⟩))) ?_
                        clear hS
                        clear a
                        intro a hS
                        refine wp_ret ?_
                        have e := Option.some.inj H
                        subst e
                        replace H := Fl.go_out Hl50
                        have e := Option.some.inj H
                        subst e
                        replace H := Fl.go_out Hl39
                        have e := Option.some.inj H
                        subst e
                        repeat (with_reducible first | refine then_ret ?_ | refine inBlock_ret ?_)
                        exact c_ret1 hS Try.results25 rfl ⟨_, rfl, g96, rfl, hF⟩
                      · replace H := ite_f hb142 H
                        refine wp_skip ?_
                        change Code.wp _ _ _ _ _
                        refine c_pure1 [(1, .slice A1 p1.length cap1), (4, .slice A4 p4.length cap4), (12, .slice A29 (upd m0_0 x52.Device x52).length cap30), (14, .pointer (some ⟨b56, 0, none⟩)), (34, .slice A4 p4.length cap4), (35, .int .i64 (p4.length : Int)), (36, .int .i64 m0_1), (48, .slice (slA A4 cap4 (0 : Int).toNat 4) y75.length (cap4 - (0 : Int).toNat)), (49, .int .i64 (y75.length : Int)), (50, .int .i64 (wi (m1_0 + 1)))] (fun R hR => st_val hS rfl rfl rfl (r_bin hS rfl rfl rfl b_add) fun a144 hS144 => st_val hS144 rfl rfl rfl (r_move hS144 rfl rfl) fun a145 hS145 => wpList_nil (hR _ (hS145.re ⟨rfl, rfl, rfl, rfl, rfl, rfl, rfl, rfl, rfl, rfl, trivial⟩))) ?_
                        clear hS
                        clear a
                        intro a hS
                        refine ⟨k83, Nat.lt_succ_self _, ?_⟩
                        exact ⟨wi (m1_0 + 1), g96, H, hS.re ⟨rfl, rfl, rfl, rfl, rfl, rfl, rfl, rfl, rfl, rfl, trivial⟩, h31, h57, h77, hp1, hp4, hF⟩
                    · replace H := ite_f hb85 H
                      refine wp_exit ?_
                      have e := Option.some.inj H
                      exact ⟨(upd m0_0 x52.Device x52), g82, e.symm, hS.re ⟨rfl, rfl, rfl, rfl, rfl, rfl, trivial⟩, h31, hp1, hp4, hF⟩
              · clear H
                clear hp1 hp4 h31 hF
                clear hS
                rintro a w47 ⟨v48, g47, hpre0, hS, h31, hp1, hp4, hF⟩
                subst hpre0
                have H := Fl.go_nxt Hl50
                clear Hl50
                refine c_pure1 [(1, .slice A1 p1.length cap1), (4, .slice A4 p4.length cap4), (12, .slice A29 v48.length cap30), (34, .slice A4 p4.length cap4), (35, .int .i64 (p4.length : Int)), (36, .int .i64 (wi (m0_1 + 1)))] (fun R hR => st_val hS rfl rfl rfl (r_bin hS rfl rfl rfl b_add) fun a146 hS146 => st_val hS146 rfl rfl rfl (r_move hS146 rfl rfl) fun a147 hS147 => wpList_nil (hR _ (hS147.re ⟨rfl, rfl, rfl, rfl, rfl, rfl, trivial⟩))) ?_
                clear hS
                clear a
                intro a hS
                refine ⟨k44, Nat.lt_succ_self _, ?_⟩
                exact ⟨v48, wi (m0_1 + 1), g47, H, hS.re ⟨rfl, rfl, rfl, rfl, rfl, rfl, trivial⟩, h31, hp1, hp4, hF⟩
            · replace H := ite_f hb46 H
              refine wp_exit ?_
              have e := Option.some.inj H
              exact ⟨m0_0, g43, e.symm, hS.re ⟨rfl, rfl, trivial⟩, h31, hp1, hF⟩
      · clear H
        clear hp1 hp4 h31 hF
        clear hS
        rintro a w36 ⟨v37, g36, hpre0, hS, h31, hp1, hF⟩
        subst hpre0
        have H := Fl.go_nxt Hl39
        clear Hl39
        obtain ⟨o150, H, Hl151⟩ := bind_el H
        refine c_cut (fun a w148 => ∃ (g148 : Nat → Nat), o150 = .nxt () ∧ Sl 95 a [] ∧ Fr (fun q => N ≤ q) w g w148 g148) ?_ ?_
        · refine c_pure [(12, .slice A29 v37.length cap30), (75, .slice A1 p1.length cap1), (76, .int .i64 (p1.length : Int)), (77, .int .i64 0)] (fun R hR => st_val hS rfl rfl rfl (r_move hS rfl rfl) fun a152 hS152 => st_val hS152 rfl rfl rfl (r_len (e := 43) (sz := 2) (by_ := 16) hS152 rfl rfl (by kernel_rfl)) fun a153 hS153 => st_val hS153 rfl rfl rfl (r_move hS153 rfl rfl) fun a154 hS154 => wpList_nil (hR _ (hS154.re ⟨rfl, rfl, rfl, rfl, trivial⟩))) ?_
          clear hS
          clear a
          intro a hS
          refine wp_block ?_
          refine wp_loop_ghost (fun kq => fun a w155 => ∃ (m2_0 : Int), ∃ (g155 : Nat → Nat), resume_Verify.l2 p1 v37 kq m2_0 = some o150 ∧ Sl 95 a [(12, .slice A29 v37.length cap30), (75, .slice A1 p1.length cap1), (76, .int .i64 (p1.length : Int)), (77, .int .i64 m2_0)] ∧ OwS kd_api_Slot 38 w155 g155 (N + 0) A29 cap30 v37 ∧ RdS kd_api_Link w155 g155 C1 A1 cap1 p1 ∧ Fr (fun q => N ≤ q) w g w155 g155) FUEL ?_ ?_
          · exact ⟨0, g36, H, hS.re ⟨rfl, rfl, rfl, rfl, trivial⟩, h31, hp1, hF⟩
          · clear H
            clear hp1 h31 hF
            clear hS
            rintro k156 a w155 ⟨m2_0, g155, hpre0, hS, h31, hp1, hF⟩
            have H := hpre0
            clear hpre0
            cases k156 with
            | zero => exact absurd H (by simp [resume_Verify.l2])
            | succ k156 =>
              rw [resume_Verify.l2] at H
              refine c_pure [(12, .slice A29 v37.length cap30), (75, .slice A1 p1.length cap1), (76, .int .i64 (p1.length : Int)), (77, .int .i64 m2_0), (78, .bool (decide (m2_0 < (p1.length : Int))))] (fun R hR => st_val hS rfl rfl rfl (r_bin hS rfl rfl rfl b_lss) fun a157 hS157 => wpList_nil (hR _ (hS157.re ⟨rfl, rfl, rfl, rfl, rfl, trivial⟩))) ?_
              clear hS
              clear a
              intro a hS
              refine c_if hS rfl (fun hb158 => ?_) (fun hb158 => ?_)
              · replace H := ite_t hb158 H
                refine wp_skip ?_
                change Code.wp _ _ _ _ _
                refine wp_seq ?_
                refine wp_block ?_
                obtain ⟨x159, hx160, H⟩ := bind_el H
                refine c_region (fun K hK => ?_)
                refine st_val hS rfl rfl rfl (r_index (e := 43) (sz := 2) (by_ := 16) hS rfl rfl rfl (by kernel_rfl) (RdS.some_ hp1 hx160) (idx_lo hx160) (idx_hi hx160)) fun a161 hS161 => st_val hS161 rfl rfl rfl (r_loadN (n := 2) (cs := [.int .i64 x159.Consumer, .int .i64 x159.Supplier]) hS161 rfl rfl (by kernel_rfl) rfl (RdS.cells_off hp1 hx160 0 2)) fun a162 hS162 => ?_
                refine st_eff hS162 rfl rfl rfl (e_alloc (cs := [.int .i64 0, .int .i64 0]) (N + 6) g155 hS162 rfl (by kernel_rfl)) ?_
                rintro _ a166 w167 g167 ⟨⟨b163, rfl, h164⟩, F167⟩ hS166
                replace h31 := OwS.fr h31 F167 (fun _ _ h => h)
                replace hp1 := RdS.fr hp1 F167 (by decide) (fun _ _ h => h)
                replace hF := hF.trans F167 (fun _ h => h.elim)
                refine st_effS hS166 rfl rfl (e_storeB (n := 2) (bb := true) (cs' := [.int .i64 x159.Consumer, .int .i64 x159.Supplier]) g167 hS166 rfl rfl rfl (by kernel_rfl) rfl rfl rfl h164 rfl rfl) ?_
                rintro a168 w169 g169 ⟨h164, F169⟩ hS168
                replace h31 := OwS.fr h31 F169 (fun c' hc (hm : c' = N + 6) => by omega)
                replace hp1 := RdS.fr hp1 F169 (by decide) (fun q (hq : C1 q) (hm : q = N + 6) => by have := hC1 q hq; omega)
                replace hF := hF.trans F169 (fun c' (hm : c' = N + 6) => by show N ≤ c'; omega)
                refine wpList_nil (hK _ _ ?_)
                replace hS : Sl 95 _ [(12, .slice A29 v37.length cap30), (18, .pointer (some ⟨b163, 0, none⟩)), (75, .slice A1 p1.length cap1), (76, .int .i64 (p1.length : Int)), (77, .int .i64 m2_0)] := hS168.re ⟨rfl, rfl, rfl, rfl, rfl, trivial⟩
                clear hK K
                try clear hS161 hS162 hS166 hS168
                obtain ⟨a, ha⟩ : ∃ a', a' = a168 := ⟨_, rfl⟩
                rw [← ha] at hS ⊢; clear ha
                obtain ⟨x174, hx175, H⟩ := bind_el H
                obtain ⟨x182, hx183, H⟩ := bind_el H
                refine c_draw (fun K hK => d_start (fun q => False) g169 [] 13 #[false, false, false, false, false, false, false, false, false, false, false, false, false] (by kernel_rfl) rfl rfl (fun w170 hw170 => ?_))
                have F170 : Fr (fun _ => False) w169 g169 w170 g169 := by rw [hw170]; exact Fr.drew _ _ _
                replace h164 := h164.fr F170 (fun h => h)
                replace h31 := OwS.fr h31 F170 (fun _ _ h => h)
                replace hp1 := RdS.fr hp1 F170 (by decide) (fun _ _ h => h)
                replace hF := hF.trans F170 (fun _ h => h.elim)
                have hC : Fr (fun q => False) w170 g169 w170 g169 := Fr.refl _ _ _
                refine d_pure hS 0 #[true, false, false, false, false, false, false, false, false, false, false, false, false] rfl rfl rfl rfl (by kernel_rfl) (fun _ _ _ h => h) (fun _ => (r_move hS rfl rfl)) fun a171 hS171 => d_pure hS171 1 #[true, true, false, false, false, false, false, false, false, false, false, false, false] rfl rfl rfl rfl (by kernel_rfl) (fun _ _ _ h => h) (fun _ => (r_fieldB (off := 0) hS171 rfl rfl (by kernel_rfl))) fun a172 hS172 => d_take hS172 2 #[true, true, true, false, false, false, false, false, false, false, false, false, false] rfl rfl rfl rfl (by kernel_rfl) (fun _ _ _ h => h) ⟨_, hC⟩ (fun w' g' Fz => (r_load1 (n := 1) hS172 rfl rfl (by kernel_rfl) (Bx.cell (h164.fr Fz (fun h => h)) rfl))) fun a173 hS173 => d_pure hS173 3 #[true, true, true, true, false, false, false, false, false, false, false, false, false] rfl rfl rfl rfl (by kernel_rfl) (fun _ _ _ h => h) (fun _ => (r_index (e := 38) (sz := 4) (by_ := 32) hS173 rfl rfl rfl (by kernel_rfl) (RdS.some_ (OwS.rd h31) hx175) (idx_lo hx175) (idx_hi hx175))) fun a176 hS176 => d_pure hS176 4 #[true, true, true, true, true, false, false, false, false, false, false, false, false] rfl rfl rfl rfl (by kernel_rfl) (fun _ _ _ h => h) (fun _ => (r_fieldE (off := 2) hS176 rfl rfl (by kernel_rfl))) fun a177 hS177 => d_take hS177 5 #[true, true, true, true, true, true, false, false, false, false, false, false, false] rfl rfl rfl rfl (by kernel_rfl) (fun _ _ _ h => h) ⟨_, hC⟩ (fun w' g' Fz => (r_load1 (n := 1) hS177 rfl rfl (by kernel_rfl) (RdS.cell (i := x159.Consumer) (sz := 4) (j := 2) (OwS.rd (OwS.fr h31 Fz (fun _ _ h => h))) hx175 rfl))) fun a178 hS178 => d_pure hS178 6 #[true, true, true, true, true, true, true, false, false, false, false, false, false] rfl rfl rfl rfl (by kernel_rfl) (fun _ _ _ h => h) (fun _ => (r_move hS178 rfl rfl)) fun a179 hS179 => d_pure hS179 7 #[true, true, true, true, true, true, true, true, false, false, false, false, false] rfl rfl rfl rfl (by kernel_rfl) (fun _ _ _ h => h) (fun _ => (r_fieldB (off := 1) hS179 rfl rfl (by kernel_rfl))) fun a180 hS180 => d_take hS180 8 #[true, true, true, true, true, true, true, true, true, false, false, false, false] rfl rfl rfl rfl (by kernel_rfl) (fun _ _ _ h => h) ⟨_, hC⟩ (fun w' g' Fz => (r_load1 (n := 1) hS180 rfl rfl (by kernel_rfl) (Bx.cell (h164.fr Fz (fun h => h)) rfl))) fun a181 hS181 => d_pure hS181 9 #[true, true, true, true, true, true, true, true, true, true, false, false, false] rfl rfl rfl rfl (by kernel_rfl) (fun _ _ _ h => h) (fun _ => (r_index (e := 38) (sz := 4) (by_ := 32) hS181 rfl rfl rfl (by kernel_rfl) (RdS.some_ (OwS.rd h31) hx183) (idx_lo hx183) (idx_hi hx183))) fun a184 hS184 => d_pure hS184 10 #[true, true, true, true, true, true, true, true, true, true, true, false, false] rfl rfl rfl rfl (by kernel_rfl) (fun _ _ _ h => h) (fun _ => (r_fieldE (off := 3) hS184 rfl rfl (by kernel_rfl))) fun a185 hS185 => d_take hS185 11 #[true, true, true, true, true, true, true, true, true, true, true, true, false] rfl rfl rfl rfl (by kernel_rfl) (fun _ _ _ h => h) ⟨_, hC⟩ (fun w' g' Fz => (r_load1 (n := 1) hS185 rfl rfl (by kernel_rfl) (RdS.cell (i := x159.Supplier) (sz := 4) (j := 3) (OwS.rd (OwS.fr h31 Fz (fun _ _ h => h))) hx183 rfl))) fun a186 hS186 => d_pure hS186 12 #[true, true, true, true, true, true, true, true, true, true, true, true, true] rfl rfl rfl rfl (by kernel_rfl) (fun _ _ _ h => h) (fun _ => (r_bin hS186 rfl rfl rfl b_lss)) fun a187 hS187 => d_done (by kernel_rfl) (hK _ _ ?_)
                replace hS : Sl 95 _ [(12, .slice A29 v37.length cap30), (75, .slice A1 p1.length cap1), (76, .int .i64 (p1.length : Int)), (77, .int .i64 m2_0), (93, .bool (decide (x174.Start < x182.End)))] := hS187.re ⟨rfl, rfl, rfl, rfl, rfl, trivial⟩
                clear hK K hC
                try clear hS171 hS172 hS173 hS176 hS177 hS178 hS179 hS180 hS181 hS184 hS185 hS186 hS187
                obtain ⟨a, ha⟩ : ∃ a', a' = a187 := ⟨_, rfl⟩
                rw [← ha] at hS ⊢; clear ha
                refine c_cond hS rfl (fun hb188 => ?_) (fun hb188 => ?_)
                · replace H := ite_t hb188 H
                  refine c_pure [(10, .int .i64 9)] (fun R hR => st_val hS rfl rfl rfl (r_assign hS rfl rfl) fun a189 hS189 => wpList_nil (hR _ (hS189.re ⟨rfl, trivial⟩))) ?_
                  clear hS
                  clear a
                  intro a hS
                  refine wp_ret ?_
                  have e := Option.some.inj H
                  subst e
                  replace H := Fl.go_out Hl151
                  have e := Option.some.inj H
                  subst e
                  repeat (with_reducible first | refine then_ret ?_ | refine inBlock_ret ?_)
                  exact c_ret1 hS Try.results25 rfl ⟨_, rfl, g169, rfl, hF⟩
                · replace H := ite_f hb188 H
                  refine wp_skip ?_
                  change Code.wp _ _ _ _ _
                  refine c_pure1 [(12, .slice A29 v37.length cap30), (75, .slice A1 p1.length cap1), (76, .int .i64 (p1.length : Int)), (77, .int .i64 (wi (m2_0 + 1)))] (fun R hR => st_val hS rfl rfl rfl (r_bin hS rfl rfl rfl b_add) fun a190 hS190 => st_val hS190 rfl rfl rfl (r_move hS190 rfl rfl) fun a191 hS191 => wpList_nil (hR _ (hS191.re ⟨rfl, rfl, rfl, rfl, trivial⟩))) ?_
                  clear hS
                  clear a
                  intro a hS
                  refine ⟨k156, Nat.lt_succ_self _, ?_⟩
                  exact ⟨wi (m2_0 + 1), g169, H, hS.re ⟨rfl, rfl, rfl, rfl, trivial⟩, h31, hp1, hF⟩
              · replace H := ite_f hb158 H
                refine wp_exit ?_
                have e := Option.some.inj H
                exact ⟨g155, e.symm, hS.re trivial, hF⟩
        · clear H
          clear hp1 h31 hF
          clear hS
          rintro a w148 ⟨g148, hpre0, hS, hF⟩
          subst hpre0
          have H := Fl.go_nxt Hl151
          clear Hl151
          refine c_pure [(10, .int .i64 0)] (fun R hR => st_val hS rfl rfl rfl (r_assign hS rfl rfl) fun a192 hS192 => wpList_nil (hR _ (hS192.re ⟨rfl, trivial⟩))) ?_
          clear hS
          clear a
          intro a hS
          refine wp_ret ?_
          have e := Option.some.inj H
          subst e
          repeat (with_reducible first | refine then_ret ?_ | refine inBlock_ret ?_)
          exact c_ret1 hS Try.results25 rfl ⟨_, rfl, g148, rfl, hF⟩


end Go.Proofs.Ythmjgadmadlpkaa.Sim

namespace Go.Proofs.Ythmjgadmadlpkaa.Sim
open Go
set_option linter.unusedVariables false
set_option linter.unusedSimpArgs false

/-! ### law31_awake: function 14 -/
def law31_awake.f  : Option (Bool) := (resume_Schedule.f 3 [(api_Link.mk 2 0)] [3, 2, 4] 2).bind fun r17 => (resume_CriticalPath.f 3 [(api_Link.mk 2 0)] [3, 2, 4]).bind fun r32 => (if (((r17.2 == 0) && (r32.2 == 0)) && (r32.1 == 7)) = true then (resume_Makespan.f r17.1).bind fun r68 => some (r68 == 7) else some false).bind fun t73 => (if t73 = true then (help_Equal_api_Slot.f r17.1 [(api_Slot.mk 0 0 0 3), (api_Slot.mk 1 1 0 2), (api_Slot.mk 2 0 3 7)]).bind fun r101 => some r101 else some false).bind fun t105 => (if t105 = true then (resume_Verify.f 3 [(api_Link.mk 2 0)] [3, 2, 4] 1 r17.1).bind fun r137 => some (r137 == 1) else some false).bind fun t142 => some t142
set_option maxRecDepth 100000 in
set_option maxHeartbeats 4000000 in
theorem law31_awake.calls  {w : World} {g : Nat → Nat} {out : Bool} (N : Nat)  (H : law31_awake.f  = some out) :
    Calls Try.prog 14 #[] w (fun e w' => ∃ v, e = .returned v ∧ ∃ (g' : Nat → Nat), v = .bool out ∧ Fr (fun q => N ≤ q) w g w' g') := by
  unfold law31_awake.f at H
  refine calls_enter Try.func14 rfl Try.ntmps14 rfl (fun a hS => ?_)
  replace hS : Sl 52 a [] := hS
  have hF : Fr (fun q => N ≤ q) w g w g := Fr.refl _ _ _
  refine c_pure [] (fun R hR => st_val hS rfl rfl rfl (r_assign hS rfl rfl) fun a1 hS1 => wpList_nil (hR _ (hS1.re trivial))) ?_
  clear hS
  clear a
  intro a hS
  refine c_region (fun K hK => ?_)
  refine st_val hS rfl rfl rfl (r_build (parts := [(0, .int .i64 2), (1, .int .i64 0)]) (u := .agg #[.int .i64 2, .int .i64 0]) hS rfl rfl (fun _ => by kernel_rfl)) fun a2 hS2 => ?_
  refine st_eff hS2 rfl rfl rfl (e_lit (e := 43) (parts := [(0, .agg #[.int .i64 2, .int .i64 0])]) (cs := [.int .i64 2, .int .i64 0]) kd_api_Link [(api_Link.mk 2 0)] (N + 0) g hS2 rfl rfl (fun _ => by kernel_rfl) rfl (by decide) (Rows.cons (cs := [.int .i64 2, .int .i64 0]) rfl Rows.nil)) ?_
  rintro _ a6 w7 g7 ⟨⟨A3, rfl, h4⟩, F7⟩ hS6
  replace hF := hF.trans F7 (fun _ h => h.elim)
  refine st_eff hS6 rfl rfl rfl (e_lit (e := 33) (parts := [(0, .int .u64 3), (1, .int .u64 2), (2, .int .u64 4)]) (cs := [.int .u64 3, .int .u64 2, .int .u64 4]) (kint .u64) [3, 2, 4] (N + 2) g7 hS6 rfl rfl (fun _ => by kernel_rfl) rfl (by decide) (Rows.cons (cs := [.int .u64 3]) rfl (Rows.cons (cs := [.int .u64 2]) rfl (Rows.cons (cs := [.int .u64 4]) rfl Rows.nil)))) ?_
  rintro _ a11 w12 g12 ⟨⟨A8, rfl, h9⟩, F12⟩ hS11
  replace h4 := OwS.fr h4 F12 (fun _ _ h => h)
  replace hF := hF.trans F12 (fun _ h => h.elim)
  refine st_val hS11 rfl rfl rfl (r_assign hS11 rfl rfl) fun a13 hS13 => st_val hS13 rfl rfl rfl (r_assign hS13 rfl rfl) fun a14 hS14 => wpList_nil (hK _ _ ?_)
  replace hS : Sl 52 _ [(1, .slice A3 [(api_Link.mk 2 0)].length 1), (2, .slice A8 [3, 2, 4].length 3)] := hS14.re ⟨rfl, rfl, trivial⟩
  clear hK K
  try clear hS2 hS6 hS11 hS13 hS14
  obtain ⟨a, ha⟩ : ∃ a', a' = a14 := ⟨_, rfl⟩
  rw [← ha] at hS ⊢; clear ha
  obtain ⟨r17, hr18, H⟩ := bind_el H
  refine c_region (fun K hK => ?_)
  refine st_val hS rfl rfl rfl (r_move hS rfl rfl) fun a15 hS15 => st_val hS15 rfl rfl rfl (r_move hS15 rfl rfl) fun a16 hS16 => ?_
  refine st_enter hS16 rfl rfl rfl (r_call hS16 rfl rfl (by kernel_rfl)) (resume_Schedule.calls (C1 := (fun q => q = N + 0)) (C2 := (fun q => q = N + 2)) (p0 := 3) (p1 := [(api_Link.mk 2 0)]) (p2 := [3, 2, 4]) (p3 := 2) (g := g12) (N + 8) (N + 4) (OwD.rdf (fun _ _ _ _ _ _ h => h) h4) (fun q (hq : q = N + 0) => by omega) (OwD.rdf (fun _ _ _ _ _ _ h => h) h9) (fun q (hq : q = N + 2) => by omega) (by omega) hr18) ?_
  rintro _ a23 w24 ⟨g24, A19, cap20, rfl, h21, F24⟩ hS23
  replace h9 := OwS.fr h9 F24 (fun c' hc (hm : (N + 4 ≤ c' ∧ c' < N + 4 + 2) ∨ N + 8 ≤ c') => by omega)
  replace h4 := OwS.fr h4 F24 (fun c' hc (hm : (N + 4 ≤ c' ∧ c' < N + 4 + 2) ∨ N + 8 ≤ c') => by omega)
  replace hF := hF.trans F24 (fun c' (hm : (N + 4 ≤ c' ∧ c' < N + 4 + 2) ∨ N + 8 ≤ c') => by show N ≤ c'; omega)
  refine st_val hS23 rfl rfl rfl (r_move hS23 rfl rfl) fun a25 hS25 => st_val hS25 rfl rfl rfl (r_extract hS25 rfl rfl rfl) fun a26 hS26 => st_val hS26 rfl rfl rfl (r_extract hS26 rfl rfl rfl) fun a27 hS27 => st_val hS27 rfl rfl rfl (r_assign hS27 rfl rfl) fun a28 hS28 => st_val hS28 rfl rfl rfl (r_assign hS28 rfl rfl) fun a29 hS29 => wpList_nil (hK _ _ ?_)
  replace hS : Sl 52 _ [(1, .slice A3 [(api_Link.mk 2 0)].length 1), (2, .slice A8 [3, 2, 4].length 3), (3, .slice A19 r17.1.length cap20), (4, .int .i64 r17.2)] := hS29.re ⟨rfl, rfl, rfl, rfl, trivial⟩
  clear hK K
  try clear hS15 hS16 hS23 hS25 hS26 hS27 hS28 hS29
  obtain ⟨a, ha⟩ : ∃ a', a' = a29 := ⟨_, rfl⟩
  rw [← ha] at hS ⊢; clear ha
  obtain ⟨r32, hr33, H⟩ := bind_el H
  refine c_region (fun K hK => ?_)
  refine st_val hS rfl rfl rfl (r_move hS rfl rfl) fun a30 hS30 => st_val hS30 rfl rfl rfl (r_move hS30 rfl rfl) fun a31 hS31 => ?_
  refine st_enter hS31 rfl rfl rfl (r_call hS31 rfl rfl (by kernel_rfl)) (resume_CriticalPath.calls (C1 := (fun q => q = N + 0)) (C2 := (fun q => q = N + 2)) (p0 := 3) (p1 := [(api_Link.mk 2 0)]) (p2 := [3, 2, 4]) (g := g24) (N + 8)  (OwD.rdf (fun _ _ _ _ _ _ h => h) h4) (fun q (hq : q = N + 0) => by omega) (OwD.rdf (fun _ _ _ _ _ _ h => h) h9) (fun q (hq : q = N + 2) => by omega) hr33) ?_
  rintro _ a34 w35 ⟨g35, rfl, F35⟩ hS34
  replace h9 := OwS.fr h9 F35 (fun c' hc (hm : N + 8 ≤ c') => by omega)
  replace h21 := OwS.fr h21 F35 (fun c' hc (hm : N + 8 ≤ c') => by omega)
  replace h4 := OwS.fr h4 F35 (fun c' hc (hm : N + 8 ≤ c') => by omega)
  replace hF := hF.trans F35 (fun c' (hm : N + 8 ≤ c') => by show N ≤ c'; omega)
  refine st_val hS34 rfl rfl rfl (r_move hS34 rfl rfl) fun a36 hS36 => st_val hS36 rfl rfl rfl (r_extract hS36 rfl rfl rfl) fun a37 hS37 => st_val hS37 rfl rfl rfl (r_extract hS37 rfl rfl rfl) fun a38 hS38 => st_val hS38 rfl rfl rfl (r_assign hS38 rfl rfl) fun a39 hS39 => st_val hS39 rfl rfl rfl (r_assign hS39 rfl rfl) fun a40 hS40 => wpList_nil (hK _ _ ?_)
  replace hS : Sl 52 _ [(1, .slice A3 [(api_Link.mk 2 0)].length 1), (2, .slice A8 [3, 2, 4].length 3), (3, .slice A19 r17.1.length cap20), (4, .int .i64 r17.2), (5, .int .u64 r32.1), (6, .int .i64 r32.2)] := hS40.re ⟨rfl, rfl, rfl, rfl, rfl, rfl, trivial⟩
  clear hK K
  try clear hS30 hS31 hS34 hS36 hS37 hS38 hS39 hS40
  obtain ⟨a, ha⟩ : ∃ a', a' = a40 := ⟨_, rfl⟩
  rw [← ha] at hS ⊢; clear ha
  obtain ⟨t73, ht74, H⟩ := bind_el H
  obtain ⟨t105, ht106, H⟩ := bind_el H
  obtain ⟨t142, ht143, H⟩ := bind_el H
  refine c_region (fun K hK => ?_)
  refine st_val hS rfl rfl rfl (r_move hS rfl rfl) fun a41 hS41 => st_val hS41 rfl rfl rfl (r_bin hS41 rfl rfl rfl b_eql) fun a42 hS42 => st_val hS42 rfl rfl rfl (r_move hS42 rfl rfl) fun a43 hS43 => ?_
  refine g_join (N := 52) 3 [(1, .slice A3 [(api_Link.mk 2 0)].length 1), (2, .slice A8 [3, 2, 4].length 3), (3, .slice A19 r17.1.length cap20), (5, .int .u64 r32.1), (27, .bool ((r17.2 == 0) && (r32.2 == 0)))] ?_ (fun hk => ?_)
  rotate_left
  · rcases Bool.eq_false_or_eq_true ((r17.2 == 0)) with hb44 | hb44
    · refine st_valW hS43 (want_on hS43 rfl rfl rfl hb44) rfl rfl (r_move hS43 rfl rfl) fun a47 hS47 => st_valW hS47 (want_on hS47 rfl rfl rfl hb44) rfl rfl (r_bin hS47 rfl rfl rfl b_eql) fun a48 hS48 => st_val hS48 rfl rfl rfl (r_pickT hS48 rfl rfl rfl hb44) fun a49 hS49 => hk _ (hS49.re ⟨rfl, rfl, rfl, rfl, (by rw [hb44]; rfl), trivial⟩)
    · refine st_off hS43 (want_off hS43 rfl rfl rfl hb44) rfl rfl fun a50 hS50 => st_off hS50 (want_off hS50 rfl rfl rfl hb44) rfl rfl fun a51 hS51 => st_val hS51 rfl rfl rfl (r_pickF hS51 rfl rfl rfl hb44) fun a52 hS52 => hk _ (hS52.re ⟨rfl, rfl, rfl, rfl, (by rw [hb44]; rfl), trivial⟩)
  intro a53 hS53
  refine st_val hS53 rfl rfl rfl (r_move hS53 rfl rfl) fun a54 hS54 => ?_
  refine g_join (N := 52) 3 [(1, .slice A3 [(api_Link.mk 2 0)].length 1), (2, .slice A8 [3, 2, 4].length 3), (3, .slice A19 r17.1.length cap20), (31, .bool (((r17.2 == 0) && (r32.2 == 0)) && (r32.1 == 7)))] ?_ (fun hk => ?_)
  rotate_left
  · rcases Bool.eq_false_or_eq_true (((r17.2 == 0) && (r32.2 == 0))) with hb55 | hb55
    · refine st_valW hS54 (want_on hS54 rfl rfl rfl hb55) rfl rfl (r_move hS54 rfl rfl) fun a58 hS58 => st_valW hS58 (want_on hS58 rfl rfl rfl hb55) rfl rfl (r_bin hS58 rfl rfl rfl b_eql) fun a59 hS59 => st_val hS59 rfl rfl rfl (r_pickT hS59 rfl rfl rfl hb55) fun a60 hS60 => hk _ (hS60.re ⟨rfl, rfl, rfl, (by rw [hb55]; rfl), trivial⟩)
    · refine st_off hS54 (want_off hS54 rfl rfl rfl hb55) rfl rfl fun a61 hS61 => st_off hS61 (want_off hS61 rfl rfl rfl hb55) rfl rfl fun a62 hS62 => st_val hS62 rfl rfl rfl (r_pickF hS62 rfl rfl rfl hb55) fun a63 hS63 => hk _ (hS63.re ⟨rfl, rfl, rfl, (by rw [hb55]; rfl), trivial⟩)
  intro a64 hS64
  refine st_val hS64 rfl rfl rfl (r_move hS64 rfl rfl) fun a65 hS65 => ?_
  refine g_joinR 4 (fun a w75 => ∃ (g75 : Nat → Nat), Sl 52 a [(1, .slice A3 [(api_Link.mk 2 0)].length 1), (2, .slice A8 [3, 2, 4].length 3), (3, .slice A19 r17.1.length cap20), (36, .bool t73)] ∧ OwS (kint .u64) 33 w75 g75 (N + 2) A8 3 [3, 2, 4] ∧ OwS kd_api_Slot 38 w75 g75 (N + 4) A19 cap20 r17.1 ∧ OwS kd_api_Link 43 w75 g75 (N + 0) A3 1 [(api_Link.mk 2 0)] ∧ Fr (fun q => N ≤ q) w g w75 g75) ?_ (fun hk => ?_)
  rotate_left
  · rcases Bool.eq_false_or_eq_true ((((r17.2 == 0) && (r32.2 == 0)) && (r32.1 == 7))) with hb66 | hb66
    · have H := ite_t hb66 ht74
      obtain ⟨r77, hr78, H⟩ := bind_el H
      have e82 := Option.some.inj H
      refine st_valW hS65 (want_on hS65 rfl rfl rfl hb66) rfl rfl (r_move hS65 rfl rfl) fun a76 hS76 => ?_
      refine st_enterW hS76 (want_on hS76 rfl rfl rfl hb66) rfl rfl (r_call hS76 rfl rfl (by kernel_rfl)) (resume_Makespan.calls (C0 := (fun q => q = N + 4)) (p0 := r17.1) (g := g35) (N + 8)  (OwD.rdf (fun _ _ _ _ _ _ h => h) h21) (fun q (hq : q = N + 4) => by omega) hr78) ?_
      rintro _ a79 w80 ⟨g80, rfl, F80⟩ hS79
      replace h9 := OwS.fr h9 F80 (fun c' hc (hm : N + 8 ≤ c') => by omega)
      replace h21 := OwS.fr h21 F80 (fun c' hc (hm : N + 8 ≤ c') => by omega)
      replace h4 := OwS.fr h4 F80 (fun c' hc (hm : N + 8 ≤ c') => by omega)
      replace hF := hF.trans F80 (fun c' (hm : N + 8 ≤ c') => by show N ≤ c'; omega)
      refine st_valW hS79 (want_on hS79 rfl rfl rfl hb66) rfl rfl (r_bin hS79 rfl rfl rfl b_eql) fun a81 hS81 => ?_
      refine st_val hS81 rfl rfl rfl (r_pickT hS81 rfl rfl rfl hb66) fun a83 hS83 => hk _ _ ?_
      exact ⟨g80, hS83.re ⟨rfl, rfl, rfl, (by rw [← e82]; rfl), trivial⟩, h9, h21, h4, hF⟩
    · have H := ite_f hb66 ht74
      have e84 := Option.some.inj H
      refine st_off hS65 (want_off hS65 rfl rfl rfl hb66) rfl rfl fun a85 hS85 => st_off hS85 (want_off hS85 rfl rfl rfl hb66) rfl rfl fun a86 hS86 => st_off hS86 (want_off hS86 rfl rfl rfl hb66) rfl rfl fun a87 hS87 => st_val hS87 rfl rfl rfl (r_pickF hS87 rfl rfl rfl hb66) fun a88 hS88 => hk _ _ ?_
      exact ⟨g35, hS88.re ⟨rfl, rfl, rfl, (by rw [← e84]; rfl), trivial⟩, h9, h21, h4, hF⟩
  rintro a89 w75 ⟨g75, hS89, h9, h21, h4, hF⟩
  refine st_val hS89 rfl rfl rfl (r_move hS89 rfl rfl) fun a90 hS90 => ?_
  refine g_joinR 7 (fun a w107 => ∃ (g107 : Nat → Nat), Sl 52 a [(1, .slice A3 [(api_Link.mk 2 0)].length 1), (2, .slice A8 [3, 2, 4].length 3), (3, .slice A19 r17.1.length cap20), (44, .bool t105)] ∧ OwS (kint .u64) 33 w107 g107 (N + 2) A8 3 [3, 2, 4] ∧ OwS kd_api_Slot 38 w107 g107 (N + 4) A19 cap20 r17.1 ∧ OwS kd_api_Link 43 w107 g107 (N + 0) A3 1 [(api_Link.mk 2 0)] ∧ Fr (fun q => N ≤ q) w g w107 g107) ?_ (fun hk => ?_)
  rotate_left
  · rcases Bool.eq_false_or_eq_true (t73) with hb91 | hb91
    · have H := ite_t hb91 ht106
      obtain ⟨r117, hr118, H⟩ := bind_el H
      have e121 := Option.some.inj H
      refine st_valW hS90 (want_on hS90 rfl rfl rfl hb91) rfl rfl (r_move hS90 rfl rfl) fun a108 hS108 => st_valW hS108 (want_on hS108 rfl rfl rfl hb91) rfl rfl (r_build (parts := [(0, .int .i64 0), (1, .int .i64 0), (3, .int .u64 3)]) (u := .agg #[.int .i64 0, .int .i64 0, .int .u64 0, .int .u64 3]) hS108 rfl rfl (fun _ => by kernel_rfl)) fun a109 hS109 => st_valW hS109 (want_on hS109 rfl rfl rfl hb91) rfl rfl (r_build (parts := [(0, .int .i64 1), (1, .int .i64 1), (3, .int .u64 2)]) (u := .agg #[.int .i64 1, .int .i64 1, .int .u64 0, .int .u64 2]) hS109 rfl rfl (fun _ => by kernel_rfl)) fun a110 hS110 => st_valW hS110 (want_on hS110 rfl rfl rfl hb91) rfl rfl (r_build (parts := [(0, .int .i64 2), (1, .int .i64 0), (2, .int .u64 3), (3, .int .u64 7)]) (u := .agg #[.int .i64 2, .int .i64 0, .int .u64 3, .int .u64 7]) hS110 rfl rfl (fun _ => by kernel_rfl)) fun a111 hS111 => ?_
      refine st_effW hS111 (want_on hS111 rfl rfl rfl hb91) rfl rfl (e_lit (e := 38) (parts := [(0, .agg #[.int .i64 0, .int .i64 0, .int .u64 0, .int .u64 3]), (1, .agg #[.int .i64 1, .int .i64 1, .int .u64 0, .int .u64 2]), (2, .agg #[.int .i64 2, .int .i64 0, .int .u64 3, .int .u64 7])]) (cs := [.int .i64 0, .int .i64 0, .int .u64 0, .int .u64 3, .int .i64 1, .int .i64 1, .int .u64 0, .int .u64 2, .int .i64 2, .int .i64 0, .int .u64 3, .int .u64 7]) kd_api_Slot [(api_Slot.mk 0 0 0 3), (api_Slot.mk 1 1 0 2), (api_Slot.mk 2 0 3 7)] (N + 6) g75 hS111 rfl rfl (fun _ => by kernel_rfl) rfl (by decide) (Rows.cons (cs := [.int .i64 0, .int .i64 0, .int .u64 0, .int .u64 3]) rfl (Rows.cons (cs := [.int .i64 1, .int .i64 1, .int .u64 0, .int .u64 2]) rfl (Rows.cons (cs := [.int .i64 2, .int .i64 0, .int .u64 3, .int .u64 7]) rfl Rows.nil)))) ?_
      rintro _ a115 w116 g116 ⟨⟨A112, rfl, h113⟩, F116⟩ hS115
      replace h9 := OwS.fr h9 F116 (fun _ _ h => h)
      replace h21 := OwS.fr h21 F116 (fun _ _ h => h)
      replace h4 := OwS.fr h4 F116 (fun _ _ h => h)
      replace hF := hF.trans F116 (fun _ h => h.elim)
      refine st_enterW hS115 (want_on hS115 rfl rfl rfl hb91) rfl rfl (r_call hS115 rfl rfl (by kernel_rfl)) (help_Equal_api_Slot.calls (C0 := (fun q => q = N + 4)) (C1 := (fun q => q = N + 6)) (p0 := r17.1) (p1 := [(api_Slot.mk 0 0 0 3), (api_Slot.mk 1 1 0 2), (api_Slot.mk 2 0 3 7)]) (g := g116) (N + 8)  (OwD.rdf (fun _ _ _ _ _ _ h => h) h21) (fun q (hq : q = N + 4) => by omega) (OwD.rdf (fun _ _ _ _ _ _ h => h) h113) (fun q (hq : q = N + 6) => by omega) hr118) ?_
      rintro _ a119 w120 ⟨g120, rfl, F120⟩ hS119
      replace h9 := OwS.fr h9 F120 (fun c' hc (hm : N + 8 ≤ c') => by omega)
      replace h113 := OwS.fr h113 F120 (fun c' hc (hm : N + 8 ≤ c') => by omega)
      replace h21 := OwS.fr h21 F120 (fun c' hc (hm : N + 8 ≤ c') => by omega)
      replace h4 := OwS.fr h4 F120 (fun c' hc (hm : N + 8 ≤ c') => by omega)
      replace hF := hF.trans F120 (fun c' (hm : N + 8 ≤ c') => by show N ≤ c'; omega)
      refine st_val hS119 rfl rfl rfl (r_pickT hS119 rfl rfl rfl hb91) fun a122 hS122 => hk _ _ ?_
      exact ⟨g120, hS122.re ⟨rfl, rfl, rfl, (by rw [← e121]; rfl), trivial⟩, h9, h21, h4, hF⟩
    · have H := ite_f hb91 ht106
      have e123 := Option.some.inj H
      refine st_off hS90 (want_off hS90 rfl rfl rfl hb91) rfl rfl fun a124 hS124 => st_off hS124 (want_off hS124 rfl rfl rfl hb91) rfl rfl fun a125 hS125 => st_off hS125 (want_off hS125 rfl rfl rfl hb91) rfl rfl fun a126 hS126 => st_off hS126 (want_off hS126 rfl rfl rfl hb91) rfl rfl fun a127 hS127 => st_off hS127 (want_off hS127 rfl rfl rfl hb91) rfl rfl fun a128 hS128 => st_off hS128 (want_off hS128 rfl rfl rfl hb91) rfl rfl fun a129 hS129 => st_val hS129 rfl rfl rfl (r_pickF hS129 rfl rfl rfl hb91) fun a130 hS130 => hk _ _ ?_
      exact ⟨g75, hS130.re ⟨rfl, rfl, rfl, (by rw [← e123]; rfl), trivial⟩, h9, h21, h4, hF⟩
  rintro a131 w107 ⟨g107, hS131, h9, h21, h4, hF⟩
  refine st_val hS131 rfl rfl rfl (r_move hS131 rfl rfl) fun a132 hS132 => ?_
  refine g_joinR 6 (fun a w144 => ∃ (g144 : Nat → Nat), Sl 52 a [(51, .bool t142)] ∧ Fr (fun q => N ≤ q) w g w144 g144) ?_ (fun hk => ?_)
  rotate_left
  · rcases Bool.eq_false_or_eq_true (t105) with hb133 | hb133
    · have H := ite_t hb133 ht143
      obtain ⟨r148, hr149, H⟩ := bind_el H
      have e153 := Option.some.inj H
      refine st_valW hS132 (want_on hS132 rfl rfl rfl hb133) rfl rfl (r_move hS132 rfl rfl) fun a145 hS145 => st_valW hS145 (want_on hS145 rfl rfl rfl hb133) rfl rfl (r_move hS145 rfl rfl) fun a146 hS146 => st_valW hS146 (want_on hS146 rfl rfl rfl hb133) rfl rfl (r_move hS146 rfl rfl) fun a147 hS147 => ?_
      refine st_enterW hS147 (want_on hS147 rfl rfl rfl hb133) rfl rfl (r_call hS147 rfl rfl (by kernel_rfl)) (resume_Verify.calls (C1 := (fun q => q = N + 0)) (C2 := (fun q => q = N + 2)) (C4 := (fun q => q = N + 4)) (p0 := 3) (p1 := [(api_Link.mk 2 0)]) (p2 := [3, 2, 4]) (p3 := 1) (p4 := r17.1) (g := g107) (N + 8)  (OwD.rdf (fun _ _ _ _ _ _ h => h) h4) (fun q (hq : q = N + 0) => by omega) (OwD.rdf (fun _ _ _ _ _ _ h => h) h9) (fun q (hq : q = N + 2) => by omega) (OwD.rdf (fun _ _ _ _ _ _ h => h) h21) (fun q (hq : q = N + 4) => by omega) hr149) ?_
      rintro _ a150 w151 ⟨g151, rfl, F151⟩ hS150
      replace h9 := OwS.fr h9 F151 (fun c' hc (hm : N + 8 ≤ c') => by omega)
      replace h21 := OwS.fr h21 F151 (fun c' hc (hm : N + 8 ≤ c') => by omega)
      replace h4 := OwS.fr h4 F151 (fun c' hc (hm : N + 8 ≤ c') => by omega)
      replace hF := hF.trans F151 (fun c' (hm : N + 8 ≤ c') => by show N ≤ c'; omega)
      refine st_valW hS150 (want_on hS150 rfl rfl rfl hb133) rfl rfl (r_bin hS150 rfl rfl rfl b_eql) fun a152 hS152 => ?_
      refine st_val hS152 rfl rfl rfl (r_pickT hS152 rfl rfl rfl hb133) fun a154 hS154 => hk _ _ ?_
      exact ⟨g151, hS154.re ⟨(by rw [← e153]; rfl), trivial⟩, hF⟩
    · have H := ite_f hb133 ht143
      have e155 := Option.some.inj H
      refine st_off hS132 (want_off hS132 rfl rfl rfl hb133) rfl rfl fun a156 hS156 => st_off hS156 (want_off hS156 rfl rfl rfl hb133) rfl rfl fun a157 hS157 => st_off hS157 (want_off hS157 rfl rfl rfl hb133) rfl rfl fun a158 hS158 => st_off hS158 (want_off hS158 rfl rfl rfl hb133) rfl rfl fun a159 hS159 => st_off hS159 (want_off hS159 rfl rfl rfl hb133) rfl rfl fun a160 hS160 => st_val hS160 rfl rfl rfl (r_pickF hS160 rfl rfl rfl hb133) fun a161 hS161 => hk _ _ ?_
      exact ⟨g107, hS161.re ⟨(by rw [← e155]; rfl), trivial⟩, hF⟩
  rintro a162 w144 ⟨g144, hS162, hF⟩
  refine st_val hS162 rfl rfl rfl (r_assign hS162 rfl rfl) fun a163 hS163 => wpList_nil (hK _ _ ?_)
  replace hS : Sl 52 _ [(0, .bool t142)] := hS163.re ⟨rfl, trivial⟩
  clear hK K
  try clear hS41 hS42 hS43 hS53 hS54 hS64 hS65 hS89 hS90 hS131 hS132 hS162 hS163
  obtain ⟨a, ha⟩ : ∃ a', a' = a163 := ⟨_, rfl⟩
  rw [← ha] at hS ⊢; clear ha
  refine wp_ret ?_
  have e := Option.some.inj H
  subst e
  repeat (with_reducible first | refine then_ret ?_ | refine inBlock_ret ?_)
  exact c_ret1 hS Try.results14 rfl ⟨_, rfl, g144, rfl, hF⟩


end Go.Proofs.Ythmjgadmadlpkaa.Sim

namespace Go.Proofs.Ythmjgadmadlpkaa.Sim
open Go
set_option linter.unusedVariables false
set_option linter.unusedSimpArgs false

/-! ### law31_durations: function 17 -/
def law31_durations.l0 (p0 : Int) (p1 : List Int) : Nat → (List Int) → Int → Option ((List Int))
  | 0, _, _ => none
  | k18 + 1, m0_0, m0_1 => if decide (m0_1 < p0) = true then (((idx m0_0 m0_1).bind fun x32 => if decide (m0_1 < (p1.length : Int)) = true then ((idx p1 m0_1).bind fun x46 => (idx (upd m0_0 m0_1 (wu ((Int.tmod m0_1 3)))) m0_1).bind fun x51 => some (upd (upd m0_0 m0_1 (wu ((Int.tmod m0_1 3)))) m0_1 (Int.tmod x46 12))) else (some (upd m0_0 m0_1 (wu ((Int.tmod m0_1 3))))) : Option ((List Int))).bind fun v24 => law31_durations.l0 p0 p1 k18 v24 (wi (m0_1 + 1))) else (some m0_0)
def law31_durations.f (p0 : Int) (p1 : List Int) : Option ((List Int)) := (mk p0 0).bind fun y3 => (law31_durations.l0 p0 p1 FUEL y3 0 : Option ((List Int))).bind fun v13 => some v13
set_option maxRecDepth 100000 in
set_option maxHeartbeats 4000000 in
theorem law31_durations.calls {p0 : Int} {p1 : List Int} {A1 : Option Addr} {cap1 : Nat} {C1 : Nat → Prop} {w : World} {g : Nat → Nat} {out : (List Int)} (N : Nat) (r0 : Nat) (hp1 : RdS (kint .u64) w g C1 A1 cap1 p1) (hC1 : ∀ c, C1 c → c < N) (hr0 : r0 + 2 ≤ N) (H : law31_durations.f p0 p1 = some out) :
    Calls Try.prog 17 #[.int .i64 p0, .slice A1 p1.length cap1] w (fun e w' => ∃ v, e = .returned v ∧ ∃ (g' : Nat → Nat) (A_r0 : Option Addr) (cap_r0 : Nat), v = .slice A_r0 out.length cap_r0 ∧ OwS (kint .u64) 33 w' g' r0 A_r0 cap_r0 out ∧ Fr (fun q => (r0 ≤ q ∧ q < r0 + 2) ∨ N ≤ q) w g w' g') := by
  unfold law31_durations.f at H
  refine calls_enter Try.func17 rfl Try.ntmps17 rfl (fun a hS => ?_)
  replace hS : Sl 33 a [(0, .int .i64 p0), (1, .slice A1 p1.length cap1)] := hS
  have hF : Fr (fun q => (r0 ≤ q ∧ q < r0 + 2) ∨ N ≤ q) w g w g := Fr.refl _ _ _
  refine c_pure [(0, .int .i64 p0), (1, .slice A1 p1.length cap1)] (fun R hR => st_val hS rfl rfl rfl (r_assign hS rfl rfl) fun a1 hS1 => wpList_nil (hR _ (hS1.re ⟨rfl, rfl, trivial⟩))) ?_
  clear hS
  clear a
  intro a hS
  obtain ⟨y3, hy4, H⟩ := bind_el H
  refine c_region (fun K hK => ?_)
  refine st_val hS rfl rfl rfl (r_move hS rfl rfl) fun a2 hS2 => ?_
  refine st_eff hS2 rfl rfl rfl (e_make (e := 33) (sz := 1) (by_ := 8) (z := [.int .u64 0]) (kd := (kint .u64)) (N + 0) g hS2 rfl rfl (by kernel_rfl) (by kernel_rfl) rfl rfl rfl (fun _ _ _ => by exact rfl) hy4) ?_
  rintro _ a9 w10 g10 ⟨⟨A5, cap6, rfl, h7⟩, F10⟩ hS9
  replace hp1 := RdS.fr hp1 F10 (by decide) (fun _ _ h => h)
  replace hF := hF.trans F10 (fun _ h => h.elim)
  refine st_val hS9 rfl rfl rfl (r_assign hS9 rfl rfl) fun a11 hS11 => wpList_nil (hK _ _ ?_)
  replace hS : Sl 33 _ [(0, .int .i64 p0), (1, .slice A1 p1.length cap1), (5, .slice A5 y3.length cap6)] := hS11.re ⟨rfl, rfl, rfl, trivial⟩
  clear hK K
  try clear hS2 hS9 hS11
  obtain ⟨a, ha⟩ : ∃ a', a' = a11 := ⟨_, rfl⟩
  rw [← ha] at hS ⊢; clear ha
  obtain ⟨v13, H, Hl15⟩ := bind_el H
  refine c_cut (fun a w12 => ∃ (g12 : Nat → Nat), Sl 33 a [(5, .slice A5 v13.length cap6)] ∧ OwS (kint .u64) 33 w12 g12 (N + 0) A5 cap6 v13 ∧ Fr (fun q => (r0 ≤ q ∧ q < r0 + 2) ∨ N ≤ q) w g w12 g12) ?_ ?_
  · refine c_pure [(0, .int .i64 p0), (1, .slice A1 p1.length cap1), (5, .slice A5 y3.length cap6), (6, .int .i64 0)] (fun R hR => st_val hS rfl rfl rfl (r_assign hS rfl rfl) fun a16 hS16 => wpList_nil (hR _ (hS16.re ⟨rfl, rfl, rfl, rfl, trivial⟩))) ?_
    clear hS
    clear a
    intro a hS
    refine wp_block ?_
    refine wp_loop_ghost (fun kq => fun a w17 => ∃ (m0_0 : List Int), ∃ (m0_1 : Int), ∃ (g17 : Nat → Nat), law31_durations.l0 p0 p1 kq m0_0 m0_1 = some v13 ∧ Sl 33 a [(0, .int .i64 p0), (1, .slice A1 p1.length cap1), (5, .slice A5 m0_0.length cap6), (6, .int .i64 m0_1)] ∧ OwS (kint .u64) 33 w17 g17 (N + 0) A5 cap6 m0_0 ∧ RdS (kint .u64) w17 g17 C1 A1 cap1 p1 ∧ Fr (fun q => (r0 ≤ q ∧ q < r0 + 2) ∨ N ≤ q) w g w17 g17) FUEL ?_ ?_
    · exact ⟨y3, 0, g10, H, hS.re ⟨rfl, rfl, rfl, rfl, trivial⟩, h7, hp1, hF⟩
    · clear H
      clear hp1 h7 hF
      clear hS
      rintro k18 a w17 ⟨m0_0, m0_1, g17, hpre0, hS, h7, hp1, hF⟩
      have H := hpre0
      clear hpre0
      cases k18 with
      | zero => exact absurd H (by simp [law31_durations.l0])
      | succ k18 =>
        rw [law31_durations.l0] at H
        refine wp_seq ?_
        refine c_pure [(0, .int .i64 p0), (1, .slice A1 p1.length cap1), (5, .slice A5 m0_0.length cap6), (6, .int .i64 m0_1), (11, .bool (decide (m0_1 < p0)))] (fun R hR => st_val hS rfl rfl rfl (r_move hS rfl rfl) fun a19 hS19 => st_val hS19 rfl rfl rfl (r_move hS19 rfl rfl) fun a20 hS20 => st_val hS20 rfl rfl rfl (r_bin hS20 rfl rfl rfl b_lss) fun a21 hS21 => wpList_nil (hR _ (hS21.re ⟨rfl, rfl, rfl, rfl, rfl, trivial⟩))) ?_
        clear hS
        clear a
        intro a hS
        refine c_cond hS rfl (fun hb22 => ?_) (fun hb22 => ?_)
        · replace H := ite_t hb22 H
          refine wp_skip ?_
          change Code.wp _ _ _ _ _
          obtain ⟨v24, H, Hl26⟩ := bind_el H
          refine c_cut (fun a w23 => ∃ (g23 : Nat → Nat), Sl 33 a [(0, .int .i64 p0), (1, .slice A1 p1.length cap1), (5, .slice A5 v24.length cap6), (6, .int .i64 m0_1)] ∧ OwS (kint .u64) 33 w23 g23 (N + 0) A5 cap6 v24 ∧ RdS (kint .u64) w23 g23 C1 A1 cap1 p1 ∧ Fr (fun q => (r0 ≤ q ∧ q < r0 + 2) ∨ N ≤ q) w g w23 g23) ?_ ?_
          · refine wp_block ?_
            obtain ⟨x32, hx33, H⟩ := bind_el H
            refine c_region (fun K hK => ?_)
            refine st_val hS rfl rfl rfl (r_move hS rfl rfl) fun a27 hS27 => st_val hS27 rfl rfl rfl (r_move hS27 rfl rfl) fun a28 hS28 => st_val hS28 rfl rfl rfl (r_move hS28 rfl rfl) fun a29 hS29 => st_val hS29 rfl rfl rfl (r_bin hS29 rfl rfl rfl (b_rem (by decide))) fun a30 hS30 => st_val hS30 rfl rfl rfl (r_convert (k' := .u64) hS30 rfl rfl (by kernel_rfl)) fun a31 hS31 => st_val hS31 rfl rfl rfl (r_index (e := 33) (sz := 1) (by_ := 8) hS31 rfl rfl rfl (by kernel_rfl) (RdS.some_ (OwS.rd h7) hx33) (idx_lo hx33) (idx_hi hx33)) fun a34 hS34 => ?_
            refine st_effS hS34 rfl rfl (e_storeE (n := 1) (bb := false) (kd := (kint .u64)) (j := 0) (x' := wu ((Int.tmod m0_1 3))) (us := [.int .u64 (wu ((Int.tmod m0_1 3)))]) g17 hS34 rfl rfl rfl rfl (by kernel_rfl) rfl rfl (by intro v hv; simp only [List.mem_cons, List.not_mem_nil, or_false] at hv; rcases hv with rfl <;> rfl) h7 hx33 rfl (fun _ _ cs hR => by rw [show cs = _ from hR]; rfl)) ?_
            rintro a35 w36 g36 ⟨h7, F36⟩ hS35
            replace hp1 := RdS.fr hp1 F36 (by decide) (fun q (hq : C1 q) (hm : q = N + 0) => by have := hC1 q hq; omega)
            replace hF := hF.trans F36 (fun c' (hm : c' = N + 0) => by show (r0 ≤ c' ∧ c' < r0 + 2) ∨ N ≤ c'; omega)
            have hT : Sl 33 a35 [(0, .int .i64 p0), (1, .slice A1 p1.length cap1), (5, .slice A5 m0_0.length cap6), (6, .int .i64 m0_1)] := hS35.re ⟨rfl, rfl, rfl, rfl, trivial⟩
            replace hS35 : Sl 33 a35 [(0, .int .i64 p0), (1, .slice A1 p1.length cap1), (5, .slice A5 (upd m0_0 m0_1 (wu ((Int.tmod m0_1 3)))).length cap6), (6, .int .i64 m0_1)] := by simpa only [upd_length] using hT
            clear hT
            refine wpList_nil (hK _ _ ?_)
            replace hS : Sl 33 _ [(0, .int .i64 p0), (1, .slice A1 p1.length cap1), (5, .slice A5 (upd m0_0 m0_1 (wu ((Int.tmod m0_1 3)))).length cap6), (6, .int .i64 m0_1)] := hS35.re ⟨rfl, rfl, rfl, rfl, trivial⟩
            clear hK K
            try clear hS27 hS28 hS29 hS30 hS31 hS34 hS35
            obtain ⟨a, ha⟩ : ∃ a', a' = a35 := ⟨_, rfl⟩
            rw [← ha] at hS ⊢; clear ha
            refine c_pure [(0, .int .i64 p0), (1, .slice A1 p1.length cap1), (5, .slice A5 (upd m0_0 m0_1 (wu ((Int.tmod m0_1 3)))).length cap6), (6, .int .i64 m0_1), (23, .bool (decide (m0_1 < (p1.length : Int))))] (fun R hR => st_val hS rfl rfl rfl (r_move hS rfl rfl) fun a37 hS37 => st_val hS37 rfl rfl rfl (r_move hS37 rfl rfl) fun a38 hS38 => st_val hS38 rfl rfl rfl (r_len (e := 33) (sz := 1) (by_ := 8) hS38 rfl rfl (by kernel_rfl)) fun a39 hS39 => st_val hS39 rfl rfl rfl (r_bin hS39 rfl rfl rfl b_lss) fun a40 hS40 => wpList_nil (hR _ (hS40.re ⟨rfl, rfl, rfl, rfl, rfl, trivial⟩))) ?_
            clear hS
            clear a
            intro a hS
            refine c_cond hS rfl (fun hb41 => ?_) (fun hb41 => ?_)
            · replace H := ite_t hb41 H
              obtain ⟨x46, hx47, H⟩ := bind_el H
              obtain ⟨x51, hx52, H⟩ := bind_el H
              refine c_region1 (fun K hK => ?_)
              refine st_val hS rfl rfl rfl (r_move hS rfl rfl) fun a42 hS42 => st_val hS42 rfl rfl rfl (r_move hS42 rfl rfl) fun a43 hS43 => st_val hS43 rfl rfl rfl (r_move hS43 rfl rfl) fun a44 hS44 => st_val hS44 rfl rfl rfl (r_move hS44 rfl rfl) fun a45 hS45 => st_val hS45 rfl rfl rfl (r_index (e := 33) (sz := 1) (by_ := 8) hS45 rfl rfl rfl (by kernel_rfl) (RdS.some_ hp1 hx47) (idx_lo hx47) (idx_hi hx47)) fun a48 hS48 => st_val hS48 rfl rfl rfl (r_load1 (n := 1) hS48 rfl rfl (by kernel_rfl) (RdS.cell (i := m0_1) (sz := 1) (j := 0) hp1 hx47 rfl)) fun a49 hS49 => st_val hS49 rfl rfl rfl (r_bin hS49 rfl rfl rfl (b_rem (by decide))) fun a50 hS50 => st_val hS50 rfl rfl rfl (r_index (e := 33) (sz := 1) (by_ := 8) hS50 rfl rfl rfl (by kernel_rfl) (RdS.some_ (OwS.rd h7) hx52) (idx_lo hx52) (idx_hi hx52)) fun a53 hS53 => ?_
              refine st_effS hS53 rfl rfl (e_storeE (n := 1) (bb := false) (kd := (kint .u64)) (j := 0) (x' := (Int.tmod x46 12)) (us := [.int .u64 (Int.tmod x46 12)]) g36 hS53 rfl rfl rfl rfl (by kernel_rfl) rfl rfl (by intro v hv; simp only [List.mem_cons, List.not_mem_nil, or_false] at hv; rcases hv with rfl <;> rfl) h7 hx52 rfl (fun _ _ cs hR => by rw [show cs = _ from hR]; rfl)) ?_
              rintro a54 w55 g55 ⟨h7, F55⟩ hS54
              replace hp1 := RdS.fr hp1 F55 (by decide) (fun q (hq : C1 q) (hm : q = N + 0) => by have := hC1 q hq; omega)
              replace hF := hF.trans F55 (fun c' (hm : c' = N + 0) => by show (r0 ≤ c' ∧ c' < r0 + 2) ∨ N ≤ c'; omega)
              have hT : Sl 33 a54 [(0, .int .i64 p0), (1, .slice A1 p1.length cap1), (5, .slice A5 (upd m0_0 m0_1 (wu ((Int.tmod m0_1 3)))).length cap6), (6, .int .i64 m0_1)] := hS54.re ⟨rfl, rfl, rfl, rfl, trivial⟩
              replace hS54 : Sl 33 a54 [(0, .int .i64 p0), (1, .slice A1 p1.length cap1), (5, .slice A5 (upd (upd m0_0 m0_1 (wu ((Int.tmod m0_1 3)))) m0_1 (Int.tmod x46 12)).length cap6), (6, .int .i64 m0_1)] := by simpa only [upd_length] using hT
              clear hT
              refine wpList_nil (hK _ _ ?_)
              replace hS : Sl 33 _ [(0, .int .i64 p0), (1, .slice A1 p1.length cap1), (5, .slice A5 (upd (upd m0_0 m0_1 (wu ((Int.tmod m0_1 3)))) m0_1 (Int.tmod x46 12)).length cap6), (6, .int .i64 m0_1)] := hS54.re ⟨rfl, rfl, rfl, rfl, trivial⟩
              clear hK K
              try clear hS42 hS43 hS44 hS45 hS48 hS49 hS50 hS53 hS54
              obtain ⟨a, ha⟩ : ∃ a', a' = a54 := ⟨_, rfl⟩
              rw [← ha] at hS ⊢; clear ha
              have e := Option.some.inj H
              subst e
              exact ⟨g55, hS.re ⟨rfl, rfl, rfl, rfl, trivial⟩, h7, hp1, hF⟩
            · replace H := ite_f hb41 H
              refine wp_skip ?_
              have e := Option.some.inj H
              subst e
              exact ⟨g36, hS.re ⟨rfl, rfl, rfl, rfl, trivial⟩, h7, hp1, hF⟩
          · clear H
            clear hp1 h7 hF
            clear hS
            rintro a w23 ⟨g23, hS, h7, hp1, hF⟩
            have H := Hl26
            clear Hl26
            refine c_pure1 [(0, .int .i64 p0), (1, .slice A1 p1.length cap1), (5, .slice A5 v24.length cap6), (6, .int .i64 (wi (m0_1 + 1)))] (fun R hR => st_val hS rfl rfl rfl (r_move hS rfl rfl) fun a56 hS56 => st_val hS56 rfl rfl rfl (r_bin hS56 rfl rfl rfl b_add) fun a57 hS57 => st_val hS57 rfl rfl rfl (r_assign hS57 rfl rfl) fun a58 hS58 => wpList_nil (hR _ (hS58.re ⟨rfl, rfl, rfl, rfl, trivial⟩))) ?_
            clear hS
            clear a
            intro a hS
            refine ⟨k18, Nat.lt_succ_self _, ?_⟩
            exact ⟨v24, wi (m0_1 + 1), g23, H, hS.re ⟨rfl, rfl, rfl, rfl, trivial⟩, h7, hp1, hF⟩
        · replace H := ite_f hb22 H
          refine wp_exit ?_
          have e := Option.some.inj H
          subst e
          exact ⟨g17, hS.re ⟨rfl, trivial⟩, h7, hF⟩
  · clear H
    clear hp1 h7 hF
    clear hS
    rintro a w12 ⟨g12, hS, h7, hF⟩
    have H := Hl15
    clear Hl15
    refine c_pure [(4, .slice A5 v13.length cap6)] (fun R hR => st_val hS rfl rfl rfl (r_move hS rfl rfl) fun a59 hS59 => st_val hS59 rfl rfl rfl (r_assign hS59 rfl rfl) fun a60 hS60 => wpList_nil (hR _ (hS60.re ⟨rfl, trivial⟩))) ?_
    clear hS
    clear a
    intro a hS
    refine wp_ret ?_
    have e := Option.some.inj H
    subst e
    have F61 := Fr.recol2 w12 g12 (N + 0) r0
    replace h7 := h7.recol2 r0
    replace hF := hF.trans F61 (fun c' (hm : c' = N + 0 ∨ c' = N + 0 + 1) => by show (r0 ≤ c' ∧ c' < r0 + 2) ∨ N ≤ c'; omega)
    repeat (with_reducible first | refine then_ret ?_ | refine inBlock_ret ?_)
    exact c_ret1 hS Try.results17 rfl ⟨_, rfl, (recol2 g12 (N + 0) r0), A5, cap6, rfl, h7, hF⟩


end Go.Proofs.Ythmjgadmadlpkaa.Sim

namespace Go.Proofs.Ythmjgadmadlpkaa.Sim
open Go
set_option linter.unusedVariables false
set_option linter.unusedSimpArgs false

def Wf_api_Link (x : api_Link) : Prop := (Lit.int .i64 x.Consumer).wf = true ∧ (Lit.int .i64 x.Supplier).wf = true
theorem opens_api_Link : Opens Try.prog 43 kd_api_Link Wf_api_Link := by
  intro H enc w held fuel cs x h
  have hl : cs.length = 2 := by
    obtain ⟨_, _, _, _, hl, _⟩ := DataW.trod_struct Try.underlying43 h
    rw [hl]; kernel_rfl
  match cs, hl with
  | [c0, c1], _ =>
    obtain ⟨ys0, m0, _, _, _, hlen0, hf0⟩ := DataW.trod_struct Try.underlying43 h
    obtain ⟨y0_0, h0_0⟩ := trod_field hf0 hlen0 0 rfl (n := 1) (by kernel_rfl)
    obtain ⟨n1, r1, w1⟩ := (Opens.int Try.underlying3) enc w held _ _ _ h0_0
    injection (show [c0] = [.int .i64 n1] from r1) with e1; subst e1
    obtain ⟨y0_1, h0_1⟩ := trod_field hf0 hlen0 1 rfl (n := 1) (by kernel_rfl)
    obtain ⟨n2, r2, w2⟩ := (Opens.int Try.underlying3) enc w held _ _ _ h0_1
    injection (show [c1] = [.int .i64 n2] from r2) with e2; subst e2
    exact ⟨(api_Link.mk n1 n2), rfl, ⟨w1, w2⟩⟩

def Wf_api_Slot (x : api_Slot) : Prop := (Lit.int .i64 x.Device).wf = true ∧ (Lit.int .i64 x.Worker).wf = true ∧ (Lit.int .u64 x.Start).wf = true ∧ (Lit.int .u64 x.End).wf = true
theorem opens_api_Slot : Opens Try.prog 38 kd_api_Slot Wf_api_Slot := by
  intro H enc w held fuel cs x h
  have hl : cs.length = 4 := by
    obtain ⟨_, _, _, _, hl, _⟩ := DataW.trod_struct Try.underlying38 h
    rw [hl]; kernel_rfl
  match cs, hl with
  | [c0, c1, c2, c3], _ =>
    obtain ⟨ys0, m0, _, _, _, hlen0, hf0⟩ := DataW.trod_struct Try.underlying38 h
    obtain ⟨y0_0, h0_0⟩ := trod_field hf0 hlen0 0 rfl (n := 1) (by kernel_rfl)
    obtain ⟨n1, r1, w1⟩ := (Opens.int Try.underlying3) enc w held _ _ _ h0_0
    injection (show [c0] = [.int .i64 n1] from r1) with e1; subst e1
    obtain ⟨y0_1, h0_1⟩ := trod_field hf0 hlen0 1 rfl (n := 1) (by kernel_rfl)
    obtain ⟨n2, r2, w2⟩ := (Opens.int Try.underlying3) enc w held _ _ _ h0_1
    injection (show [c1] = [.int .i64 n2] from r2) with e2; subst e2
    obtain ⟨y0_2, h0_2⟩ := trod_field hf0 hlen0 2 rfl (n := 1) (by kernel_rfl)
    obtain ⟨n3, r3, w3⟩ := (Opens.int Try.underlying33) enc w held _ _ _ h0_2
    injection (show [c2] = [.int .u64 n3] from r3) with e3; subst e3
    obtain ⟨y0_3, h0_3⟩ := trod_field hf0 hlen0 3 rfl (n := 1) (by kernel_rfl)
    obtain ⟨n4, r4, w4⟩ := (Opens.int Try.underlying33) enc w held _ _ _ h0_3
    injection (show [c3] = [.int .u64 n4] from r4) with e4; subst e4
    exact ⟨(api_Slot.mk n1 n2 n3 n4), rfl, ⟨w1, w2, w3, w4⟩⟩


end Go.Proofs.Ythmjgadmadlpkaa.Sim

namespace Go.Proofs.Ythmjgadmadlpkaa.Sim
open Go
set_option linter.unusedVariables false
set_option linter.unusedSimpArgs false

/-! ### law31_ResumeScales: function 10 -/
def law31_ResumeScales.l0 (p4 : Int) (r13 : Int × (List api_Link)) (r39 : (List Int)) : Nat → (List Int) → Int → Option ((List Int))
  | 0, _, _ => none
  | k64 + 1, m0_0, m0_1 => if decide (m0_1 < r13.1) = true then ((idx r39 m0_1).bind fun x74 => (idx m0_0 m0_1).bind fun x79 => law31_ResumeScales.l0 p4 r13 r39 k64 (upd m0_0 m0_1 (wu ((wu (1 + (wu (p4)))) * x74))) (wi (m0_1 + 1))) else (some m0_0)
def law31_ResumeScales.l1 (p4 : Int) (r13 : Int × (List api_Link)) (r91 : (List api_Slot) × Int) (r108 : (List api_Slot) × Int) : Nat → Int → Option (Fl (Bool) (Unit))
  | 0, _ => none
  | k176 + 1, m1_0 => if decide (m1_0 < r13.1) = true then ((idx r91.1 m1_0).bind fun x183 => (idx r108.1 m1_0).bind fun x211 => if (!decide (x211 = (api_Slot.mk x183.Device x183.Worker (wu ((wu (1 + (wu (p4)))) * x183.Start)) (wu ((wu (1 + (wu (p4)))) * x183.End))))) = true then (some (.out false)) else (law31_ResumeScales.l1 p4 r13 r91 r108 k176 (wi (m1_0 + 1)))) else (some (.nxt ()))
def law31_ResumeScales.f (p0 : Int) (p1 : List api_Link) (p2 : List Int) (p3 : Int) (p4 : Int) : Option (Bool) := if decide (40 < (p1.length : Int)) = true then ((law31_awake.f ).bind fun r6 => some r6) else ((law24_Graph.f p0 p1 true).bind fun r13 => (help_Mod.f p3 5).bind fun r27 => (law31_durations.f r13.1 p2).bind fun r39 => (mk r13.1 0).bind fun y49 => (law31_ResumeScales.l0 p4 r13 r39 FUEL y49 0 : Option ((List Int))).bind fun v59 => (resume_Schedule.f r13.1 r13.2 r39 (wi (1 + r27))).bind fun r91 => (resume_Schedule.f r13.1 r13.2 v59 (wi (1 + r27))).bind fun r108 => if ((((r91.2 != 0) || (r108.2 != 0)) || ((r91.1.length : Int) != r13.1)) || ((r108.1.length : Int) != r13.1)) = true then (some false) else ((law31_ResumeScales.l1 p4 r13 r91 r108 FUEL 0 : Option (Fl (Bool) (Unit))).bind fun o172 => o172.go fun _ => (law31_awake.f ).bind fun r222 => some r222))
set_option maxRecDepth 100000 in
set_option maxHeartbeats 4000000 in
theorem law31_ResumeScales.calls {p0 : Int} {p1 : List api_Link} {A1 : Option Addr} {cap1 : Nat} {C1 : Nat → Prop} {p2 : List Int} {A2 : Option Addr} {cap2 : Nat} {C2 : Nat → Prop} {p3 : Int} {p4 : Int} {w : World} {g : Nat → Nat} {out : Bool} (N : Nat) (hp1 : RdS kd_api_Link w g C1 A1 cap1 p1) (hC1 : ∀ c, C1 c → c < N) (hp2 : RdS (kint .u64) w g C2 A2 cap2 p2) (hC2 : ∀ c, C2 c → c < N) (H : law31_ResumeScales.f p0 p1 p2 p3 p4 = some out) :
    Calls Try.prog 10 #[.int .i64 p0, .slice A1 p1.length cap1, .slice A2 p2.length cap2, .int .i64 p3, .int .u16 p4] w (fun e w' => ∃ v, e = .returned v ∧ ∃ (g' : Nat → Nat), v = .bool out ∧ Fr (fun q => N ≤ q) w g w' g') := by
  unfold law31_ResumeScales.f at H
  refine calls_enter Try.func10 rfl Try.ntmps10 rfl (fun a hS => ?_)
  replace hS : Sl 119 a [(0, .int .i64 p0), (1, .slice A1 p1.length cap1), (2, .slice A2 p2.length cap2), (3, .int .i64 p3), (4, .int .u16 p4)] := hS
  have hF : Fr (fun q => N ≤ q) w g w g := Fr.refl _ _ _
  refine c_pure [(0, .int .i64 p0), (1, .slice A1 p1.length cap1), (2, .slice A2 p2.length cap2), (3, .int .i64 p3), (4, .int .u16 p4)] (fun R hR => st_val hS rfl rfl rfl (r_assign hS rfl rfl) fun a1 hS1 => wpList_nil (hR _ (hS1.re ⟨rfl, rfl, rfl, rfl, rfl, trivial⟩))) ?_
  clear hS
  clear a
  intro a hS
  refine wp_seq ?_
  refine c_pure [(0, .int .i64 p0), (1, .slice A1 p1.length cap1), (2, .slice A2 p2.length cap2), (3, .int .i64 p3), (4, .int .u16 p4), (26, .bool (decide (40 < (p1.length : Int))))] (fun R hR => st_val hS rfl rfl rfl (r_move hS rfl rfl) fun a2 hS2 => st_val hS2 rfl rfl rfl (r_len (e := 43) (sz := 2) (by_ := 16) hS2 rfl rfl (by kernel_rfl)) fun a3 hS3 => st_val hS3 rfl rfl rfl (r_bin hS3 rfl rfl rfl b_gtr) fun a4 hS4 => wpList_nil (hR _ (hS4.re ⟨rfl, rfl, rfl, rfl, rfl, rfl, trivial⟩))) ?_
  clear hS
  clear a
  intro a hS
  refine c_cond hS rfl (fun hb5 => ?_) (fun hb5 => ?_)
  · replace H := ite_t hb5 H
    obtain ⟨r6, hr7, H⟩ := bind_el H
    refine c_region (fun K hK => ?_)
    refine st_enter hS rfl rfl rfl (r_call hS rfl rfl (by kernel_rfl)) (law31_awake.calls (g := g) (N + 12)   hr7) ?_
    rintro _ a8 w9 ⟨g9, rfl, F9⟩ hS8
    replace hp1 := RdS.fr hp1 F9 (by decide) (fun q (hq : C1 q) (hm : N + 12 ≤ q) => by have := hC1 q hq; omega)
    replace hp2 := RdS.fr hp2 F9 (by decide) (fun q (hq : C2 q) (hm : N + 12 ≤ q) => by have := hC2 q hq; omega)
    replace hF := hF.trans F9 (fun c' (hm : N + 12 ≤ c') => by show N ≤ c'; omega)
    refine st_val hS8 rfl rfl rfl (r_assign hS8 rfl rfl) fun a10 hS10 => wpList_nil (hK _ _ ?_)
    replace hS : Sl 119 _ [(10, .bool r6)] := hS10.re ⟨rfl, trivial⟩
    clear hK K
    try clear hS8 hS10
    obtain ⟨a, ha⟩ : ∃ a', a' = a10 := ⟨_, rfl⟩
    rw [← ha] at hS ⊢; clear ha
    refine wp_ret ?_
    have e := Option.some.inj H
    subst e
    repeat (with_reducible first | refine then_ret ?_ | refine inBlock_ret ?_)
    exact c_ret1 hS Try.results10 rfl ⟨_, rfl, g9, rfl, hF⟩
  · replace H := ite_f hb5 H
    refine wp_skip ?_
    change Code.wp _ _ _ _ _
    obtain ⟨r13, hr14, H⟩ := bind_el H
    refine c_region (fun K hK => ?_)
    refine st_val hS rfl rfl rfl (r_move hS rfl rfl) fun a11 hS11 => st_val hS11 rfl rfl rfl (r_move hS11 rfl rfl) fun a12 hS12 => ?_
    refine st_enter hS12 rfl rfl rfl (r_call hS12 rfl rfl (by kernel_rfl)) (law24_Graph.calls (C1 := C1) (p0 := p0) (p1 := p1) (p2 := true) (g := g) (N + 12) (N + 0) hp1 (fun q (hq : C1 q) => by have := hC1 q hq; omega) (by omega) hr14) ?_
    rintro _ a19 w20 ⟨g20, A15, cap16, rfl, h17, F20⟩ hS19
    replace hp1 := RdS.fr hp1 F20 (by decide) (fun q (hq : C1 q) (hm : (N + 0 ≤ q ∧ q < N + 0 + 2) ∨ N + 12 ≤ q) => by have := hC1 q hq; omega)
    replace hp2 := RdS.fr hp2 F20 (by decide) (fun q (hq : C2 q) (hm : (N + 0 ≤ q ∧ q < N + 0 + 2) ∨ N + 12 ≤ q) => by have := hC2 q hq; omega)
    replace hF := hF.trans F20 (fun c' (hm : (N + 0 ≤ c' ∧ c' < N + 0 + 2) ∨ N + 12 ≤ c') => by show N ≤ c'; omega)
    refine st_val hS19 rfl rfl rfl (r_move hS19 rfl rfl) fun a21 hS21 => st_val hS21 rfl rfl rfl (r_extract hS21 rfl rfl rfl) fun a22 hS22 => st_val hS22 rfl rfl rfl (r_extract hS22 rfl rfl rfl) fun a23 hS23 => st_val hS23 rfl rfl rfl (r_assign hS23 rfl rfl) fun a24 hS24 => st_val hS24 rfl rfl rfl (r_assign hS24 rfl rfl) fun a25 hS25 => wpList_nil (hK _ _ ?_)
    replace hS : Sl 119 _ [(2, .slice A2 p2.length cap2), (3, .int .i64 p3), (4, .int .u16 p4), (11, .int .i64 r13.1), (12, .slice A15 r13.2.length cap16)] := hS25.re ⟨rfl, rfl, rfl, rfl, rfl, trivial⟩
    clear hK K
    try clear hS11 hS12 hS19 hS21 hS22 hS23 hS24 hS25
    obtain ⟨a, ha⟩ : ∃ a', a' = a25 := ⟨_, rfl⟩
    rw [← ha] at hS ⊢; clear ha
    obtain ⟨r27, hr28, H⟩ := bind_el H
    refine c_region (fun K hK => ?_)
    refine st_val hS rfl rfl rfl (r_move hS rfl rfl) fun a26 hS26 => ?_
    refine st_enter hS26 rfl rfl rfl (r_call hS26 rfl rfl (by kernel_rfl)) (help_Mod.calls (p0 := p3) (p1 := 5) (g := g20) (N + 12)   hr28) ?_
    rintro _ a29 w30 ⟨g30, rfl, F30⟩ hS29
    replace h17 := OwS.fr h17 F30 (fun c' hc (hm : N + 12 ≤ c') => by omega)
    replace hp2 := RdS.fr hp2 F30 (by decide) (fun q (hq : C2 q) (hm : N + 12 ≤ q) => by have := hC2 q hq; omega)
    replace hF := hF.trans F30 (fun c' (hm : N + 12 ≤ c') => by show N ≤ c'; omega)
    refine st_val hS29 rfl rfl rfl (r_bin hS29 rfl rfl rfl b_add) fun a31 hS31 => st_val hS31 rfl rfl rfl (r_assign hS31 rfl rfl) fun a32 hS32 => wpList_nil (hK _ _ ?_)
    replace hS : Sl 119 _ [(2, .slice A2 p2.length cap2), (4, .int .u16 p4), (11, .int .i64 r13.1), (12, .slice A15 r13.2.length cap16), (13, .int .i64 (wi (1 + r27)))] := hS32.re ⟨rfl, rfl, rfl, rfl, rfl, trivial⟩
    clear hK K
    try clear hS26 hS29 hS31 hS32
    obtain ⟨a, ha⟩ : ∃ a', a' = a32 := ⟨_, rfl⟩
    rw [← ha] at hS ⊢; clear ha
    refine c_pure [(2, .slice A2 p2.length cap2), (11, .int .i64 r13.1), (12, .slice A15 r13.2.length cap16), (13, .int .i64 (wi (1 + r27))), (14, .int .u64 (wu (1 + (wu (p4)))))] (fun R hR => st_val hS rfl rfl rfl (r_move hS rfl rfl) fun a33 hS33 => st_val hS33 rfl rfl rfl (r_convert (k' := .u64) hS33 rfl rfl (by kernel_rfl)) fun a34 hS34 => st_val hS34 rfl rfl rfl (r_bin hS34 rfl rfl rfl b_add) fun a35 hS35 => st_val hS35 rfl rfl rfl (r_assign hS35 rfl rfl) fun a36 hS36 => wpList_nil (hR _ (hS36.re ⟨rfl, rfl, rfl, rfl, rfl, trivial⟩))) ?_
    clear hS
    clear a
    intro a hS
    obtain ⟨r39, hr40, H⟩ := bind_el H
    refine c_region (fun K hK => ?_)
    refine st_val hS rfl rfl rfl (r_move hS rfl rfl) fun a37 hS37 => st_val hS37 rfl rfl rfl (r_move hS37 rfl rfl) fun a38 hS38 => ?_
    refine st_enter hS38 rfl rfl rfl (r_call hS38 rfl rfl (by kernel_rfl)) (law31_durations.calls (C1 := C2) (p0 := r13.1) (p1 := p2) (g := g30) (N + 12) (N + 2) hp2 (fun q (hq : C2 q) => by have := hC2 q hq; omega) (by omega) hr40) ?_
    rintro _ a45 w46 ⟨g46, A41, cap42, rfl, h43, F46⟩ hS45
    replace h17 := OwS.fr h17 F46 (fun c' hc (hm : (N + 2 ≤ c' ∧ c' < N + 2 + 2) ∨ N + 12 ≤ c') => by omega)
    replace hp2 := RdS.fr hp2 F46 (by decide) (fun q (hq : C2 q) (hm : (N + 2 ≤ q ∧ q < N + 2 + 2) ∨ N + 12 ≤ q) => by have := hC2 q hq; omega)
    replace hF := hF.trans F46 (fun c' (hm : (N + 2 ≤ c' ∧ c' < N + 2 + 2) ∨ N + 12 ≤ c') => by show N ≤ c'; omega)
    refine st_val hS45 rfl rfl rfl (r_assign hS45 rfl rfl) fun a47 hS47 => wpList_nil (hK _ _ ?_)
    replace hS : Sl 119 _ [(11, .int .i64 r13.1), (12, .slice A15 r13.2.length cap16), (13, .int .i64 (wi (1 + r27))), (14, .int .u64 (wu (1 + (wu (p4))))), (15, .slice A41 r39.length cap42)] := hS47.re ⟨rfl, rfl, rfl, rfl, rfl, trivial⟩
    clear hK K
    try clear hS37 hS38 hS45 hS47
    obtain ⟨a, ha⟩ : ∃ a', a' = a47 := ⟨_, rfl⟩
    rw [← ha] at hS ⊢; clear ha
    obtain ⟨y49, hy50, H⟩ := bind_el H
    refine c_region (fun K hK => ?_)
    refine st_val hS rfl rfl rfl (r_move hS rfl rfl) fun a48 hS48 => ?_
    refine st_eff hS48 rfl rfl rfl (e_make (e := 33) (sz := 1) (by_ := 8) (z := [.int .u64 0]) (kd := (kint .u64)) (N + 4) g46 hS48 rfl rfl (by kernel_rfl) (by kernel_rfl) rfl rfl rfl (fun _ _ _ => by exact rfl) hy50) ?_
    rintro _ a55 w56 g56 ⟨⟨A51, cap52, rfl, h53⟩, F56⟩ hS55
    replace h17 := OwS.fr h17 F56 (fun _ _ h => h)
    replace h43 := OwS.fr h43 F56 (fun _ _ h => h)
    replace hF := hF.trans F56 (fun _ h => h.elim)
    refine st_val hS55 rfl rfl rfl (r_assign hS55 rfl rfl) fun a57 hS57 => wpList_nil (hK _ _ ?_)
    replace hS : Sl 119 _ [(11, .int .i64 r13.1), (12, .slice A15 r13.2.length cap16), (13, .int .i64 (wi (1 + r27))), (14, .int .u64 (wu (1 + (wu (p4))))), (15, .slice A41 r39.length cap42), (16, .slice A51 y49.length cap52)] := hS57.re ⟨rfl, rfl, rfl, rfl, rfl, rfl, trivial⟩
    clear hK K
    try clear hS48 hS55 hS57
    obtain ⟨a, ha⟩ : ∃ a', a' = a57 := ⟨_, rfl⟩
    rw [← ha] at hS ⊢; clear ha
    obtain ⟨v59, H, Hl61⟩ := bind_el H
    refine c_cut (fun a w58 => ∃ (g58 : Nat → Nat), Sl 119 a [(11, .int .i64 r13.1), (12, .slice A15 r13.2.length cap16), (13, .int .i64 (wi (1 + r27))), (14, .int .u64 (wu (1 + (wu (p4))))), (15, .slice A41 r39.length cap42), (16, .slice A51 v59.length cap52)] ∧ OwS kd_api_Link 43 w58 g58 (N + 0) A15 cap16 r13.2 ∧ OwS (kint .u64) 33 w58 g58 (N + 2) A41 cap42 r39 ∧ OwS (kint .u64) 33 w58 g58 (N + 4) A51 cap52 v59 ∧ Fr (fun q => N ≤ q) w g w58 g58) ?_ ?_
    · refine c_pure [(11, .int .i64 r13.1), (12, .slice A15 r13.2.length cap16), (13, .int .i64 (wi (1 + r27))), (14, .int .u64 (wu (1 + (wu (p4))))), (15, .slice A41 r39.length cap42), (16, .slice A51 y49.length cap52), (17, .int .i64 0)] (fun R hR => st_val hS rfl rfl rfl (r_assign hS rfl rfl) fun a62 hS62 => wpList_nil (hR _ (hS62.re ⟨rfl, rfl, rfl, rfl, rfl, rfl, rfl, trivial⟩))) ?_
      clear hS
      clear a
      intro a hS
      refine wp_block ?_
      refine wp_loop_ghost (fun kq => fun a w63 => ∃ (m0_0 : List Int), ∃ (m0_1 : Int), ∃ (g63 : Nat → Nat), law31_ResumeScales.l0 p4 r13 r39 kq m0_0 m0_1 = some v59 ∧ Sl 119 a [(11, .int .i64 r13.1), (12, .slice A15 r13.2.length cap16), (13, .int .i64 (wi (1 + r27))), (14, .int .u64 (wu (1 + (wu (p4))))), (15, .slice A41 r39.length cap42), (16, .slice A51 m0_0.length cap52), (17, .int .i64 m0_1)] ∧ OwS kd_api_Link 43 w63 g63 (N + 0) A15 cap16 r13.2 ∧ OwS (kint .u64) 33 w63 g63 (N + 2) A41 cap42 r39 ∧ OwS (kint .u64) 33 w63 g63 (N + 4) A51 cap52 m0_0 ∧ Fr (fun q => N ≤ q) w g w63 g63) FUEL ?_ ?_
      · exact ⟨y49, 0, g56, H, hS.re ⟨rfl, rfl, rfl, rfl, rfl, rfl, rfl, trivial⟩, h17, h43, h53, hF⟩
      · clear H
        clear h17 h43 h53 hF
        clear hS
        rintro k64 a w63 ⟨m0_0, m0_1, g63, hpre0, hS, h17, h43, h53, hF⟩
        have H := hpre0
        clear hpre0
        cases k64 with
        | zero => exact absurd H (by simp [law31_ResumeScales.l0])
        | succ k64 =>
          rw [law31_ResumeScales.l0] at H
          refine wp_seq ?_
          refine c_pure [(11, .int .i64 r13.1), (12, .slice A15 r13.2.length cap16), (13, .int .i64 (wi (1 + r27))), (14, .int .u64 (wu (1 + (wu (p4))))), (15, .slice A41 r39.length cap42), (16, .slice A51 m0_0.length cap52), (17, .int .i64 m0_1), (47, .bool (decide (m0_1 < r13.1)))] (fun R hR => st_val hS rfl rfl rfl (r_move hS rfl rfl) fun a65 hS65 => st_val hS65 rfl rfl rfl (r_move hS65 rfl rfl) fun a66 hS66 => st_val hS66 rfl rfl rfl (r_bin hS66 rfl rfl rfl b_lss) fun a67 hS67 => wpList_nil (hR _ (hS67.re ⟨rfl, rfl, rfl, rfl, rfl, rfl, rfl, rfl, trivial⟩))) ?_
          clear hS
          clear a
          intro a hS
          refine c_cond hS rfl (fun hb68 => ?_) (fun hb68 => ?_)
          · replace H := ite_t hb68 H
            refine wp_skip ?_
            change Code.wp _ _ _ _ _
            refine wp_seq ?_
            refine wp_block ?_
            obtain ⟨x74, hx75, H⟩ := bind_el H
            obtain ⟨x79, hx80, H⟩ := bind_el H
            refine c_region1 (fun K hK => ?_)
            refine st_val hS rfl rfl rfl (r_move hS rfl rfl) fun a69 hS69 => st_val hS69 rfl rfl rfl (r_move hS69 rfl rfl) fun a70 hS70 => st_val hS70 rfl rfl rfl (r_move hS70 rfl rfl) fun a71 hS71 => st_val hS71 rfl rfl rfl (r_move hS71 rfl rfl) fun a72 hS72 => st_val hS72 rfl rfl rfl (r_move hS72 rfl rfl) fun a73 hS73 => st_val hS73 rfl rfl rfl (r_index (e := 33) (sz := 1) (by_ := 8) hS73 rfl rfl rfl (by kernel_rfl) (RdS.some_ (OwS.rd h43) hx75) (idx_lo hx75) (idx_hi hx75)) fun a76 hS76 => st_val hS76 rfl rfl rfl (r_load1 (n := 1) hS76 rfl rfl (by kernel_rfl) (RdS.cell (i := m0_1) (sz := 1) (j := 0) (OwS.rd h43) hx75 rfl)) fun a77 hS77 => st_val hS77 rfl rfl rfl (r_bin hS77 rfl rfl rfl b_mul) fun a78 hS78 => st_val hS78 rfl rfl rfl (r_index (e := 33) (sz := 1) (by_ := 8) hS78 rfl rfl rfl (by kernel_rfl) (RdS.some_ (OwS.rd h53) hx80) (idx_lo hx80) (idx_hi hx80)) fun a81 hS81 => ?_
            refine st_effS hS81 rfl rfl (e_storeE (n := 1) (bb := false) (kd := (kint .u64)) (j := 0) (x' := wu ((wu (1 + (wu (p4)))) * x74)) (us := [.int .u64 (wu ((wu (1 + (wu (p4)))) * x74))]) g63 hS81 rfl rfl rfl rfl (by kernel_rfl) rfl rfl (by intro v hv; simp only [List.mem_cons, List.not_mem_nil, or_false] at hv; rcases hv with rfl <;> rfl) h53 hx80 rfl (fun _ _ cs hR => by rw [show cs = _ from hR]; rfl)) ?_
            rintro a82 w83 g83 ⟨h53, F83⟩ hS82
            replace h17 := OwS.fr h17 F83 (fun c' hc (hm : c' = N + 4) => by omega)
            replace h43 := OwS.fr h43 F83 (fun c' hc (hm : c' = N + 4) => by omega)
            replace hF := hF.trans F83 (fun c' (hm : c' = N + 4) => by show N ≤ c'; omega)
            have hT : Sl 119 a82 [(11, .int .i64 r13.1), (12, .slice A15 r13.2.length cap16), (13, .int .i64 (wi (1 + r27))), (14, .int .u64 (wu (1 + (wu (p4))))), (15, .slice A41 r39.length cap42), (16, .slice A51 m0_0.length cap52), (17, .int .i64 m0_1)] := hS82.re ⟨rfl, rfl, rfl, rfl, rfl, rfl, rfl, trivial⟩
            replace hS82 : Sl 119 a82 [(11, .int .i64 r13.1), (12, .slice A15 r13.2.length cap16), (13, .int .i64 (wi (1 + r27))), (14, .int .u64 (wu (1 + (wu (p4))))), (15, .slice A41 r39.length cap42), (16, .slice A51 (upd m0_0 m0_1 (wu ((wu (1 + (wu (p4)))) * x74))).length cap52), (17, .int .i64 m0_1)] := by simpa only [upd_length] using hT
            clear hT
            refine wpList_nil (hK _ _ ?_)
            replace hS : Sl 119 _ [(11, .int .i64 r13.1), (12, .slice A15 r13.2.length cap16), (13, .int .i64 (wi (1 + r27))), (14, .int .u64 (wu (1 + (wu (p4))))), (15, .slice A41 r39.length cap42), (16, .slice A51 (upd m0_0 m0_1 (wu ((wu (1 + (wu (p4)))) * x74))).length cap52), (17, .int .i64 m0_1)] := hS82.re ⟨rfl, rfl, rfl, rfl, rfl, rfl, rfl, trivial⟩
            clear hK K
            try clear hS69 hS70 hS71 hS72 hS73 hS76 hS77 hS78 hS81 hS82
            obtain ⟨a, ha⟩ : ∃ a', a' = a82 := ⟨_, rfl⟩
            rw [← ha] at hS ⊢; clear ha
            change Code.wp _ _ _ _ _
            refine c_pure1 [(11, .int .i64 r13.1), (12, .slice A15 r13.2.length cap16), (13, .int .i64 (wi (1 + r27))), (14, .int .u64 (wu (1 + (wu (p4))))), (15, .slice A41 r39.length cap42), (16, .slice A51 (upd m0_0 m0_1 (wu ((wu (1 + (wu (p4)))) * x74))).length cap52), (17, .int .i64 (wi (m0_1 + 1)))] (fun R hR => st_val hS rfl rfl rfl (r_move hS rfl rfl) fun a84 hS84 => st_val hS84 rfl rfl rfl (r_bin hS84 rfl rfl rfl b_add) fun a85 hS85 => st_val hS85 rfl rfl rfl (r_assign hS85 rfl rfl) fun a86 hS86 => wpList_nil (hR _ (hS86.re ⟨rfl, rfl, rfl, rfl, rfl, rfl, rfl, trivial⟩))) ?_
            clear hS
            clear a
            intro a hS
            refine ⟨k64, Nat.lt_succ_self _, ?_⟩
            exact ⟨(upd m0_0 m0_1 (wu ((wu (1 + (wu (p4)))) * x74))), wi (m0_1 + 1), g83, H, hS.re ⟨rfl, rfl, rfl, rfl, rfl, rfl, rfl, trivial⟩, h17, h43, h53, hF⟩
          · replace H := ite_f hb68 H
            refine wp_exit ?_
            have e := Option.some.inj H
            subst e
            exact ⟨g63, hS.re ⟨rfl, rfl, rfl, rfl, rfl, rfl, trivial⟩, h17, h43, h53, hF⟩
    · clear H
      clear h17 h43 h53 hF
      clear hS
      rintro a w58 ⟨g58, hS, h17, h43, h53, hF⟩
      have H := Hl61
      clear Hl61
      obtain ⟨r91, hr92, H⟩ := bind_el H
      refine c_region (fun K hK => ?_)
      refine st_val hS rfl rfl rfl (r_move hS rfl rfl) fun a87 hS87 => st_val hS87 rfl rfl rfl (r_move hS87 rfl rfl) fun a88 hS88 => st_val hS88 rfl rfl rfl (r_move hS88 rfl rfl) fun a89 hS89 => st_val hS89 rfl rfl rfl (r_move hS89 rfl rfl) fun a90 hS90 => ?_
      refine st_enter hS90 rfl rfl rfl (r_call hS90 rfl rfl (by kernel_rfl)) (resume_Schedule.calls (C1 := (fun q => q = N + 0)) (C2 := (fun q => q = N + 2)) (p0 := r13.1) (p1 := r13.2) (p2 := r39) (p3 := (wi (1 + r27))) (g := g58) (N + 12) (N + 6) (OwD.rdf (fun _ _ _ _ _ _ h => h) h17) (fun q (hq : q = N + 0) => by omega) (OwD.rdf (fun _ _ _ _ _ _ h => h) h43) (fun q (hq : q = N + 2) => by omega) (by omega) hr92) ?_
      rintro _ a97 w98 ⟨g98, A93, cap94, rfl, h95, F98⟩ hS97
      replace h17 := OwS.fr h17 F98 (fun c' hc (hm : (N + 6 ≤ c' ∧ c' < N + 6 + 2) ∨ N + 12 ≤ c') => by omega)
      replace h43 := OwS.fr h43 F98 (fun c' hc (hm : (N + 6 ≤ c' ∧ c' < N + 6 + 2) ∨ N + 12 ≤ c') => by omega)
      replace h53 := OwS.fr h53 F98 (fun c' hc (hm : (N + 6 ≤ c' ∧ c' < N + 6 + 2) ∨ N + 12 ≤ c') => by omega)
      replace hF := hF.trans F98 (fun c' (hm : (N + 6 ≤ c' ∧ c' < N + 6 + 2) ∨ N + 12 ≤ c') => by show N ≤ c'; omega)
      refine st_val hS97 rfl rfl rfl (r_move hS97 rfl rfl) fun a99 hS99 => st_val hS99 rfl rfl rfl (r_extract hS99 rfl rfl rfl) fun a100 hS100 => st_val hS100 rfl rfl rfl (r_extract hS100 rfl rfl rfl) fun a101 hS101 => st_val hS101 rfl rfl rfl (r_assign hS101 rfl rfl) fun a102 hS102 => st_val hS102 rfl rfl rfl (r_assign hS102 rfl rfl) fun a103 hS103 => wpList_nil (hK _ _ ?_)
      replace hS : Sl 119 _ [(11, .int .i64 r13.1), (12, .slice A15 r13.2.length cap16), (13, .int .i64 (wi (1 + r27))), (14, .int .u64 (wu (1 + (wu (p4))))), (16, .slice A51 v59.length cap52), (18, .slice A93 r91.1.length cap94), (19, .int .i64 r91.2)] := hS103.re ⟨rfl, rfl, rfl, rfl, rfl, rfl, rfl, trivial⟩
      clear hK K
      try clear hS87 hS88 hS89 hS90 hS97 hS99 hS100 hS101 hS102 hS103
      obtain ⟨a, ha⟩ : ∃ a', a' = a103 := ⟨_, rfl⟩
      rw [← ha] at hS ⊢; clear ha
      obtain ⟨r108, hr109, H⟩ := bind_el H
      refine c_region (fun K hK => ?_)
      refine st_val hS rfl rfl rfl (r_move hS rfl rfl) fun a104 hS104 => st_val hS104 rfl rfl rfl (r_move hS104 rfl rfl) fun a105 hS105 => st_val hS105 rfl rfl rfl (r_move hS105 rfl rfl) fun a106 hS106 => st_val hS106 rfl rfl rfl (r_move hS106 rfl rfl) fun a107 hS107 => ?_
      refine st_enter hS107 rfl rfl rfl (r_call hS107 rfl rfl (by kernel_rfl)) (resume_Schedule.calls (C1 := (fun q => q = N + 0)) (C2 := (fun q => q = N + 4)) (p0 := r13.1) (p1 := r13.2) (p2 := v59) (p3 := (wi (1 + r27))) (g := g98) (N + 12) (N + 8) (OwD.rdf (fun _ _ _ _ _ _ h => h) h17) (fun q (hq : q = N + 0) => by omega) (OwD.rdf (fun _ _ _ _ _ _ h => h) h53) (fun q (hq : q = N + 4) => by omega) (by omega) hr109) ?_
      rintro _ a114 w115 ⟨g115, A110, cap111, rfl, h112, F115⟩ hS114
      replace h17 := OwS.fr h17 F115 (fun c' hc (hm : (N + 8 ≤ c' ∧ c' < N + 8 + 2) ∨ N + 12 ≤ c') => by omega)
      replace h53 := OwS.fr h53 F115 (fun c' hc (hm : (N + 8 ≤ c' ∧ c' < N + 8 + 2) ∨ N + 12 ≤ c') => by omega)
      replace h95 := OwS.fr h95 F115 (fun c' hc (hm : (N + 8 ≤ c' ∧ c' < N + 8 + 2) ∨ N + 12 ≤ c') => by omega)
      replace hF := hF.trans F115 (fun c' (hm : (N + 8 ≤ c' ∧ c' < N + 8 + 2) ∨ N + 12 ≤ c') => by show N ≤ c'; omega)
      refine st_val hS114 rfl rfl rfl (r_move hS114 rfl rfl) fun a116 hS116 => st_val hS116 rfl rfl rfl (r_extract hS116 rfl rfl rfl) fun a117 hS117 => st_val hS117 rfl rfl rfl (r_extract hS117 rfl rfl rfl) fun a118 hS118 => st_val hS118 rfl rfl rfl (r_assign hS118 rfl rfl) fun a119 hS119 => st_val hS119 rfl rfl rfl (r_assign hS119 rfl rfl) fun a120 hS120 => wpList_nil (hK _ _ ?_)
      replace hS : Sl 119 _ [(11, .int .i64 r13.1), (14, .int .u64 (wu (1 + (wu (p4))))), (18, .slice A93 r91.1.length cap94), (19, .int .i64 r91.2), (20, .slice A110 r108.1.length cap111), (21, .int .i64 r108.2)] := hS120.re ⟨rfl, rfl, rfl, rfl, rfl, rfl, trivial⟩
      clear hK K
      try clear hS104 hS105 hS106 hS107 hS114 hS116 hS117 hS118 hS119 hS120
      obtain ⟨a, ha⟩ : ∃ a', a' = a120 := ⟨_, rfl⟩
      rw [← ha] at hS ⊢; clear ha
      refine wp_seq ?_
      refine c_region (fun K hK => ?_)
      refine st_val hS rfl rfl rfl (r_move hS rfl rfl) fun a121 hS121 => st_val hS121 rfl rfl rfl (r_bin hS121 rfl rfl rfl b_neq) fun a122 hS122 => st_val hS122 rfl rfl rfl (r_move hS122 rfl rfl) fun a123 hS123 => ?_
      refine g_join (N := 119) 3 [(11, .int .i64 r13.1), (14, .int .u64 (wu (1 + (wu (p4))))), (18, .slice A93 r91.1.length cap94), (20, .slice A110 r108.1.length cap111), (80, .bool ((r91.2 != 0) || (r108.2 != 0)))] ?_ (fun hk => ?_)
      rotate_left
      · rcases Bool.eq_false_or_eq_true ((r91.2 != 0)) with hb124 | hb124
        · refine st_off hS123 (want_off hS123 rfl rfl rfl hb124) rfl rfl fun a127 hS127 => st_off hS127 (want_off hS127 rfl rfl rfl hb124) rfl rfl fun a128 hS128 => st_val hS128 rfl rfl rfl (r_pickT hS128 rfl rfl rfl hb124) fun a129 hS129 => hk _ (hS129.re ⟨rfl, rfl, rfl, rfl, (by rw [hb124]; rfl), trivial⟩)
        · refine st_valW hS123 (want_on hS123 rfl rfl rfl hb124) rfl rfl (r_move hS123 rfl rfl) fun a130 hS130 => st_valW hS130 (want_on hS130 rfl rfl rfl hb124) rfl rfl (r_bin hS130 rfl rfl rfl b_neq) fun a131 hS131 => st_val hS131 rfl rfl rfl (r_pickF hS131 rfl rfl rfl hb124) fun a132 hS132 => hk _ (hS132.re ⟨rfl, rfl, rfl, rfl, (by rw [hb124]; rfl), trivial⟩)
      intro a133 hS133
      refine st_val hS133 rfl rfl rfl (r_move hS133 rfl rfl) fun a134 hS134 => ?_
      refine g_join (N := 119) 5 [(11, .int .i64 r13.1), (14, .int .u64 (wu (1 + (wu (p4))))), (18, .slice A93 r91.1.length cap94), (20, .slice A110 r108.1.length cap111), (86, .bool (((r91.2 != 0) || (r108.2 != 0)) || ((r91.1.length : Int) != r13.1)))] ?_ (fun hk => ?_)
      rotate_left
      · rcases Bool.eq_false_or_eq_true (((r91.2 != 0) || (r108.2 != 0))) with hb135 | hb135
        · refine st_off hS134 (want_off hS134 rfl rfl rfl hb135) rfl rfl fun a140 hS140 => st_off hS140 (want_off hS140 rfl rfl rfl hb135) rfl rfl fun a141 hS141 => st_off hS141 (want_off hS141 rfl rfl rfl hb135) rfl rfl fun a142 hS142 => st_off hS142 (want_off hS142 rfl rfl rfl hb135) rfl rfl fun a143 hS143 => st_val hS143 rfl rfl rfl (r_pickT hS143 rfl rfl rfl hb135) fun a144 hS144 => hk _ (hS144.re ⟨rfl, rfl, rfl, rfl, (by rw [hb135]; rfl), trivial⟩)
        · refine st_valW hS134 (want_on hS134 rfl rfl rfl hb135) rfl rfl (r_move hS134 rfl rfl) fun a145 hS145 => st_valW hS145 (want_on hS145 rfl rfl rfl hb135) rfl rfl (r_len (e := 38) (sz := 4) (by_ := 32) hS145 rfl rfl (by kernel_rfl)) fun a146 hS146 => st_valW hS146 (want_on hS146 rfl rfl rfl hb135) rfl rfl (r_move hS146 rfl rfl) fun a147 hS147 => st_valW hS147 (want_on hS147 rfl rfl rfl hb135) rfl rfl (r_bin hS147 rfl rfl rfl b_neq) fun a148 hS148 => st_val hS148 rfl rfl rfl (r_pickF hS148 rfl rfl rfl hb135) fun a149 hS149 => hk _ (hS149.re ⟨rfl, rfl, rfl, rfl, (by rw [hb135]; rfl), trivial⟩)
      intro a150 hS150
      refine st_val hS150 rfl rfl rfl (r_move hS150 rfl rfl) fun a151 hS151 => ?_
      refine g_join (N := 119) 5 [(11, .int .i64 r13.1), (14, .int .u64 (wu (1 + (wu (p4))))), (18, .slice A93 r91.1.length cap94), (20, .slice A110 r108.1.length cap111), (92, .bool ((((r91.2 != 0) || (r108.2 != 0)) || ((r91.1.length : Int) != r13.1)) || ((r108.1.length : Int) != r13.1)))] ?_ (fun hk => ?_)
      rotate_left
      · rcases Bool.eq_false_or_eq_true ((((r91.2 != 0) || (r108.2 != 0)) || ((r91.1.length : Int) != r13.1))) with hb152 | hb152
        · refine st_off hS151 (want_off hS151 rfl rfl rfl hb152) rfl rfl fun a157 hS157 => st_off hS157 (want_off hS157 rfl rfl rfl hb152) rfl rfl fun a158 hS158 => st_off hS158 (want_off hS158 rfl rfl rfl hb152) rfl rfl fun a159 hS159 => st_off hS159 (want_off hS159 rfl rfl rfl hb152) rfl rfl fun a160 hS160 => st_val hS160 rfl rfl rfl (r_pickT hS160 rfl rfl rfl hb152) fun a161 hS161 => hk _ (hS161.re ⟨rfl, rfl, rfl, rfl, (by rw [hb152]; rfl), trivial⟩)
        · refine st_valW hS151 (want_on hS151 rfl rfl rfl hb152) rfl rfl (r_move hS151 rfl rfl) fun a162 hS162 => st_valW hS162 (want_on hS162 rfl rfl rfl hb152) rfl rfl (r_len (e := 38) (sz := 4) (by_ := 32) hS162 rfl rfl (by kernel_rfl)) fun a163 hS163 => st_valW hS163 (want_on hS163 rfl rfl rfl hb152) rfl rfl (r_move hS163 rfl rfl) fun a164 hS164 => st_valW hS164 (want_on hS164 rfl rfl rfl hb152) rfl rfl (r_bin hS164 rfl rfl rfl b_neq) fun a165 hS165 => st_val hS165 rfl rfl rfl (r_pickF hS165 rfl rfl rfl hb152) fun a166 hS166 => hk _ (hS166.re ⟨rfl, rfl, rfl, rfl, (by rw [hb152]; rfl), trivial⟩)
      intro a167 hS167
      refine wpList_nil (hK _ _ ?_)
      replace hS : Sl 119 _ [(11, .int .i64 r13.1), (14, .int .u64 (wu (1 + (wu (p4))))), (18, .slice A93 r91.1.length cap94), (20, .slice A110 r108.1.length cap111), (92, .bool ((((r91.2 != 0) || (r108.2 != 0)) || ((r91.1.length : Int) != r13.1)) || ((r108.1.length : Int) != r13.1)))] := hS167.re ⟨rfl, rfl, rfl, rfl, rfl, trivial⟩
      clear hK K
      try clear hS121 hS122 hS123 hS133 hS134 hS150 hS151 hS167
      obtain ⟨a, ha⟩ : ∃ a', a' = a167 := ⟨_, rfl⟩
      rw [← ha] at hS ⊢; clear ha
      refine c_cond hS rfl (fun hb168 => ?_) (fun hb168 => ?_)
      · replace H := ite_t hb168 H
        refine c_pure [(10, .bool false)] (fun R hR => st_val hS rfl rfl rfl (r_assign hS rfl rfl) fun a169 hS169 => wpList_nil (hR _ (hS169.re ⟨rfl, trivial⟩))) ?_
        clear hS
        clear a
        intro a hS
        refine wp_ret ?_
        have e := Option.some.inj H
        subst e
        repeat (with_reducible first | refine then_ret ?_ | refine inBlock_ret ?_)
        exact c_ret1 hS Try.results10 rfl ⟨_, rfl, g115, rfl, hF⟩
      · replace H := ite_f hb168 H
        refine wp_skip ?_
        change Code.wp _ _ _ _ _
        obtain ⟨o172, H, Hl173⟩ := bind_el H
        refine c_cut (fun a w170 => ∃ (g170 : Nat → Nat), o172 = .nxt () ∧ Sl 119 a [] ∧ Fr (fun q => N ≤ q) w g w170 g170) ?_ ?_
        · refine c_pure [(11, .int .i64 r13.1), (14, .int .u64 (wu (1 + (wu (p4))))), (18, .slice A93 r91.1.length cap94), (20, .slice A110 r108.1.length cap111), (22, .int .i64 0)] (fun R hR => st_val hS rfl rfl rfl (r_assign hS rfl rfl) fun a174 hS174 => wpList_nil (hR _ (hS174.re ⟨rfl, rfl, rfl, rfl, rfl, trivial⟩))) ?_
          clear hS
          clear a
          intro a hS
          refine wp_block ?_
          refine wp_loop_ghost (fun kq => fun a w175 => ∃ (m1_0 : Int), ∃ (g175 : Nat → Nat), law31_ResumeScales.l1 p4 r13 r91 r108 kq m1_0 = some o172 ∧ Sl 119 a [(11, .int .i64 r13.1), (14, .int .u64 (wu (1 + (wu (p4))))), (18, .slice A93 r91.1.length cap94), (20, .slice A110 r108.1.length cap111), (22, .int .i64 m1_0)] ∧ OwS kd_api_Slot 38 w175 g175 (N + 8) A110 cap111 r108.1 ∧ OwS kd_api_Slot 38 w175 g175 (N + 6) A93 cap94 r91.1 ∧ Fr (fun q => N ≤ q) w g w175 g175) FUEL ?_ ?_
          · exact ⟨0, g115, H, hS.re ⟨rfl, rfl, rfl, rfl, rfl, trivial⟩, h112, h95, hF⟩
          · clear H
            clear h95 h112 hF
            clear hS
            rintro k176 a w175 ⟨m1_0, g175, hpre0, hS, h112, h95, hF⟩
            have H := hpre0
            clear hpre0
            cases k176 with
            | zero => exact absurd H (by simp [law31_ResumeScales.l1])
            | succ k176 =>
              rw [law31_ResumeScales.l1] at H
              refine wp_seq ?_
              refine c_pure [(11, .int .i64 r13.1), (14, .int .u64 (wu (1 + (wu (p4))))), (18, .slice A93 r91.1.length cap94), (20, .slice A110 r108.1.length cap111), (22, .int .i64 m1_0), (95, .bool (decide (m1_0 < r13.1)))] (fun R hR => st_val hS rfl rfl rfl (r_move hS rfl rfl) fun a177 hS177 => st_val hS177 rfl rfl rfl (r_move hS177 rfl rfl) fun a178 hS178 => st_val hS178 rfl rfl rfl (r_bin hS178 rfl rfl rfl b_lss) fun a179 hS179 => wpList_nil (hR _ (hS179.re ⟨rfl, rfl, rfl, rfl, rfl, rfl, trivial⟩))) ?_
              clear hS
              clear a
              intro a hS
              refine c_cond hS rfl (fun hb180 => ?_) (fun hb180 => ?_)
              · replace H := ite_t hb180 H
                refine wp_skip ?_
                change Code.wp _ _ _ _ _
                refine wp_seq ?_
                refine wp_block ?_
                obtain ⟨x183, hx184, H⟩ := bind_el H
                refine c_region (fun K hK => ?_)
                refine st_val hS rfl rfl rfl (r_move hS rfl rfl) fun a181 hS181 => st_val hS181 rfl rfl rfl (r_move hS181 rfl rfl) fun a182 hS182 => st_val hS182 rfl rfl rfl (r_index (e := 38) (sz := 4) (by_ := 32) hS182 rfl rfl rfl (by kernel_rfl) (RdS.some_ (OwS.rd h95) hx184) (idx_lo hx184) (idx_hi hx184)) fun a185 hS185 => st_val hS185 rfl rfl rfl (r_loadN (n := 4) (cs := [.int .i64 x183.Device, .int .i64 x183.Worker, .int .u64 x183.Start, .int .u64 x183.End]) hS185 rfl rfl (by kernel_rfl) rfl (RdS.cells_off (OwS.rd h95) hx184 0 4)) fun a186 hS186 => ?_
                refine st_eff hS186 rfl rfl rfl (e_alloc (cs := [.int .i64 0, .int .i64 0, .int .u64 0, .int .u64 0]) (N + 10) g175 hS186 rfl (by kernel_rfl)) ?_
                rintro _ a190 w191 g191 ⟨⟨b187, rfl, h188⟩, F191⟩ hS190
                replace h112 := OwS.fr h112 F191 (fun _ _ h => h)
                replace h95 := OwS.fr h95 F191 (fun _ _ h => h)
                replace hF := hF.trans F191 (fun _ h => h.elim)
                refine st_effS hS190 rfl rfl (e_storeB (n := 4) (bb := true) (cs' := [.int .i64 x183.Device, .int .i64 x183.Worker, .int .u64 x183.Start, .int .u64 x183.End]) g191 hS190 rfl rfl rfl (by kernel_rfl) rfl rfl rfl h188 rfl rfl) ?_
                rintro a192 w193 g193 ⟨h188, F193⟩ hS192
                replace h112 := OwS.fr h112 F193 (fun c' hc (hm : c' = N + 10) => by omega)
                replace h95 := OwS.fr h95 F193 (fun c' hc (hm : c' = N + 10) => by omega)
                replace hF := hF.trans F193 (fun c' (hm : c' = N + 10) => by show N ≤ c'; omega)
                refine wpList_nil (hK _ _ ?_)
                replace hS : Sl 119 _ [(11, .int .i64 r13.1), (14, .int .u64 (wu (1 + (wu (p4))))), (18, .slice A93 r91.1.length cap94), (20, .slice A110 r108.1.length cap111), (22, .int .i64 m1_0), (23, .pointer (some ⟨b187, 0, none⟩))] := hS192.re ⟨rfl, rfl, rfl, rfl, rfl, rfl, trivial⟩
                clear hK K
                try clear hS181 hS182 hS185 hS186 hS190 hS192
                obtain ⟨a, ha⟩ : ∃ a', a' = a192 := ⟨_, rfl⟩
                rw [← ha] at hS ⊢; clear ha
                refine c_region (fun K hK => ?_)
                refine st_val hS rfl rfl rfl (r_move hS rfl rfl) fun a194 hS194 => st_val hS194 rfl rfl rfl (r_fieldB (off := 2) hS194 rfl rfl (by kernel_rfl)) fun a195 hS195 => st_val hS195 rfl rfl rfl (r_load1 (n := 1) hS195 rfl rfl (by kernel_rfl) (Bx.cell h188 rfl)) fun a196 hS196 => st_val hS196 rfl rfl rfl (r_bin hS196 rfl rfl rfl b_mul) fun a197 hS197 => st_val hS197 rfl rfl rfl (r_move hS197 rfl rfl) fun a198 hS198 => st_val hS198 rfl rfl rfl (r_fieldB (off := 3) hS198 rfl rfl (by kernel_rfl)) fun a199 hS199 => st_val hS199 rfl rfl rfl (r_load1 (n := 1) hS199 rfl rfl (by kernel_rfl) (Bx.cell h188 rfl)) fun a200 hS200 => st_val hS200 rfl rfl rfl (r_bin hS200 rfl rfl rfl b_mul) fun a201 hS201 => st_val hS201 rfl rfl rfl (r_fieldB (off := 2) hS201 rfl rfl (by kernel_rfl)) fun a202 hS202 => ?_
                refine st_effS hS202 rfl rfl (e_storeB (n := 1) (bb := false) (cs' := [.int .i64 x183.Device, .int .i64 x183.Worker, .int .u64 (wu ((wu (1 + (wu (p4)))) * x183.Start)), .int .u64 x183.End]) g193 hS202 rfl rfl rfl (by kernel_rfl) rfl rfl rfl h188 rfl rfl) ?_
                rintro a203 w204 g204 ⟨h188, F204⟩ hS203
                replace h112 := OwS.fr h112 F204 (fun c' hc (hm : c' = N + 10) => by omega)
                replace h95 := OwS.fr h95 F204 (fun c' hc (hm : c' = N + 10) => by omega)
                replace hF := hF.trans F204 (fun c' (hm : c' = N + 10) => by show N ≤ c'; omega)
                refine st_val hS203 rfl rfl rfl (r_fieldB (off := 3) hS203 rfl rfl (by kernel_rfl)) fun a205 hS205 => ?_
                refine st_effS hS205 rfl rfl (e_storeB (n := 1) (bb := false) (cs' := [.int .i64 x183.Device, .int .i64 x183.Worker, .int .u64 (wu ((wu (1 + (wu (p4)))) * x183.Start)), .int .u64 (wu ((wu (1 + (wu (p4)))) * x183.End))]) g204 hS205 rfl rfl rfl (by kernel_rfl) rfl rfl rfl h188 rfl rfl) ?_
                rintro a206 w207 g207 ⟨h188, F207⟩ hS206
                replace h112 := OwS.fr h112 F207 (fun c' hc (hm : c' = N + 10) => by omega)
                replace h95 := OwS.fr h95 F207 (fun c' hc (hm : c' = N + 10) => by omega)
                replace hF := hF.trans F207 (fun c' (hm : c' = N + 10) => by show N ≤ c'; omega)
                refine wpList_nil (hK _ _ ?_)
                replace hS : Sl 119 _ [(11, .int .i64 r13.1), (14, .int .u64 (wu (1 + (wu (p4))))), (18, .slice A93 r91.1.length cap94), (20, .slice A110 r108.1.length cap111), (22, .int .i64 m1_0), (23, .pointer (some ⟨b187, 0, none⟩))] := hS206.re ⟨rfl, rfl, rfl, rfl, rfl, rfl, trivial⟩
                clear hK K
                try clear hS194 hS195 hS196 hS197 hS198 hS199 hS200 hS201 hS202 hS203 hS205 hS206
                obtain ⟨a, ha⟩ : ∃ a', a' = a206 := ⟨_, rfl⟩
                rw [← ha] at hS ⊢; clear ha
                obtain ⟨x211, hx212, H⟩ := bind_el H
                refine c_draw (fun K hK => d_start (fun q => False) g207 [] 6 #[false, false, false, false, false, false] (by kernel_rfl) rfl rfl (fun w208 hw208 => ?_))
                have F208 : Fr (fun _ => False) w207 g207 w208 g207 := by rw [hw208]; exact Fr.drew _ _ _
                replace h112 := OwS.fr h112 F208 (fun _ _ h => h)
                replace h188 := h188.fr F208 (fun h => h)
                replace h95 := OwS.fr h95 F208 (fun _ _ h => h)
                replace hF := hF.trans F208 (fun _ h => h.elim)
                have hC : Fr (fun q => False) w208 g207 w208 g207 := Fr.refl _ _ _
                refine d_pure hS 0 #[true, false, false, false, false, false] rfl rfl rfl rfl (by kernel_rfl) (fun _ _ _ h => h) (fun _ => (r_move hS rfl rfl)) fun a209 hS209 => d_pure hS209 1 #[true, true, false, false, false, false] rfl rfl rfl rfl (by kernel_rfl) (fun _ _ _ h => h) (fun _ => (r_move hS209 rfl rfl)) fun a210 hS210 => d_pure hS210 2 #[true, true, true, false, false, false] rfl rfl rfl rfl (by kernel_rfl) (fun _ _ _ h => h) (fun _ => (r_index (e := 38) (sz := 4) (by_ := 32) hS210 rfl rfl rfl (by kernel_rfl) (RdS.some_ (OwS.rd h112) hx212) (idx_lo hx212) (idx_hi hx212))) fun a213 hS213 => d_take hS213 3 #[true, true, true, true, false, false] rfl rfl rfl rfl (by kernel_rfl) (fun _ _ _ h => h) ⟨_, hC⟩ (fun w' g' Fz => (r_loadN (n := 4) (cs := [.int .i64 x211.Device, .int .i64 x211.Worker, .int .u64 x211.Start, .int .u64 x211.End]) hS213 rfl rfl (by kernel_rfl) rfl (RdS.cells_off (OwS.rd (OwS.fr h112 Fz (fun _ _ h => h))) hx212 0 4))) fun a214 hS214 => d_take hS214 4 #[true, true, true, true, true, false] rfl rfl rfl rfl (by kernel_rfl) (fun _ _ _ h => h) ⟨_, hC⟩ (fun w' g' Fz => (r_loadN (n := 4) (cs := [.int .i64 x183.Device, .int .i64 x183.Worker, .int .u64 (wu ((wu (1 + (wu (p4)))) * x183.Start)), .int .u64 (wu ((wu (1 + (wu (p4)))) * x183.End))]) hS214 rfl rfl (by kernel_rfl) rfl (Bx.cells_off (h188.fr Fz (fun h => h)) 0 4))) fun a215 hS215 => d_pure hS215 5 #[true, true, true, true, true, true] rfl rfl rfl rfl (by kernel_rfl) (fun _ _ _ h => h) (fun _ => (r_stNe hS215 rfl rfl rfl (by kernel_rfl) (eqF_api_Slot x211 (api_Slot.mk x183.Device x183.Worker (wu ((wu (1 + (wu (p4)))) * x183.Start)) (wu ((wu (1 + (wu (p4)))) * x183.End))) _))) fun a216 hS216 => d_done (by kernel_rfl) (hK _ _ ?_)
                replace hS : Sl 119 _ [(11, .int .i64 r13.1), (14, .int .u64 (wu (1 + (wu (p4))))), (18, .slice A93 r91.1.length cap94), (20, .slice A110 r108.1.length cap111), (22, .int .i64 m1_0), (117, .bool (!decide (x211 = (api_Slot.mk x183.Device x183.Worker (wu ((wu (1 + (wu (p4)))) * x183.Start)) (wu ((wu (1 + (wu (p4)))) * x183.End))))))] := hS216.re ⟨rfl, rfl, rfl, rfl, rfl, rfl, trivial⟩
                clear hK K hC
                try clear hS209 hS210 hS213 hS214 hS215 hS216
                obtain ⟨a, ha⟩ : ∃ a', a' = a216 := ⟨_, rfl⟩
                rw [← ha] at hS ⊢; clear ha
                refine c_cond hS rfl (fun hb217 => ?_) (fun hb217 => ?_)
                · replace H := ite_t hb217 H
                  refine c_pure [(10, .bool false)] (fun R hR => st_val hS rfl rfl rfl (r_assign hS rfl rfl) fun a218 hS218 => wpList_nil (hR _ (hS218.re ⟨rfl, trivial⟩))) ?_
                  clear hS
                  clear a
                  intro a hS
                  refine wp_ret ?_
                  have e := Option.some.inj H
                  subst e
                  replace H := Fl.go_out Hl173
                  have e := Option.some.inj H
                  subst e
                  repeat (with_reducible first | refine then_ret ?_ | refine inBlock_ret ?_)
                  exact c_ret1 hS Try.results10 rfl ⟨_, rfl, g207, rfl, hF⟩
                · replace H := ite_f hb217 H
                  refine wp_skip ?_
                  change Code.wp _ _ _ _ _
                  refine c_pure1 [(11, .int .i64 r13.1), (14, .int .u64 (wu (1 + (wu (p4))))), (18, .slice A93 r91.1.length cap94), (20, .slice A110 r108.1.length cap111), (22, .int .i64 (wi (m1_0 + 1)))] (fun R hR => st_val hS rfl rfl rfl (r_move hS rfl rfl) fun a219 hS219 => st_val hS219 rfl rfl rfl (r_bin hS219 rfl rfl rfl b_add) fun a220 hS220 => st_val hS220 rfl rfl rfl (r_assign hS220 rfl rfl) fun a221 hS221 => wpList_nil (hR _ (hS221.re ⟨rfl, rfl, rfl, rfl, rfl, trivial⟩))) ?_
                  clear hS
                  clear a
                  intro a hS
                  refine ⟨k176, Nat.lt_succ_self _, ?_⟩
                  exact ⟨wi (m1_0 + 1), g207, H, hS.re ⟨rfl, rfl, rfl, rfl, rfl, trivial⟩, h112, h95, hF⟩
              · replace H := ite_f hb180 H
                refine wp_exit ?_
                have e := Option.some.inj H
                exact ⟨g175, e.symm, hS.re trivial, hF⟩
        · clear H
          clear h95 h112 hF
          clear hS
          rintro a w170 ⟨g170, hpre0, hS, hF⟩
          subst hpre0
          have H := Fl.go_nxt Hl173
          clear Hl173
          obtain ⟨r222, hr223, H⟩ := bind_el H
          refine c_region (fun K hK => ?_)
          refine st_enter hS rfl rfl rfl (r_call hS rfl rfl (by kernel_rfl)) (law31_awake.calls (g := g170) (N + 12)   hr223) ?_
          rintro _ a224 w225 ⟨g225, rfl, F225⟩ hS224
          replace hF := hF.trans F225 (fun c' (hm : N + 12 ≤ c') => by show N ≤ c'; omega)
          refine st_val hS224 rfl rfl rfl (r_assign hS224 rfl rfl) fun a226 hS226 => wpList_nil (hK _ _ ?_)
          replace hS : Sl 119 _ [(10, .bool r222)] := hS226.re ⟨rfl, trivial⟩
          clear hK K
          try clear hS224 hS226
          obtain ⟨a, ha⟩ : ∃ a', a' = a226 := ⟨_, rfl⟩
          rw [← ha] at hS ⊢; clear ha
          refine wp_ret ?_
          have e := Option.some.inj H
          subst e
          repeat (with_reducible first | refine then_ret ?_ | refine inBlock_ret ?_)
          exact c_ret1 hS Try.results10 rfl ⟨_, rfl, g225, rfl, hF⟩

/-- What is left of law31_ResumeScales: about plain values alone. -/
def law31_ResumeScales.Pure : Prop := ∀ (p0 : Int) (p1 : List api_Link) (p2 : List Int) (p3 : Int) (p4 : Int), (Lit.int .i64 p0).wf = true → (p1.length ≤ maxLen ∧ ∀ p1' ∈ p1, Wf_api_Link p1') → (p2.length ≤ maxLen ∧ ∀ p2' ∈ p2, (Lit.int .u64 p2').wf = true) → (Lit.int .i64 p3).wf = true → (Lit.int .u16 p4).wf = true → law31_ResumeScales.f p0 p1 p2 p3 p4 = some true

end Go.Proofs.Ythmjgadmadlpkaa.Sim

namespace Go.Proofs.Ythmjgadmadlpkaa.Sim
open Go
set_option linter.unusedVariables false
set_option linter.unusedSimpArgs false

open Go.ChangeShapes Go.WideShapes Go.ChangeAt Go.RowKit
namespace RowResumeScales
theorem own : ownKnob Try.prog.godebug = none := by kernel_rfl
theorem laidOut : laidOutB Try.prog = true := by kernel_rfl
set_option maxRecDepth 100000 in
theorem lifted (PU : law31_ResumeScales.Pure) (os : Os) (started : os.Started) (H : Type) (enc : TypeId × Value → H) :
    ReturnsInHanded {} Try.checked os 10 .any (Rows.resumeScalesSpec.pre6 enc Try.prog Try.f10 Rows.resumeScalesRow.domain false) (Rows.resumeScalesSpec.post enc Try.prog Try.f10 false true false false) := by
  refine returnsInHanded_of_change (C := Try.checked) own started (by kernel_rfl) Try.func10
    (ChangeSpec.witness6 (enc := enc) (C := Try.checked) false ⟨#[], #[.int .i64 0, .slice none 0 0, .slice none 0 0, .int .i64 0, .int .u16 0], []⟩ 8 (by kernel_rfl) (by kernel_rfl) (by kernel_rfl) (by kernel_rfl)) ?_
  intro W base args ds gs before hval0 hW hcnd _
  have hval : ∀ (j : Nat) t v, Try.f10.params[j]? = some t → args[j]? = some v → Value.okWide Try.prog W .any base t v := hval0
  have hW' := hW
  obtain ⟨p, q, hA0, hV, rfl, hfz, hnd⟩ := hW
  have hA : DataW.TrodAll enc Try.prog W 0 (fun _ => true) true Try.f10.params.toList args.toList ds p := hA0
  rw [Try.params10] at hA hval
  obtain ⟨v0, vs0, d0, ds0, q0, q0b, hargs, rfl, rfl, h0, r0⟩ := trodAll_cons hA
  obtain ⟨v1, vs1, d1, ds1, q1, q1b, rfl, rfl, rfl, h1, r1⟩ := trodAll_cons r0
  obtain ⟨v2, vs2, d2, ds2, q2, q2b, rfl, rfl, rfl, h2, r2⟩ := trodAll_cons r1
  obtain ⟨v3, vs3, d3, ds3, q3, q3b, rfl, rfl, rfl, h3, r3⟩ := trodAll_cons r2
  obtain ⟨v4, vs4, d4, ds4, q4, q4b, rfl, rfl, rfl, h4, r4⟩ := trodAll_cons r3
  obtain ⟨rfl, rfl, rfl⟩ := trodAll_nil r4
  obtain rfl : args = #[v0, v1, v2, v3, v4] := by cases args; simp_all
  obtain ⟨rfl, rfl⟩ := trodVars_none hV
  have k0 := h0
  have lt0 : ∀ x ∈ q0, x.block < W.heap.size := by obtain ⟨m, hm⟩ := k0; exact DataW.trod_lt m _ _ _ hm
  obtain ⟨a0, rfl, _, _, w0⟩ := open_int Try.underlying3 (hval 0 3 v0 rfl rfl) h0
  have k1 := h1
  have lt1 : ∀ x ∈ q1, x.block < W.heap.size := by obtain ⟨m, hm⟩ := k1; exact DataW.trod_lt m _ _ _ hm
  obtain ⟨b1, len1, cap1, rfl⟩ := okWide_slice Try.underlying22 (hval 1 22 v1 rfl rfl)
  obtain ⟨fu1, hf1⟩ := h1
  obtain ⟨a1, ⟨B1, c1, e1, R1⟩, w1⟩ := (Opens.slice Try.underlying22 (by decide) (by kernel_rfl) opens_api_Link) enc W true _ _ _ hf1
  injection e1 with e1; injection e1 with e1a e1b e1c; subst e1a; subst e1b; subst e1c
  have k2 := h2
  have lt2 : ∀ x ∈ q2, x.block < W.heap.size := by obtain ⟨m, hm⟩ := k2; exact DataW.trod_lt m _ _ _ hm
  obtain ⟨b2, len2, cap2, rfl⟩ := okWide_slice Try.underlying23 (hval 2 23 v2 rfl rfl)
  obtain ⟨fu2, hf2⟩ := h2
  obtain ⟨a2, ⟨B2, c2, e2, R2⟩, w2⟩ := (Opens.slice Try.underlying23 (by decide) (by kernel_rfl) (Opens.int Try.underlying33)) enc W true _ _ _ hf2
  injection e2 with e2; injection e2 with e2a e2b e2c; subst e2a; subst e2b; subst e2c
  have k3 := h3
  have lt3 : ∀ x ∈ q3, x.block < W.heap.size := by obtain ⟨m, hm⟩ := k3; exact DataW.trod_lt m _ _ _ hm
  obtain ⟨a3, rfl, _, _, w3⟩ := open_int Try.underlying3 (hval 3 3 v3 rfl rfl) h3
  have k4 := h4
  have lt4 : ∀ x ∈ q4, x.block < W.heap.size := by obtain ⟨m, hm⟩ := k4; exact DataW.trod_lt m _ _ _ hm
  obtain ⟨a4, rfl, _, _, w4⟩ := open_int Try.underlying50 (hval 4 50 v4 rfl rfl) h4
  clear hA0 hval0
  have H := PU a0 a1 a2 a3 a4 w0 w1 w2 w3 w4
  refine (law31_ResumeScales.calls (p0 := a0) (p1 := a1) (p2 := a2) (p3 := a3) (p4 := a4) (w := W) (g := fun _ => 0) 1 R1 (fun c (hc : c = 0) => by omega) R2 (fun c (hc : c = 0) => by omega) H).mono fun e W' he => ?_
  obtain ⟨v, rfl, g', rfl, F⟩ := he
  have bel := F.below
  exact ⟨_, rfl, _, _, _, [], _, [], hW', trodAll_mk1 (shut_bool Try.underlying4 _), (trodAll_cons_mk (Below.trod laidOut (by kernel_rfl) (of_decide_eq_true (by kernel_rfl)) k0 bel lt0) (trodAll_cons_mk (Below.trod laidOut (by kernel_rfl) (of_decide_eq_true (by kernel_rfl)) k1 bel lt1) (trodAll_cons_mk (Below.trod laidOut (by kernel_rfl) (of_decide_eq_true (by kernel_rfl)) k2 bel lt2) (trodAll_cons_mk (Below.trod laidOut (by kernel_rfl) (of_decide_eq_true (by kernel_rfl)) k3 bel lt3) (trodAll_cons_mk (Below.trod laidOut (by kernel_rfl) (of_decide_eq_true (by kernel_rfl)) k4 bel lt4) trodAll_mk0))))), rfl, bel.frame _, fun h => by cases h⟩
theorem over (PU : law31_ResumeScales.Pure) : Rows.resumeScalesRow.holds Try.pinned (OpenSpec.ofChange Rows.resumeScalesSpec) :=
  OpenClaim.holds_of_wide 10 Try.f10 rfl rfl rfl rfl rfl rfl rfl ⟨rfl, rfl, rfl, rfl, rfl⟩ rfl rfl rfl rfl rfl (by kernel_rfl) Try.func10 (by kernel_rfl)
    (of_decide_eq_true (by kernel_rfl)) (by unfold Func.isWrapper; first | (rw [if_pos (by decide +kernel)]; kernel_rfl) | (rw [if_neg (by decide +kernel)]; exact ⟨rfl, rfl⟩))
    (fun os started H enc _ => lifted PU os started H enc)
end RowResumeScales

end Go.Proofs.Ythmjgadmadlpkaa.Sim

namespace Go.Proofs.Ythmjgadmadlpkaa.Sim
open Go
set_option linter.unusedVariables false

/-! ### loops -/

theorem loop_m {σ ρ : Type} {L : Nat → σ → Option ρ} (I : σ → Prop) (μ : σ → Nat) (Q : Option ρ → Prop)
    (step : ∀ k s, I s → (∃ s', I s' ∧ μ s' < μ s ∧ L (k + 1) s = L k s') ∨ Q (L (k + 1) s)) : ∀ (fuel : Nat) (s : σ), I s → μ s < fuel → Q (L fuel s)
  | 0, s, _, h => absurd h (by omega)
  | k + 1, s, hi, h => by
    rcases step k s hi with ⟨s', h1, h2, h3⟩ | h1
    · rw [h3]; exact loop_m I μ Q step k s' h1 (by omega)
    · exact h1

/-- A loop that counts up to n. -/
theorem loop_c {σ ρ : Type} {L : Nat → σ → Int → Option ρ} (n : Nat) (I : Nat → σ → Prop) (Q : Option ρ → Prop)
    (step : ∀ k s i, i < n → I i s → (∃ s', I (i + 1) s' ∧ L (k + 1) s (i : Int) = L k s' ((i + 1 : Nat) : Int)) ∨ Q (L (k + 1) s (i : Int)))
    (fin : ∀ k s, I n s → Q (L (k + 1) s (n : Int))) : ∀ (fuel i : Nat) (s : σ), i ≤ n → n - i < fuel → I i s → Q (L fuel s (i : Int))
  | 0, i, s, _, h, _ => absurd h (by omega)
  | k + 1, i, s, h0, h, hi => by
    rcases Nat.lt_or_ge i n with hl | hl
    · rcases step k s i hl hi with ⟨s', h1, h3⟩ | h1
      · rw [h3]; exact loop_c n I Q step fin k (i + 1) s' hl (by omega) h1
      · exact h1
    · have : i = n := by omega
      subst this
      exact fin k s hi

theorem FUEL_pos {n : Nat} (h : n ≤ 9223372036854775807) : n < FUEL := by unfold FUEL; omega

/-! ### numbers -/

theorem wi_id {x : Int} (h0 : -9223372036854775808 ≤ x) (h1 : x < 9223372036854775808) : wi x = x := by
  unfold wi; simp only [IntKind.wrap, IntKind.bits, IntKind.signed, Bool.true_and]; split <;> rename_i h <;> simp at h <;> omega
theorem wu_eq (x : Int) : wu x = x % 18446744073709551616 := by
  unfold wu; simp only [IntKind.wrap, IntKind.bits, IntKind.signed, Bool.false_and]; rfl
theorem wu_id {x : Int} (h0 : 0 ≤ x) (h1 : x < 18446744073709551616) : wu x = x := by rw [wu_eq]; omega
theorem wu_range (x : Int) : 0 ≤ wu x ∧ wu x < 18446744073709551616 := by rw [wu_eq]; omega
theorem maxLen_eq : maxLen = 9223372036854775807 := rfl
theorem wi_succ {i : Nat} (h : i < 9223372036854775807) : wi ((i : Int) + 1) = ((i + 1 : Nat) : Int) := by rw [wi_id (by omega) (by omega)]; rfl

/-! ### lists -/

theorem idx_get {α : Type} {xs : List α} {i : Nat} (h : i < xs.length) : idx xs (i : Int) = some xs[i] := by
  unfold idx; rw [if_pos (by omega)]; simp [h]
theorem idx_nat {α : Type} {xs : List α} {i : Int} (h0 : 0 ≤ i) : idx xs i = xs[i.toNat]? := by
  unfold idx; rw [if_pos h0]
theorem idx_of {α : Type} {xs : List α} {i : Int} (h0 : 0 ≤ i) (h1 : i < (xs.length : Int)) : ∃ x, idx xs i = some x ∧ x ∈ xs := by
  obtain ⟨n, rfl⟩ := Int.eq_ofNat_of_zero_le h0
  have hn : n < xs.length := by omega
  exact ⟨xs[n], idx_get hn, List.getElem_mem hn⟩
theorem idx_some_iff {α : Type} {xs : List α} {i : Int} : (∃ x, idx xs i = some x) ↔ 0 ≤ i ∧ i < (xs.length : Int) :=
  ⟨fun ⟨x, h⟩ => ⟨idx_lo h, idx_hi h⟩, fun ⟨h0, h1⟩ => let ⟨x, h, _⟩ := idx_of h0 h1; ⟨x, h⟩⟩
theorem idx_upd {α : Type} {xs : List α} {i j : Int} {x : α} (hi : 0 ≤ i) (hj : 0 ≤ j) (hl : j < (xs.length : Int)) : idx (upd xs i x) j = if i = j then some x else idx xs j := by
  rw [idx_nat hj, idx_nat hj]
  unfold upd
  rw [List.getElem?_set]
  by_cases e : i = j
  · subst e; rw [if_pos rfl, if_pos rfl, if_pos (by omega)]
  · rw [if_neg e, if_neg (by omega)]
theorem idx_upd_self {α : Type} {xs : List α} {i : Int} {x y : α} (h : idx xs i = some y) : idx (upd xs i x) i = some x := by
  rw [idx_upd (idx_lo h) (idx_lo h) (idx_hi h), if_pos rfl]
theorem idx_upd_ne {α : Type} {xs : List α} {i j : Int} {x : α} (hi : 0 ≤ i) (h : i ≠ j) : idx (upd xs i x) j = idx xs j := by
  rcases Int.lt_or_le j 0 with hj | hj
  · unfold idx; rw [if_neg (by omega), if_neg (by omega)]
  · rw [idx_nat hj, idx_nat hj]
    unfold upd
    rw [List.getElem?_set, if_neg (by omega)]
theorem idx_upd_some {α : Type} {xs : List α} {i j : Int} {x y : α} (hi : 0 ≤ i) (h : idx xs j = some y) : idx (upd xs i x) j = some (if i = j then x else y) := by
  rw [idx_upd hi (idx_lo h) (idx_hi h)]
  split <;> simp [h]

theorem app_ok {α : Type} {xs ys : List α} (h : xs.length + ys.length ≤ 4294967296) : app xs ys = some (xs ++ ys) := by
  unfold app; rw [if_pos h]
theorem mk_ok {α : Type} {n : Nat} {x : α} (h : n ≤ 4294967296) : mk (n : Int) x = some (List.replicate n x) := by
  unfold mk; rw [if_pos (by omega)]; rfl
theorem idx_replicate {α : Type} {n : Nat} {x : α} {i : Int} (h0 : 0 ≤ i) (h1 : i < (n : Int)) : idx (List.replicate n x) i = some x := by
  rw [idx_nat h0, List.getElem?_replicate, if_pos (by omega)]
theorem slc_front {α : Type} {xs : List α} {h : Nat} (hh : h ≤ xs.length) : slc xs 0 (h : Int) = some (xs.take h) := by
  unfold slc; rw [if_pos (by omega)]; simp
theorem slc_back {α : Type} {xs : List α} {l : Nat} (hl : l ≤ xs.length) : slc xs (l : Int) (xs.length : Int) = some (xs.drop l) := by
  unfold slc; rw [if_pos (by omega)]; simp

/-- A list without repetitions inside another one is not longer. -/
theorem nodup_le {α : Type} [DecidableEq α] : ∀ {l s : List α}, l.Nodup → (∀ x ∈ l, x ∈ s) → l.length ≤ s.length
  | [], _, _, _ => by simp
  | a :: t, s, hn, hs => by
    have ha := hs a (List.mem_cons_self ..)
    rw [List.nodup_cons] at hn
    have := nodup_le (l := t) (s := s.erase a) hn.2 (fun x hx => by
      have : x ≠ a := fun e => hn.1 (e ▸ hx)
      exact (List.mem_erase_of_ne this).2 (hs x (List.mem_cons_of_mem _ hx)))
    rw [List.length_erase_of_mem ha] at this
    have : 0 < s.length := List.length_pos_of_mem ha
    simp only [List.length_cons]; omega

/-- The numbers below n. -/
def below (n : Nat) : List Int := (List.range n).map (fun (i : Nat) => (i : Int))
theorem mem_below {n : Nat} {x : Int} : x ∈ below n ↔ 0 ≤ x ∧ x < n := by
  unfold below
  simp only [List.mem_map, List.mem_range]
  constructor
  · rintro ⟨a, h, rfl⟩; omega
  · rintro ⟨h0, h1⟩; exact ⟨x.toNat, by omega, by omega⟩
theorem below_length (n : Nat) : (below n).length = n := by simp [below]
theorem below_succ (n : Nat) : below (n + 1) = below n ++ [(n : Int)] := by simp [below, List.range_succ]
theorem below_nodup (n : Nat) : (below n).Nodup := by
  induction n with
  | zero => simp [below]
  | succ n ih =>
    rw [below_succ, List.nodup_append]
    refine ⟨ih, by simp, fun a ha b hb => ?_⟩
    have := (mem_below.1 ha).2
    simp only [List.mem_singleton] at hb
    omega

end Go.Proofs.Ythmjgadmadlpkaa.Sim

namespace Go.Proofs.Ythmjgadmadlpkaa.Sim
open Go
set_option linter.unusedVariables false

def hf (q : List Int) (i : Nat) : Int := q.getD i 0
theorem hf_get {q : List Int} {i : Nat} (h : i < q.length) : hf q i = q[i] := by simp [hf, h]
theorem idx_hf {q : List Int} {i : Nat} (h : i < q.length) : idx q (i : Int) = some (hf q i) := by rw [idx_get h, hf_get h]

def sw (q : List Int) (i j : Nat) : List Int := (q.set i (hf q j)).set j (hf q i)
theorem sw_length (q : List Int) (i j : Nat) : (sw q i j).length = q.length := by simp [sw]
theorem hf_sw {q : List Int} {i j : Nat} (hi : i < q.length) (hj : j < q.length) (k : Nat) : hf (sw q i j) k = if k = j then hf q i else if k = i then hf q j else hf q k := by
  unfold sw
  simp only [hf, List.getD_eq_getElem?_getD, List.getElem?_set, List.length_set]
  by_cases e1 : k = j
  · subst e1; simp [hj]
  · rw [if_neg (fun h => e1 h.symm), if_neg e1]
    by_cases e2 : k = i
    · subst e2; simp [hi]
    · rw [if_neg (fun h => e2 h.symm), if_neg e2]
theorem sw_perm {q : List Int} {i j : Nat} (hi : i < q.length) (hj : j < q.length) : (sw q i j).Perm q := by
  unfold sw
  rw [hf_get hi, hf_get hj]
  exact List.set_set_perm hi hj

theorem swap_ok {q : List Int} {i j : Nat} (hi : i < q.length) (hj : j < q.length) : depgraph_queue_Swap.f q (i : Int) (j : Int) = some (sw q i j) := by
  unfold depgraph_queue_Swap.f
  rw [idx_hf hj, idx_hf hi]
  simp only [Option.bind_some]
  have : (upd q (i : Int) (hf q j)).length = q.length := upd_length _ _ _
  rw [idx_get (by omega)]
  rfl
theorem less_ok {q : List Int} {i j : Nat} (hi : i < q.length) (hj : j < q.length) : depgraph_queue_Less.f q (i : Int) (j : Int) = some (decide (hf q i < hf q j)) := by
  unfold depgraph_queue_Less.f
  rw [idx_hf hj, idx_hf hi]
  rfl

/-- A heap on the first n places. -/
def Heap (q : List Int) (n : Nat) : Prop := ∀ k, 0 < k → k < n → hf q ((k - 1) / 2) ≤ hf q k

theorem Heap.min {q : List Int} {n : Nat} (h : Heap q n) : ∀ k, k < n → hf q 0 ≤ hf q k := by
  intro k
  induction k using Nat.strongRecOn with
  | _ k ih =>
    intro hk
    rcases Nat.eq_zero_or_pos k with rfl | h0
    · omega
    · have h1 := ih ((k - 1) / 2) (by omega) (by omega)
      have h2 := h k h0 hk
      omega

structure UpI (q : List Int) (j : Nat) : Prop where
  lt : j < q.length
  a : ∀ k, 0 < k → k < q.length → k ≠ j → hf q ((k - 1) / 2) ≤ hf q k
  b : ∀ k, 0 < k → k < q.length → (k - 1) / 2 = j → 0 < j → hf q ((j - 1) / 2) ≤ hf q k

theorem up_par {j : Nat} (h : j < 4294967296) : wi (Int.tdiv (wi ((j : Int) - 1)) 2) = (((j - 1) / 2 : Nat) : Int) := by
  rw [wi_id (x := (j : Int) - 1) (by omega) (by omega)]
  rcases Nat.eq_zero_or_pos j with rfl | h0
  · rw [show Int.tdiv (((0 : Nat) : Int) - 1) 2 = 0 from by decide]; exact wi_id (by omega) (by omega)
  · rw [Int.tdiv_eq_ediv_of_nonneg (by omega), wi_id (by omega) (by omega)]; omega

theorem up_ok (q : List Int) (j : Nat) (hl : q.length ≤ 4294967296) (h : UpI q j) : ∃ q', heap_up.f ⟨q⟩ (j : Int) = some ⟨q'⟩ ∧ q'.Perm q ∧ Heap q' q'.length := by
  unfold heap_up.f
  show ∃ q', (fun k (s : List Int × Nat) => heap_up.l0 k s.1 (s.2 : Int)) FUEL (q, j) = some ⟨q'⟩ ∧ _
  refine loop_m (L := fun k (s : List Int × Nat) => heap_up.l0 k s.1 (s.2 : Int)) (fun s => UpI s.1 s.2 ∧ s.1.Perm q) (fun s => s.2) (fun o => ∃ q', o = some ⟨q'⟩ ∧ q'.Perm q ∧ Heap q' q'.length) ?_ FUEL (q, j) ⟨h, List.Perm.refl _⟩ (FUEL_pos (by have := h.lt; show j ≤ _; omega))
  rintro k ⟨q1, j⟩ ⟨hi, hp⟩
  simp only at hi hp ⊢
  have hlen := hp.length_eq
  have hjl := hi.lt
  rw [heap_up.l0, up_par (by omega)]
  by_cases e : (j - 1) / 2 = j
  · have hj0 : j = 0 := by omega
    subst hj0
    refine .inr ⟨q1, by simp, hp, fun k h0 h1 => hi.a k h0 h1 (by omega)⟩
  · have hj0 : 0 < j := by omega
    rw [if_neg (by simp; omega), less_ok (by omega) (by omega)]
    simp only [Option.bind_some]
    by_cases hc : hf q1 j < hf q1 ((j - 1) / 2)
    · refine .inl ⟨(sw q1 ((j - 1) / 2) j, (j - 1) / 2), ⟨?_, (sw_perm (by omega) (by omega)).trans hp⟩, by show (j - 1) / 2 < j; omega, ?_⟩
      · have hs := fun k => hf_sw (q := q1) (i := (j - 1) / 2) (j := j) (by omega) (by omega) k
        refine ⟨by rw [sw_length]; omega, fun k h0 h1 hk => ?_, fun k h0 h1 hk hp0 => ?_⟩
        · rw [sw_length] at h1
          simp only at hk
          rw [hs, hs]
          by_cases e1 : k = j
          · subst e1
            rw [if_neg (by omega), if_pos rfl, if_pos rfl]; omega
          · rw [if_neg e1, if_neg hk]
            by_cases e2 : (k - 1) / 2 = j
            · rw [if_pos e2]; exact hi.b k h0 h1 e2 hj0
            · rw [if_neg e2]
              by_cases e3 : (k - 1) / 2 = (j - 1) / 2
              · rw [if_pos e3]
                have := hi.a k h0 h1 e1
                rw [e3] at this; omega
              · rw [if_neg e3]; exact hi.a k h0 h1 e1
        · rw [sw_length] at h1
          simp only at hk hp0 ⊢
          rw [hs, hs, if_neg (by omega), if_neg (by omega)]
          have hpar := hi.a ((j - 1) / 2) hp0 (by omega) (by omega)
          by_cases e1 : k = j
          · rw [if_pos e1]; exact hpar
          · rw [if_neg e1, if_neg (by omega)]
            have := hi.a k h0 h1 e1
            rw [hk] at this; omega
      · rw [decide_eq_true hc]
        simp only [Bool.not_true, Bool.false_eq_true, if_false]
        rw [swap_ok (by omega) (by omega)]
        rfl
    · refine .inr ⟨q1, ?_, hp, fun k h0 h1 => ?_⟩
      · rw [decide_eq_false hc]; simp
      · by_cases e1 : k = j
        · subst e1; omega
        · exact hi.a k h0 h1 e1

theorem push_ok (q : List Int) (x : Int) (hl : q.length < 4294967296) (h : Heap q q.length) : ∃ q', heap_Push.f ⟨q⟩ x = some ⟨q'⟩ ∧ q'.Perm (x :: q) ∧ Heap q' q'.length := by
  unfold heap_Push.f depgraph_queue_Push.f depgraph_queue_Len.f
  rw [app_ok (by simp; omega)]
  simp only [Option.bind_some]
  have hlen : (q ++ [x]).length = q.length + 1 := by simp
  have e : wi (((q ++ [x]).length : Int) - 1) = ((q.length : Nat) : Int) := by rw [hlen, wi_id (by omega) (by omega)]; omega
  rw [e]
  have hh : ∀ k, k < q.length → hf (q ++ [x]) k = hf q k := by
    intro k hk; rw [hf_get hk, hf_get (by omega)]; simp [hk]
  obtain ⟨q', h1, h2, h3⟩ := up_ok (q ++ [x]) q.length (by omega) ⟨by omega, fun k h0 h1 hk => by
    rw [hh k (by omega), hh _ (by omega)]; exact h k h0 (by omega), fun k h0 h1 hk _ => by omega⟩
  rw [h1]
  exact ⟨q', rfl, h2.trans (List.perm_append_singleton x q), h3⟩

structure DownI (q : List Int) (n i : Nat) : Prop where
  le : n ≤ q.length
  a : ∀ k, 0 < k → k < n → (k - 1) / 2 ≠ i → hf q ((k - 1) / 2) ≤ hf q k
  b : ∀ k, 0 < k → k < n → (k - 1) / 2 = i → 0 < i → hf q ((i - 1) / 2) ≤ hf q k

theorem down_ok (q : List Int) (n : Nat) (hl : q.length ≤ 4294967296) (h : DownI q n 0) : ∃ q' i, heap_down.l0 (n : Int) FUEL q 0 = some (i, q') ∧ q'.Perm q ∧ Heap q' n ∧ ∀ k, n ≤ k → hf q' k = hf q k := by
  show ∃ q' i, (fun k (s : List Int × Nat) => heap_down.l0 (n : Int) k s.1 (s.2 : Int)) FUEL (q, 0) = some (i, q') ∧ _
  refine loop_m (L := fun k (s : List Int × Nat) => heap_down.l0 (n : Int) k s.1 (s.2 : Int)) (fun s => DownI s.1 n s.2 ∧ s.1.Perm q ∧ (s.2 < n ∨ s.2 = 0) ∧ ∀ k, n ≤ k → hf s.1 k = hf q k) (fun s => n - s.2)
    (fun o => ∃ q' i, o = some (i, q') ∧ q'.Perm q ∧ Heap q' n ∧ ∀ k, n ≤ k → hf q' k = hf q k) ?_ FUEL (q, 0) ⟨h, List.Perm.refl _, .inr rfl, fun _ _ => rfl⟩ (FUEL_pos (by have := h.le; show n - 0 ≤ _; omega))
  rintro k ⟨q1, i⟩ ⟨hi, hp, hin, hk⟩
  simp only at hi hp hin hk ⊢
  have hlen := hp.length_eq
  have hle := hi.le
  rw [heap_down.l0]
  have e1 : wi (2 * (i : Int)) = ((2 * i : Nat) : Int) := by rw [wi_id (by omega) (by omega)]; omega
  have e2 : wi (((2 * i : Nat) : Int) + 1) = ((2 * i + 1 : Nat) : Int) := wi_succ (by omega)
  have e3 : wi (((2 * i + 1 : Nat) : Int) + 1) = ((2 * i + 2 : Nat) : Int) := wi_succ (by omega)
  rw [e1, e2, e3]
  by_cases hc : n ≤ 2 * i + 1
  · rw [if_pos (by simp; omega)]
    refine .inr ⟨q1, _, rfl, hp, fun k h0 h1 => ?_, hk⟩
    exact hi.a k h0 h1 (by omega)
  · rw [if_neg (by simp; omega)]
    -- the smaller child
    have hj : ∃ j, (j = 2 * i + 1 ∨ j = 2 * i + 2) ∧ j < n ∧ (∀ k, 0 < k → k < n → (k - 1) / 2 = i → hf q1 j ≤ hf q1 k) ∧
        ((if decide (((2 * i + 2 : Nat) : Int) < (n : Int)) = true then (depgraph_queue_Less.f q1 ((2 * i + 2 : Nat) : Int) ((2 * i + 1 : Nat) : Int)).bind fun r46 => some r46 else some false).bind fun t50 => if t50 = true then (some ((2 * i + 2 : Nat) : Int)) else (some ((2 * i + 1 : Nat) : Int)) : Option Int) = some (j : Int) := by
      by_cases h2 : 2 * i + 2 < n
      · rw [if_pos (by simp; omega), less_ok (by omega) (by omega)]
        simp only [Option.bind_some]
        by_cases h3 : hf q1 (2 * i + 2) < hf q1 (2 * i + 1)
        · refine ⟨2 * i + 2, .inr rfl, h2, fun k h0 h1 hk => ?_, by rw [decide_eq_true h3]; rfl⟩
          have : k = 2 * i + 1 ∨ k = 2 * i + 2 := by omega
          rcases this with rfl | rfl <;> omega
        · refine ⟨2 * i + 1, .inl rfl, by omega, fun k h0 h1 hk => ?_, by rw [decide_eq_false h3]; rfl⟩
          have : k = 2 * i + 1 ∨ k = 2 * i + 2 := by omega
          rcases this with rfl | rfl <;> omega
      · rw [if_neg (by simp; omega)]
        refine ⟨2 * i + 1, .inl rfl, by omega, fun k h0 h1 hk => ?_, rfl⟩
        have : k = 2 * i + 1 := by omega
        subst this; omega
    obtain ⟨j, hj1, hj2, hj3, hj4⟩ := hj
    rw [hj4]
    simp only [Option.bind_some]
    rw [less_ok (by omega) (by omega)]
    simp only [Option.bind_some]
    by_cases h5 : hf q1 j < hf q1 i
    · refine .inl ⟨(sw q1 i j, j), ⟨?_, (sw_perm (by omega) (by omega)).trans hp, .inl hj2, fun k hk' => ?_⟩, by show n - j < n - i; omega, ?_⟩
      · have hs := fun k => hf_sw (q := q1) (i := i) (j := j) (by omega) (by omega) k
        refine ⟨by rw [sw_length]; exact hle, fun k h0 h1 hk' => ?_, fun k h0 h1 hk' _ => ?_⟩
        · simp only at hk'
          rw [hs, hs, if_neg hk']
          by_cases e4 : (k - 1) / 2 = i
          · rw [if_pos e4]
            by_cases e5 : k = j
            · rw [if_pos e5]; omega
            · rw [if_neg e5, if_neg (by omega)]; exact hj3 k h0 h1 e4
          · rw [if_neg e4]
            by_cases e5 : k = j
            · omega
            · rw [if_neg e5]
              by_cases e6 : k = i
              · rw [if_pos e6]; subst e6
                exact hi.b j (by omega) hj2 (by omega) h0
              · rw [if_neg e6]; exact hi.a k h0 h1 e4
        · simp only at hk' ⊢
          rw [hs, hs, if_neg (by omega), if_pos (by omega), if_neg (by omega), if_neg (by omega)]
          have := hi.a k h0 h1 (by omega)
          rw [hk'] at this; exact this
      · simp only
        rw [hf_sw (by omega) (by omega), if_neg (by omega), if_neg (by omega)]; exact hk k hk'
      · rw [decide_eq_true h5]
        simp only [Bool.not_true, Bool.false_eq_true, if_false]
        rw [swap_ok (by omega) (by omega)]
        rfl
    · rw [decide_eq_false h5]
      refine .inr ⟨q1, _, rfl, hp, fun k h0 h1 => ?_, hk⟩
      by_cases e4 : (k - 1) / 2 = i
      · rw [e4]; have := hj3 k h0 h1 e4; omega
      · exact hi.a k h0 h1 e4

theorem pop_ok (q : List Int) (hl : q.length ≤ 4294967296) (h0 : 0 < q.length) (h : Heap q q.length) : ∃ q' x, heap_Pop.f ⟨q⟩ = some (⟨q'⟩, x) ∧ (x :: q').Perm q ∧ Heap q' q'.length ∧ ∀ y ∈ q, x ≤ y := by
  unfold heap_Pop.f depgraph_queue_Len.f heap_down.f depgraph_queue_Pop.f
  simp only [Option.bind_some]
  obtain ⟨n, hn⟩ : ∃ n, q.length = n + 1 := ⟨q.length - 1, by omega⟩
  have e : wi ((q.length : Int) - 1) = ((n : Nat) : Int) := by rw [wi_id (by omega) (by omega)]; omega
  rw [e, show (0 : Int) = ((0 : Nat) : Int) from rfl, swap_ok (by omega) (by omega)]
  simp only [Option.bind_some]
  have hs := fun k => hf_sw (q := q) (i := 0) (j := n) (by omega) (by omega) k
  obtain ⟨q', i, h1, h2, h3, h4⟩ := down_ok (sw q 0 n) n (by rw [sw_length]; exact hl) ⟨by rw [sw_length]; omega, fun k k0 k1 hk => by
    rw [hs, hs, if_neg (by omega), if_neg hk, if_neg (by omega), if_neg (by omega)]; exact h k k0 (by omega), fun k _ _ _ hh => by omega⟩
  have hlen : q'.length = n + 1 := by rw [h2.length_eq, sw_length]; exact hn
  simp only [Int.natCast_zero] at h1 ⊢
  rw [h1]
  simp only [Option.bind_some]
  have e2 : wi ((q'.length : Int) - 1) = ((n : Nat) : Int) := by rw [hlen, wi_id (by omega) (by omega)]; omega
  rw [e2, idx_hf (by omega)]
  have := slc_front (xs := q') (h := n) (by omega)
  rw [this]
  simp only [Option.bind_some]
  have hx : hf q' n = hf q 0 := by rw [h4 n (Nat.le_refl _), hs, if_pos rfl]
  have hdec : q' = q'.take n ++ [hf q' n] := by
    rw [hf_get (by omega)]
    have := List.take_append_drop n q'
    rw [List.drop_eq_getElem_cons (by omega), List.drop_of_length_le (by omega)] at this
    exact this.symm
  refine ⟨_, _, rfl, ?_, ?_, ?_⟩
  · have hp := h2.trans (sw_perm (q := q) (i := 0) (j := n) (by omega) (by omega))
    refine (List.perm_append_singleton _ _).symm.trans ?_
    rw [← hdec]; exact hp
  · intro k k0 k1
    rw [List.length_take, Nat.min_eq_left (by omega)] at k1
    have hh : ∀ k, k < n → hf (q'.take n) k = hf q' k := by
      intro k hk; rw [hf_get (by rw [List.length_take]; omega), hf_get (by omega)]; simp
    rw [hh _ (by omega), hh _ k1]
    exact h3 k k0 k1
  · intro y hy
    rw [hx]
    obtain ⟨k, hk, rfl⟩ := List.getElem_of_mem hy
    rw [← hf_get hk]
    exact h.min k hk

end Go.Proofs.Ythmjgadmadlpkaa.Sim

namespace Go.Proofs.Ythmjgadmadlpkaa.Sim
open Go
set_option linter.unusedVariables false

/-- A loop that looks for the first element with P. -/
theorem search_ok {α ρ : Type} {L : Nat → Int → Option (Fl ρ Unit)} (xs : List α) (P : α → Bool) (v : ρ) (hlen : xs.length ≤ maxLen)
    (hL : ∀ k (i : Nat), L (k + 1) (i : Int) = if decide ((i : Int) < (xs.length : Int)) = true then (idx xs (i : Int)).bind fun x => if P x = true then some (.out v) else L k (wi ((i : Int) + 1)) else some (.nxt ())) :
    L FUEL 0 = some (if xs.any P = true then .out v else .nxt ()) := by
  rw [maxLen_eq] at hlen
  refine loop_c (L := fun k (_ : Unit) i => L k i) xs.length (fun i _ => ∀ x ∈ xs.take i, P x = false) (fun o => o = some (if xs.any P = true then .out v else .nxt ())) ?_ ?_ FUEL 0 () (Nat.zero_le _) (FUEL_pos (by omega)) (by simp)
  · intro k s i hi hI
    simp only [hL]
    rw [if_pos (by simp; omega), idx_get hi]
    simp only [Option.bind_some]
    by_cases hp : P xs[i] = true
    · rw [if_pos hp]
      refine .inr ?_
      rw [if_pos (List.any_eq_true.2 ⟨_, List.getElem_mem hi, hp⟩)]
    · rw [if_neg hp]
      refine .inl ⟨(), ?_, by rw [wi_succ (by omega)]⟩
      intro x hx
      rw [List.take_succ_eq_append_getElem hi] at hx
      rcases List.mem_append.1 hx with h | h
      · exact hI x h
      · simp only [List.mem_singleton] at h; subst h; simpa using hp
  · intro k s hI
    simp only [hL]
    rw [if_neg (by simp)]
    rw [List.take_length] at hI
    rw [if_neg]
    intro h
    obtain ⟨x, h1, h2⟩ := List.any_eq_true.1 h
    rw [hI x h1] at h2; cases h2

/-! ### the checks -/

def badL (n : Int) (x : api_Link) : Bool := ((((decide (x.Consumer < 0)) || (decide (n ≤ x.Consumer))) || (decide (x.Supplier < 0))) || (decide (n ≤ x.Supplier)))
def vcode (n : Int) (ls : List api_Link) : Int :=
  if (((decide (n < 0)) || (decide (128 < n))) || (decide (1024 < (ls.length : Int)))) = true then 1 else if ls.any (badL n) = true then 1 else if ls.Nodup then 0 else 7

theorem nodup_take {α : Type} {xs : List α} (i : Nat) (h : xs.Nodup) : (xs.take i).Nodup := List.Sublist.nodup (List.take_sublist i xs) h

theorem mem_take_succ {α : Type} {xs : List α} {i : Nat} {x : α} (hi : i < xs.length) : x ∈ xs.take (i + 1) ↔ x ∈ xs.take i ∨ x = xs[i] := by
  rw [List.take_succ_eq_append_getElem hi, List.mem_append, List.mem_singleton]

theorem nodup_step {α : Type} {xs : List α} {i : Nat} (hi : i < xs.length) (h : (xs.take i).Nodup) : (xs.take (i + 1)).Nodup ↔ xs[i] ∉ xs.take i := by
  rw [List.take_succ_eq_append_getElem hi, List.nodup_append]
  constructor
  · rintro ⟨_, _, h3⟩ hm
    exact h3 _ hm _ (by simp) rfl
  · intro hm
    refine ⟨h, by simp, fun a ha b hb => ?_⟩
    simp only [List.mem_singleton] at hb
    subst hb
    exact fun e => hm (e ▸ ha)

theorem validate_ok (n : Int) (ls : List api_Link) (h : ls.length ≤ maxLen) : depgraph_validate.f n ls = some (vcode n ls) := by
  unfold depgraph_validate.f vcode
  by_cases h0 : (((decide (n < 0)) || (decide (128 < n))) || (decide (1024 < (ls.length : Int)))) = true
  · rw [if_pos h0, if_pos h0]
  · rw [if_neg h0, if_neg h0]
    have hlen : ls.length ≤ 1024 := by simp at h0; omega
    rw [search_ok (L := depgraph_validate.l0 n ls) ls (badL n) 1 h (fun k i => by rw [depgraph_validate.l0]; rfl)]
    by_cases hb : ls.any (badL n) = true
    · rw [if_pos hb, if_pos hb]; rfl
    · rw [if_neg hb, if_neg hb]
      simp only [Option.bind_some, Fl.go]
      have key : depgraph_validate.l1 ls FUEL [] 0 = some (if ls.Nodup then .nxt () else .out 7) := by
        refine loop_c (L := fun k (s : List api_Link) i => depgraph_validate.l1 ls k s i) ls.length (fun i s => s = ls.take i ∧ (ls.take i).Nodup) (fun o => o = some (if ls.Nodup then .nxt () else .out 7)) ?_ ?_ FUEL 0 [] (Nat.zero_le _) (FUEL_pos (by omega)) (by simp)
        · rintro k s i hi ⟨rfl, hI⟩
          rw [depgraph_validate.l1, if_pos (by simp; omega), idx_get hi]
          simp only [Option.bind_some]
          by_cases hm : ls[i] ∈ ls.take i
          · rw [if_pos (by simpa using hm)]
            refine .inr ?_
            rw [if_neg (fun hn => (nodup_step hi hI).1 (nodup_take (i + 1) hn) hm)]
          · rw [if_neg (by simpa using hm)]
            refine .inl ⟨_, ⟨?_, (nodup_step hi hI).2 hm⟩, by rw [wi_succ (by omega)]⟩
            rw [List.take_succ_eq_append_getElem hi]
        · rintro k s ⟨rfl, hI⟩
          rw [depgraph_validate.l1, if_neg (by simp)]
          rw [List.take_length] at hI
          rw [if_pos hI]
      rw [key]
      by_cases hn : ls.Nodup
      · rw [if_pos hn, if_pos hn]; rfl
      · rw [if_neg hn, if_neg hn]; rfl

/-- What the checks let pass. -/
structure GoodG (n : Nat) (ls : List api_Link) : Prop where
  n128 : n ≤ 128
  len : ls.length ≤ 1024
  c0 : ∀ l ∈ ls, 0 ≤ l.Consumer ∧ l.Consumer < n
  s0 : ∀ l ∈ ls, 0 ≤ l.Supplier ∧ l.Supplier < n
  nodup : ls.Nodup

theorem vcode_good {p : Int} {ls : List api_Link} (h : vcode p ls = 0) : ∃ n : Nat, p = n ∧ GoodG n ls := by
  unfold vcode at h
  split at h
  · cases h
  · rename_i h0
    simp only [Bool.or_eq_true, decide_eq_true_eq, not_or] at h0
    split at h
    · cases h
    · rename_i hb
      split at h
      · rename_i hn
        refine ⟨p.toNat, by omega, by omega, by omega, fun l hl => ?_, fun l hl => ?_, hn⟩
        all_goals
          have : badL p l = false := by
            rw [Bool.not_eq_true, List.any_eq_false] at hb
            simpa using hb l hl
          simp [badL] at this
          omega
      · cases h
theorem good_vcode {n : Nat} {ls : List api_Link} (g : GoodG n ls) : vcode n ls = 0 := by
  unfold vcode
  rw [if_neg (by have := g.n128; have := g.len; simp; omega), if_neg, if_pos g.nodup]
  rw [Bool.not_eq_true, List.any_eq_false]
  intro l hl
  have := g.c0 l hl
  have := g.s0 l hl
  simp [badL]; omega

/-! ### the graphs of the statements -/

theorem mod_ok {x n : Int} (h0 : 0 < n) (h1 : n < 9223372036854775808) : ∃ r, help_Mod.f x n = some r ∧ 0 ≤ r ∧ r < n := by
  have hn := wu_id (x := n) (by omega) (by omega)
  have hx := wu_range x
  refine ⟨wi (Int.tmod (wu x) (wu n)), by unfold help_Mod.f; rw [if_neg (by rw [hn]; omega)], ?_⟩
  rw [hn, Int.tmod_eq_emod_of_nonneg hx.1]
  have h2 := Int.emod_nonneg (wu x) (show n ≠ 0 by omega)
  have h3 := Int.emod_lt_of_pos (wu x) h0
  rw [wi_id (by omega) (by omega)]
  exact ⟨h2, h3⟩

/-- The rank by which the graphs without cycles are made. -/
def rank (shift c : Int) : Int := (7 * c + shift) % 13

theorem rank_eq {s c : Int} (h0 : 0 ≤ c ∧ c < 13) (hs : 0 ≤ s ∧ s < 13) : Int.tmod (wi ((wi (7 * c)) + s)) 13 = rank s c := by
  rw [wi_id (x := 7 * c) (by omega) (by omega), wi_id (by omega) (by omega), Int.tmod_eq_emod_of_nonneg (by omega)]; rfl
theorem rank_inj {s c d : Int} (hc : 0 ≤ c ∧ c < 13) (hd : 0 ≤ d ∧ d < 13) (h : rank s c = rank s d) : c = d := by
  unfold rank at h; omega

structure Gr (n : Nat) (ls : List api_Link) (acyc : Bool) : Prop where
  good : GoodG n ls
  n13 : n ≤ 13
  len : ls.length ≤ 40
  down : acyc = true → ∃ r : Int → Int, ∀ l ∈ ls, r l.Supplier < r l.Consumer

theorem graph_ok (p0 : Int) (p1 : List api_Link) (b : Bool) (h : p1.length ≤ maxLen) : ∃ (n : Nat) (ls : List api_Link), law24_Graph.f p0 p1 b = some ((n : Int), ls) ∧ Gr n ls b := by
  rw [maxLen_eq] at h
  unfold law24_Graph.f
  obtain ⟨r, hr, hr0, hr1⟩ := mod_ok (x := p0) (n := 14) (by omega) (by omega)
  rw [hr]
  simp only [Option.bind_some]
  by_cases h2 : r < 2
  · rw [if_pos (by simpa using h2)]
    refine ⟨r.toNat, [], by rw [Int.toNat_of_nonneg hr0], ⟨by omega, by simp, by simp, by simp, by simp⟩, by omega, by simp, fun _ => ⟨fun _ => 0, by simp⟩⟩
  · rw [if_neg (by simpa using h2)]
    obtain ⟨t, ht, ht0, ht1⟩ := mod_ok (x := p0) (n := 13) (by omega) (by omega)
    rw [ht]
    simp only [Option.bind_some]
    obtain ⟨n, rfl⟩ := Int.eq_ofNat_of_zero_le hr0
    have key : ∃ ls, law24_Graph.l0 p1 b (n : Int) t FUEL [] 0 = some ls ∧ ls.length ≤ 40 ∧ ls.Nodup ∧ (∀ l ∈ ls, 0 ≤ l.Consumer ∧ l.Consumer < n) ∧ (∀ l ∈ ls, 0 ≤ l.Supplier ∧ l.Supplier < n) ∧ (b = true → ∀ l ∈ ls, rank t l.Supplier < rank t l.Consumer) := by
      refine loop_c (L := fun k (s : List api_Link) i => law24_Graph.l0 p1 b (n : Int) t k s i) (min p1.length 40) (fun i s => s.length ≤ i ∧ s.Nodup ∧ (∀ l ∈ s, 0 ≤ l.Consumer ∧ l.Consumer < n) ∧ (∀ l ∈ s, 0 ≤ l.Supplier ∧ l.Supplier < n) ∧ (b = true → ∀ l ∈ s, rank t l.Supplier < rank t l.Consumer))
        (fun o => ∃ ls, o = some ls ∧ ls.length ≤ 40 ∧ ls.Nodup ∧ (∀ l ∈ ls, 0 ≤ l.Consumer ∧ l.Consumer < n) ∧ (∀ l ∈ ls, 0 ≤ l.Supplier ∧ l.Supplier < n) ∧ (b = true → ∀ l ∈ ls, rank t l.Supplier < rank t l.Consumer)) ?_ ?_ FUEL 0 [] (Nat.zero_le _) (FUEL_pos (by omega)) (by simp)
      · rintro k s i hi ⟨i1, i2, i3, i4, i5⟩
        have hi1 : i < p1.length := by omega
        rw [law24_Graph.l0, if_pos (by simp; omega), idx_get hi1]
        simp only [Option.bind_some]
        obtain ⟨c, hc, hc0, hc1⟩ := mod_ok (x := p1[i].Consumer) (n := (n : Int)) (by omega) (by omega)
        obtain ⟨d, hd, hd0, hd1⟩ := mod_ok (x := p1[i].Supplier) (n := (n : Int)) (by omega) (by omega)
        rw [hc, hd]
        simp only [Option.bind_some]
        -- what the pair becomes
        have pair : (∃ u v, (if b = true then (if (c == d) = true then (some (.out s)) else (if decide ((Int.tmod (wi ((wi (7 * c)) + t)) 13) < (Int.tmod (wi ((wi (7 * d)) + t)) 13)) = true then (some (.nxt (d, c))) else (some (.nxt (c, d))))) else (some (.nxt (c, d))) : Option (Fl ((List api_Link)) (Int × Int))) = some (.nxt (u, v)) ∧ (0 ≤ u ∧ u < n) ∧ (0 ≤ v ∧ v < n) ∧ (b = true → rank t v < rank t u)) ∨
            (if b = true then (if (c == d) = true then (some (.out s)) else (if decide ((Int.tmod (wi ((wi (7 * c)) + t)) 13) < (Int.tmod (wi ((wi (7 * d)) + t)) 13)) = true then (some (.nxt (d, c))) else (some (.nxt (c, d))))) else (some (.nxt (c, d))) : Option (Fl ((List api_Link)) (Int × Int))) = some (.out s) := by
          cases b
          · exact .inl ⟨c, d, by simp, ⟨hc0, hc1⟩, ⟨hd0, hd1⟩, by simp⟩
          · simp only [if_true]
            by_cases e : c = d
            · exact .inr (by simp [e])
            · rw [if_neg (by simpa using e), rank_eq ⟨hc0, by omega⟩ ⟨ht0, ht1⟩, rank_eq ⟨hd0, by omega⟩ ⟨ht0, ht1⟩]
              by_cases hlt : rank t c < rank t d
              · exact .inl ⟨d, c, by rw [if_pos (by simpa using hlt)], ⟨hd0, hd1⟩, ⟨hc0, hc1⟩, fun _ => hlt⟩
              · refine .inl ⟨c, d, by rw [if_neg (by simpa using hlt)], ⟨hc0, hc1⟩, ⟨hd0, hd1⟩, fun _ => ?_⟩
                have : rank t c ≠ rank t d := fun h => e (rank_inj ⟨hc0, by omega⟩ ⟨hd0, by omega⟩ h)
                omega
        rcases pair with ⟨u, v, hp, hu, hv, huv⟩ | hp
        · rw [hp]
          simp only [Option.bind_some, Fl.go]
          have fresh : law24_Graph.l1 s (u, v) FUEL true 0 = some (decide (api_Link.mk u v ∉ s)) := by
            refine loop_c (L := fun k (q : Bool) j => law24_Graph.l1 s (u, v) k q j) s.length (fun j q => q = decide (api_Link.mk u v ∉ s.take j)) (fun o => o = some (decide (api_Link.mk u v ∉ s))) ?_ ?_ FUEL 0 true (Nat.zero_le _) (FUEL_pos (by omega)) (by simp)
            · rintro k q j hj rfl
              rw [law24_Graph.l1, if_pos (by simp; omega), idx_get hj]
              simp only [Option.bind_some]
              refine .inl ⟨_, rfl, ?_⟩
              rw [wi_succ (by omega)]
              by_cases hm : api_Link.mk u v ∈ s.take j
              · rw [if_neg (by simp [hm]), decide_eq_false (fun h => h ((mem_take_succ hj).2 (.inl hm)))]; rfl
              · rw [if_pos (by simp [hm])]
                by_cases e : s[j] = api_Link.mk u v
                · rw [decide_eq_false (p := ¬ api_Link.mk u v ∈ s.take (j + 1)) (fun h => h ((mem_take_succ hj).2 (.inr e.symm))), decide_eq_true e]; rfl
                · rw [decide_eq_true (p := ¬ api_Link.mk u v ∈ s.take (j + 1)) (fun h => ((mem_take_succ hj).1 h).elim hm (fun h => e h.symm)), decide_eq_false e]; rfl
            · rintro k q rfl
              rw [law24_Graph.l1, if_neg (by simp), List.take_length]
          rw [fresh]
          simp only [Option.bind_some]
          by_cases hm : api_Link.mk u v ∈ s
          · rw [if_neg (by simp [hm])]
            exact .inl ⟨s, ⟨by omega, i2, i3, i4, i5⟩, by rw [wi_succ (by omega)]; rfl⟩
          · rw [if_pos (by simp [hm]), app_ok (by simp; omega)]
            refine .inl ⟨s ++ [api_Link.mk u v], ⟨by simp; omega, ?_, ?_, ?_, ?_⟩, by rw [wi_succ (by omega)]; rfl⟩
            · rw [List.nodup_append]
              refine ⟨i2, by simp, fun a ha b' hb => ?_⟩
              simp only [List.mem_singleton] at hb
              subst hb
              exact fun e => hm (e ▸ ha)
            all_goals
              simp only [List.mem_append, List.mem_singleton]
            · rintro l (hl | rfl)
              · exact i3 l hl
              · exact hu
            · rintro l (hl | rfl)
              · exact i4 l hl
              · exact hv
            · rintro hb l (hl | rfl)
              · exact i5 hb l hl
              · exact huv hb
        · rw [hp]
          simp only [Option.bind_some, Fl.go]
          exact .inl ⟨s, ⟨by omega, i2, i3, i4, i5⟩, by rw [wi_succ (by omega)]⟩
      · rintro k s ⟨i1, i2, i3, i4, i5⟩
        rw [law24_Graph.l0, if_neg (by simp; omega)]
        exact ⟨s, rfl, by omega, i2, i3, i4, i5⟩
    obtain ⟨ls, h1, h3, h4, h5, h6, h7⟩ := key
    rw [h1]
    exact ⟨n, ls, rfl, ⟨by omega, by omega, h5, h6, h4⟩, by omega, h3, fun hb => ⟨rank t, h7 hb⟩⟩

end Go.Proofs.Ythmjgadmadlpkaa.Sim

namespace Go.Proofs.Ythmjgadmadlpkaa.Sim
open Go
set_option linter.unusedVariables false

/-! ### consumers and counts -/

def consOf (ls : List api_Link) (s : Int) : List Int := (ls.filter (fun l => l.Supplier == s)).map (·.Consumer)
def rem (ls : List api_Link) (out : List Int) (c : Int) : Nat := ls.countP (fun l => (l.Consumer == c) && decide (l.Supplier ∉ out))

theorem mem_consOf {ls : List api_Link} {s c : Int} : c ∈ consOf ls s ↔ api_Link.mk c s ∈ ls := by
  unfold consOf
  simp only [List.mem_map, List.mem_filter, beq_iff_eq]
  constructor
  · rintro ⟨l, ⟨h1, h2⟩, rfl⟩; subst h2; exact h1
  · intro h; exact ⟨_, ⟨h, rfl⟩, rfl⟩

theorem rem_split {out : List Int} {x : Int} (hx : x ∉ out) : ∀ (ls : List api_Link) (c : Int), rem ls out c = rem ls (out ++ [x]) c + (consOf ls x).count c
  | [], c => by simp [rem, consOf]
  | l :: t, c => by
    have ih := rem_split hx t c
    unfold rem consOf at ih ⊢
    simp only [List.countP_cons, List.filter_cons]
    by_cases h1 : l.Consumer = c <;> by_cases h2 : l.Supplier = x <;> by_cases h4 : l.Supplier ∈ out <;> grind

theorem consOf_snoc (ls : List api_Link) (l : api_Link) (s : Int) : consOf (ls ++ [l]) s = if l.Supplier = s then consOf ls s ++ [l.Consumer] else consOf ls s := by
  unfold consOf
  by_cases h : l.Supplier = s <;> simp [List.filter_append, h]
theorem rem_snoc (ls : List api_Link) (l : api_Link) (c : Int) : rem (ls ++ [l]) [] c = rem ls [] c + if l.Consumer = c then 1 else 0 := by
  unfold rem
  by_cases h : l.Consumer = c <;> simp [List.countP_append, h]
theorem rem_le (ls : List api_Link) (out : List Int) (c : Int) : rem ls out c ≤ ls.length := List.countP_le_length
theorem consOf_le (ls : List api_Link) (s : Int) : (consOf ls s).length ≤ ls.length := by
  unfold consOf; rw [List.length_map]; exact List.length_filter_le _ _

theorem adjacent_ok {n : Nat} {ls : List api_Link} (g : GoodG n ls) : ∃ adj cnt, depgraph_adjacent.f (n : Int) ls = some (adj, cnt) ∧ adj.length = n ∧ cnt.length = n ∧ ∀ v, 0 ≤ v → v < (n : Int) → idx adj v = some (consOf ls v) ∧ idx cnt v = some (rem ls [] v : Int) := by
  have hn := g.n128
  have hl := g.len
  unfold depgraph_adjacent.f
  rw [mk_ok (by omega), mk_ok (by omega)]
  simp only [Option.bind_some]
  have key : ∃ adj cnt, depgraph_adjacent.l0 ls FUEL (List.replicate n []) (List.replicate n 0) 0 = some (adj, cnt) ∧ adj.length = n ∧ cnt.length = n ∧ ∀ v, 0 ≤ v → v < (n : Int) → idx adj v = some (consOf ls v) ∧ idx cnt v = some (rem ls [] v : Int) := by
    refine loop_c (L := fun k (s : List (List Int) × List Int) i => depgraph_adjacent.l0 ls k s.1 s.2 i) ls.length (fun i s => s.1.length = n ∧ s.2.length = n ∧ ∀ v, 0 ≤ v → v < (n : Int) → idx s.1 v = some (consOf (ls.take i) v) ∧ idx s.2 v = some (rem (ls.take i) [] v : Int))
      (fun o => ∃ adj cnt, o = some (adj, cnt) ∧ adj.length = n ∧ cnt.length = n ∧ ∀ v, 0 ≤ v → v < (n : Int) → idx adj v = some (consOf ls v) ∧ idx cnt v = some (rem ls [] v : Int)) ?_ ?_ FUEL 0 (_, _) (Nat.zero_le _) (FUEL_pos (by omega)) ?_
    · rintro k ⟨adj, cnt⟩ i hi ⟨h1, h2, h3⟩
      simp only at h1 h2 h3 ⊢
      have hm := List.getElem_mem hi
      have hc := g.c0 _ hm
      have hs := g.s0 _ hm
      rw [depgraph_adjacent.l0, if_pos (by simp; omega), idx_get hi]
      simp only [Option.bind_some]
      have hcl := consOf_le (ls.take i) ls[i].Supplier
      rw [List.length_take] at hcl
      have hrl := rem_le (ls.take i) [] ls[i].Consumer
      rw [List.length_take] at hrl
      rw [(h3 _ hs.1 hs.2).1]
      simp only [Option.bind_some]
      rw [app_ok (by simp only [List.length_singleton]; omega)]
      simp only [Option.bind_some]
      rw [(h3 _ hc.1 hc.2).2]
      simp only [Option.bind_some]
      refine .inl ⟨(upd adj ls[i].Supplier (consOf (ls.take i) ls[i].Supplier ++ [ls[i].Consumer]), upd cnt ls[i].Consumer ((rem (ls.take i) [] ls[i].Consumer + 1 : Nat) : Int)), ?_, by rw [wi_succ (by omega), wi_succ (by omega)]⟩
      refine ⟨by rw [upd_length]; exact h1, by rw [upd_length]; exact h2, fun v v0 v1 => ?_⟩
      rw [idx_upd (xs := adj) hs.1 v0 (by omega), idx_upd (xs := cnt) hc.1 v0 (by omega), List.take_succ_eq_append_getElem hi, consOf_snoc, rem_snoc]
      obtain ⟨q1, q2⟩ := h3 v v0 v1
      constructor
      · by_cases e : ls[i].Supplier = v
        · subst e; rw [if_pos rfl, if_pos rfl]
        · rw [if_neg e, if_neg e]; exact q1
      · by_cases e : ls[i].Consumer = v
        · subst e; rw [if_pos rfl, if_pos rfl]
        · rw [if_neg e, if_neg e]; exact q2
    · rintro k ⟨adj, cnt⟩ ⟨h1, h2, h3⟩
      simp only at h1 h2 h3 ⊢
      rw [depgraph_adjacent.l0, if_neg (by simp)]
      rw [List.take_length] at h3
      exact ⟨adj, cnt, rfl, h1, h2, h3⟩
    · refine ⟨by simp, by simp, fun v v0 v1 => ?_⟩
      simp only
      rw [idx_replicate v0 v1, idx_replicate v0 v1]
      simp [consOf, rem]
  obtain ⟨adj, cnt, h1, h2⟩ := key
  rw [h1]
  exact ⟨adj, cnt, rfl, h2⟩

/-! ### the order -/

def free (ls : List api_Link) (out : List Int) (v : Int) : Bool := decide (v ∉ out) && ls.all (fun l => !(l.Consumer == v) || decide (l.Supplier ∈ out))
def least (n : Nat) (ls : List api_Link) (out : List Int) : Option Int := (below n).find? (free ls out)

theorem free_iff {ls : List api_Link} {out : List Int} {v : Int} : free ls out v = true ↔ v ∉ out ∧ ∀ l ∈ ls, l.Consumer = v → l.Supplier ∈ out := by
  unfold free
  simp only [Bool.and_eq_true, decide_eq_true_eq, List.all_eq_true, Bool.or_eq_true, Bool.not_eq_true', beq_eq_false_iff_ne, ne_eq]
  constructor
  · rintro ⟨h1, h2⟩; exact ⟨h1, fun l hl e => (h2 l hl).resolve_left (fun h => h e)⟩
  · rintro ⟨h1, h2⟩; exact ⟨h1, fun l hl => by by_cases e : l.Consumer = v <;> simp [e, h2 l hl]⟩

theorem free_rem {ls : List api_Link} {out : List Int} {v : Int} : free ls out v = true ↔ v ∉ out ∧ rem ls out v = 0 := by
  rw [free_iff]
  unfold rem
  rw [List.countP_eq_zero]
  simp only [Bool.and_eq_true, beq_iff_eq, decide_eq_true_eq, not_and, Decidable.not_not]

theorem find_below (P : Int → Bool) : ∀ (n : Nat), ((∀ u : Int, 0 ≤ u → u < n → P u = false) ∧ (below n).find? P = none) ∨ ∃ v : Int, 0 ≤ v ∧ v < n ∧ P v = true ∧ (∀ u : Int, 0 ≤ u → u < v → P u = false) ∧ (below n).find? P = some v
  | 0 => .inl ⟨fun u h0 h1 => by omega, by simp [below]⟩
  | n + 1 => by
    rw [below_succ, List.find?_append]
    rcases find_below P n with ⟨h1, h2⟩ | ⟨v, h1, h2, h3, h4, h5⟩
    · rw [h2]
      by_cases hp : P (n : Int) = true
      · exact .inr ⟨n, by omega, by omega, hp, h1, by simp [hp]⟩
      · refine .inl ⟨fun u h0 h3 => ?_, by simp [hp]⟩
        by_cases e : u = n
        · subst e; simpa using hp
        · exact h1 u h0 (by omega)
    · exact .inr ⟨v, h1, by omega, h3, h4, by rw [h5]; rfl⟩

theorem least_of {n : Nat} {ls : List api_Link} {out : List Int} {v : Int} (h0 : 0 ≤ v) (h1 : v < n) (h2 : free ls out v = true) (h3 : ∀ u, 0 ≤ u → u < v → free ls out u = false) : least n ls out = some v := by
  rcases find_below (free ls out) n with ⟨h4, h5⟩ | ⟨u, h4, h5, h6, h7, h8⟩
  · rw [h4 v h0 h1] at h2; cases h2
  · have : u = v := by
      rcases Int.lt_trichotomy u v with h | h | h
      · rw [h3 u h4 h] at h6; cases h6
      · exact h
      · rw [h7 v h0 h] at h2; cases h2
    subst this; exact h8
theorem least_some {n : Nat} {ls : List api_Link} {out : List Int} {v : Int} (h : least n ls out = some v) : 0 ≤ v ∧ v < n ∧ free ls out v = true ∧ ∀ u, 0 ≤ u → u < v → free ls out u = false := by
  rcases find_below (free ls out) n with ⟨h4, h5⟩ | ⟨u, h4, h5, h6, h7, h8⟩
  · unfold least at h; rw [h5] at h; cases h
  · unfold least at h; rw [h8] at h; injection h with h; subst h; exact ⟨h4, h5, h6, h7⟩
theorem least_none {n : Nat} {ls : List api_Link} {out : List Int} : least n ls out = none ↔ ∀ u : Int, 0 ≤ u → u < n → free ls out u = false := by
  rcases find_below (free ls out) n with ⟨h4, h5⟩ | ⟨u, h4, h5, h6, h7, h8⟩
  · exact ⟨fun _ => h4, fun _ => h5⟩
  · refine ⟨fun h => ?_, fun h => ?_⟩
    · unfold least at h; rw [h8] at h; cases h
    · rw [h u h4 h5] at h6; cases h6

inductive Run (n : Nat) (ls : List api_Link) : List Int → Prop where
  | nil : Run n ls []
  | snoc {out : List Int} {v : Int} (h : Run n ls out) (hv : least n ls out = some v) : Run n ls (out ++ [v])

theorem Run.facts {n : Nat} {ls : List api_Link} {out : List Int} (h : Run n ls out) : out.Nodup ∧ (∀ v ∈ out, 0 ≤ v ∧ v < n) ∧ ∀ l ∈ ls, l.Consumer ∈ out → l.Supplier ∈ out := by
  induction h with
  | nil => simp
  | @snoc out v h hv ih =>
    obtain ⟨h1, h2, h3⟩ := ih
    obtain ⟨h4, h5, h6, h7⟩ := least_some hv
    obtain ⟨h8, h9⟩ := free_iff.1 h6
    refine ⟨?_, fun u hu => ?_, fun l hl hc => ?_⟩
    · rw [List.nodup_append]
      refine ⟨h1, by simp, fun a ha b hb => ?_⟩
      simp only [List.mem_singleton] at hb
      subst hb
      exact fun e => h8 (e ▸ ha)
    · rcases List.mem_append.1 hu with hu | hu
      · exact h2 u hu
      · simp only [List.mem_singleton] at hu; subst hu; exact ⟨h4, h5⟩
    · rcases List.mem_append.1 hc with hc | hc
      · exact List.mem_append.2 (.inl (h3 l hl hc))
      · simp only [List.mem_singleton] at hc
        exact List.mem_append.2 (.inl (h9 l hl hc))
theorem Run.length_le {n : Nat} {ls : List api_Link} {out : List Int} (h : Run n ls out) : out.length ≤ n := by
  have := nodup_le h.facts.1 (fun x hx => mem_below.2 (h.facts.2.1 x hx))
  rwa [below_length] at this

def greedy (n : Nat) (ls : List api_Link) : Nat → List Int → List Int
  | 0, out => out
  | k + 1, out => match least n ls out with
    | none => out
    | some v => greedy n ls k (out ++ [v])
def ord (n : Nat) (ls : List api_Link) : List Int := greedy n ls (n + 1) []

theorem Run.greedy {n : Nat} {ls : List api_Link} {out : List Int} (h : Run n ls out) (k : Nat) : Sim.greedy n ls (k + out.length) [] = Sim.greedy n ls k out := by
  induction h generalizing k with
  | nil => rfl
  | @snoc out v h hv ih =>
    have := ih (k + 1)
    rw [show k + 1 + out.length = k + (out ++ [v]).length from by simp; omega] at this
    rw [this, Sim.greedy, hv]
theorem Run.ord {n : Nat} {ls : List api_Link} {out : List Int} (h : Run n ls out) (hn : least n ls out = none) : out = Sim.ord n ls := by
  have h1 := h.length_le
  have h2 := h.greedy (n + 1 - out.length)
  rw [show n + 1 - out.length + out.length = n + 1 from by omega] at h2
  unfold Sim.ord
  rw [h2, show n + 1 - out.length = (n - out.length) + 1 from by omega, Sim.greedy, hn]
theorem greedy_run {n : Nat} {ls : List api_Link} : ∀ (k : Nat) (out : List Int), Run n ls out → n < k + out.length → Run n ls (greedy n ls k out) ∧ least n ls (greedy n ls k out) = none
  | 0, out, h, hk => by have := h.length_le; omega
  | k + 1, out, h, hk => by
    rw [greedy]
    split
    · rename_i hn; exact ⟨h, hn⟩
    · rename_i v hv; exact greedy_run k _ (h.snoc hv) (by simp; omega)
theorem ord_run (n : Nat) (ls : List api_Link) : Run n ls (ord n ls) ∧ least n ls (ord n ls) = none := greedy_run _ _ .nil (by simp)
theorem ord_le (n : Nat) (ls : List api_Link) : (ord n ls).length ≤ n := (ord_run n ls).1.length_le

/-! ### the program's way -/

structure Que (n : Nat) (q : List Int) (P : Int → Prop) : Prop where
  heap : Heap q q.length
  nodup : q.Nodup
  mem : ∀ v, v ∈ q ↔ 0 ≤ v ∧ v < (n : Int) ∧ P v

theorem Que.len {n : Nat} {q : List Int} {P : Int → Prop} (h : Que n q P) : q.length ≤ n := by
  have := nodup_le h.nodup (fun x hx => mem_below.2 ⟨((h.mem x).1 hx).1, ((h.mem x).1 hx).2.1⟩)
  rwa [below_length] at this
theorem Que.congr {n : Nat} {q : List Int} {P Q : Int → Prop} (h : Que n q P) (hpq : ∀ v, 0 ≤ v → v < (n : Int) → (P v ↔ Q v)) : Que n q Q :=
  ⟨h.heap, h.nodup, fun v => by rw [h.mem]; constructor <;> rintro ⟨a, b, c⟩; exact ⟨a, b, (hpq v a b).1 c⟩; exact ⟨a, b, (hpq v a b).2 c⟩⟩
theorem Que.push {n : Nat} {q : List Int} {P : Int → Prop} (h : Que n q P) (hn : n ≤ 128) {x : Int} (h0 : 0 ≤ x) (h1 : x < n) (hx : ¬ P x) : ∃ q', heap_Push.f ⟨q⟩ x = some ⟨q'⟩ ∧ Que n q' (fun v => v = x ∨ P v) := by
  have hl := h.len
  obtain ⟨q', e, hp, hh⟩ := push_ok q x (by omega) h.heap
  refine ⟨q', e, hh, ?_, fun v => ?_⟩
  · rw [hp.nodup_iff, List.nodup_cons]
    exact ⟨fun hm => hx ((h.mem x).1 hm).2.2, h.nodup⟩
  · rw [hp.mem_iff, List.mem_cons, h.mem]
    constructor
    · rintro (rfl | ⟨a, b, c⟩)
      · exact ⟨h0, h1, .inl rfl⟩
      · exact ⟨a, b, .inr c⟩
    · rintro ⟨a, b, rfl | c⟩
      · exact .inl rfl
      · exact .inr ⟨a, b, c⟩

theorem sort_l0 {n : Nat} (hn : n ≤ 128) {adj : List (List Int)} {cnt : List Int} (hc : cnt.length = n) : ∃ q, depgraph_sort.l0 (adj, cnt) FUEL [] 0 = some q ∧ Que n q (fun v => idx cnt v = some 0) := by
  refine loop_c (L := fun k (s : List Int) i => depgraph_sort.l0 (adj, cnt) k s i) n (fun i s => Que n s (fun v => v < (i : Int) ∧ idx cnt v = some 0)) (fun o => ∃ q, o = some q ∧ Que n q (fun v => idx cnt v = some 0)) ?_ ?_ FUEL 0 [] (Nat.zero_le _) (FUEL_pos (by omega)) ⟨fun k h0 h1 => by simp at h1, by simp, fun v => by simp; omega⟩
  · rintro k s i hi hq
    rw [depgraph_sort.l0, if_pos (by show decide ((i : Int) < (cnt.length : Int)) = true; simp; omega), idx_get (xs := cnt) (by omega)]
    simp only [Option.bind_some]
    by_cases e : cnt[i] = 0
    · rw [if_pos (by simp [e])]
      obtain ⟨q', h1, h2⟩ := hq.push hn (x := (i : Int)) (by omega) (by omega) (fun h => by omega)
      rw [h1]
      refine .inl ⟨q', h2.congr (fun v v0 v1 => ?_), by rw [wi_succ (by omega)]; rfl⟩
      constructor
      · rintro (rfl | ⟨h3, h4⟩)
        · exact ⟨by omega, by rw [idx_get (by omega), e]⟩
        · exact ⟨by omega, h4⟩
      · rintro ⟨h3, h4⟩
        by_cases e2 : v = i
        · exact .inl e2
        · exact .inr ⟨by omega, h4⟩
    · rw [if_neg (by simp [e])]
      refine .inl ⟨s, hq.congr (fun v v0 v1 => ?_), by rw [wi_succ (by omega)]; rfl⟩
      constructor
      · rintro ⟨h3, h4⟩; exact ⟨by omega, h4⟩
      · rintro ⟨h3, h4⟩
        by_cases e2 : v = i
        · subst e2; rw [idx_get (by omega)] at h4; injection h4 with h4; exact absurd h4 e
        · exact ⟨by omega, h4⟩
  · rintro k s hq
    rw [depgraph_sort.l0, if_neg (by simp only [decide_eq_true_eq]; omega)]
    exact ⟨s, rfl, hq.congr (fun v v0 v1 => ⟨fun h => h.2, fun h => ⟨v1, h⟩⟩)⟩

theorem sort_l2 {n : Nat} {ls : List api_Link} (g : GoodG n ls) {out : List Int} (hr : Run n ls out) {x : Int} (hx : least n ls out = some x) {cnt q : List Int} (hc : cnt.length = n) (hcv : ∀ v : Int, 0 ≤ v → v < n → idx cnt v = some (rem ls out v : Int)) (hq : Que n q (fun v => v ∉ out ++ [x] ∧ idx cnt v = some 0)) :
    ∃ cnt' q', depgraph_sort.l2 (out ++ [x]) (consOf ls x) FUEL cnt q 0 = some (.nxt (cnt', q', out ++ [x])) ∧ cnt'.length = n ∧ (∀ v : Int, 0 ≤ v → v < n → idx cnt' v = some (rem ls (out ++ [x]) v : Int)) ∧ Que n q' (fun v => v ∉ out ++ [x] ∧ idx cnt' v = some 0) := by
  have hn := g.n128
  have hl := g.len
  have hcl := consOf_le ls x
  obtain ⟨x0, x1, hfree, _⟩ := least_some hx
  obtain ⟨hxo, hxs⟩ := free_iff.1 hfree
  have hmem : ∀ c ∈ consOf ls x, (0 ≤ c ∧ c < n) ∧ c ∉ out ++ [x] := by
    intro c hc
    have hm := mem_consOf.1 hc
    refine ⟨g.c0 _ hm, fun h => ?_⟩
    rcases List.mem_append.1 h with h | h
    · exact hxo (hr.facts.2.2 _ hm h)
    · simp only [List.mem_singleton] at h
      exact hxo (hxs _ hm h)
  refine loop_c (L := fun k (s : List Int × List Int) i => depgraph_sort.l2 (out ++ [x]) (consOf ls x) k s.1 s.2 i) (consOf ls x).length
    (fun i s => s.1.length = n ∧ (∀ v : Int, 0 ≤ v → v < n → idx s.1 v = some ((rem ls (out ++ [x]) v + ((consOf ls x).drop i).count v : Nat) : Int)) ∧ Que n s.2 (fun v => v ∉ out ++ [x] ∧ idx s.1 v = some 0))
    (fun o => ∃ cnt' q', o = some (.nxt (cnt', q', out ++ [x])) ∧ cnt'.length = n ∧ (∀ v : Int, 0 ≤ v → v < n → idx cnt' v = some (rem ls (out ++ [x]) v : Int)) ∧ Que n q' (fun v => v ∉ out ++ [x] ∧ idx cnt' v = some 0)) ?_ ?_ FUEL 0 (cnt, q) (Nat.zero_le _) (FUEL_pos (by omega)) ⟨hc, fun v v0 v1 => by rw [hcv v v0 v1, rem_split hxo]; rfl, hq⟩
  · rintro k ⟨cn, qq⟩ i hi ⟨i1, i2, i3⟩
    simp only at i1 i2 i3 ⊢
    obtain ⟨⟨c0, c1⟩, co⟩ := hmem _ (List.getElem_mem hi)
    rw [depgraph_sort.l2, if_pos (by simp; omega), idx_get hi]
    simp only [Option.bind_some]
    generalize hcc : (consOf ls x)[i] = c at *
    have hdrop : (consOf ls x).drop i = c :: (consOf ls x).drop (i + 1) := by rw [List.drop_eq_getElem_cons hi, hcc]
    have hcur := i2 c c0 c1
    have hrle := rem_le ls (out ++ [x]) c
    have hcle : ((consOf ls x).drop (i + 1)).count c ≤ (consOf ls x).length := Nat.le_trans List.count_le_length (by simp)
    rw [hdrop, List.count_cons_self] at hcur
    rw [hcur]
    simp only [Option.bind_some]
    have e1 : wi (((rem ls (out ++ [x]) c + (((consOf ls x).drop (i + 1)).count c + 1) : Nat) : Int) - 1) = ((rem ls (out ++ [x]) c + ((consOf ls x).drop (i + 1)).count c : Nat) : Int) := by
      rw [wi_id (by omega) (by omega)]; omega
    rw [e1]
    have hnew : ∀ v : Int, 0 ≤ v → v < n → idx (upd cn c ((rem ls (out ++ [x]) c + ((consOf ls x).drop (i + 1)).count c : Nat) : Int)) v = some ((rem ls (out ++ [x]) v + ((consOf ls x).drop (i + 1)).count v : Nat) : Int) := by
      intro v v0 v1
      rw [idx_upd (xs := cn) c0 v0 (by omega)]
      by_cases e : c = v
      · subst e; rw [if_pos rfl]
      · rw [if_neg e, i2 v v0 v1, hdrop, List.count_cons_of_ne e]
    rw [hnew c c0 c1]
    simp only [Option.bind_some]
    have hne : ∀ v, v ≠ c → 0 ≤ v → v < (n : Int) → (idx (upd cn c ((rem ls (out ++ [x]) c + ((consOf ls x).drop (i + 1)).count c : Nat) : Int)) v = some 0 ↔ idx cn v = some 0) := by
      intro v hv v0 v1
      rw [idx_upd (xs := cn) c0 v0 (by omega), if_neg (fun e => hv e.symm)]
    have hpos : idx cn c ≠ some 0 := by
      rw [hcur]; intro h; injection h with h; omega
    by_cases hz : (rem ls (out ++ [x]) c + ((consOf ls x).drop (i + 1)).count c) = 0
    · rw [if_pos (by rw [hz]; rfl)]
      obtain ⟨q', p1, p2⟩ := i3.push hn c0 c1 (fun h => hpos h.2)
      rw [p1]
      refine .inl ⟨(upd cn c ((rem ls (out ++ [x]) c + ((consOf ls x).drop (i + 1)).count c : Nat) : Int), q'), ⟨by rw [upd_length]; exact i1, hnew, p2.congr (fun v v0 v1 => ?_)⟩, by rw [wi_succ (by omega)]; rfl⟩
      by_cases e : v = c
      · subst e
        refine ⟨fun _ => ⟨co, by rw [hnew v c0 c1, hz]; rfl⟩, fun _ => .inl rfl⟩
      · constructor
        · rintro (h | ⟨h1, h2⟩)
          · exact absurd h e
          · exact ⟨h1, (hne v e v0 v1).2 h2⟩
        · rintro ⟨h1, h2⟩; exact .inr ⟨h1, (hne v e v0 v1).1 h2⟩
    · rw [if_neg (by simp only [beq_iff_eq]; omega)]
      refine .inl ⟨(upd cn c ((rem ls (out ++ [x]) c + ((consOf ls x).drop (i + 1)).count c : Nat) : Int), qq), ⟨by rw [upd_length]; exact i1, hnew, i3.congr (fun v v0 v1 => ?_)⟩, by rw [wi_succ (by omega)]; rfl⟩
      by_cases e : v = c
      · subst e
        refine ⟨fun h => absurd h.2 hpos, fun h => ?_⟩
        have h2 := h.2
        rw [hnew v c0 c1] at h2
        injection h2 with h2; omega
      · exact ⟨fun h => ⟨h.1, (hne v e v0 v1).2 h.2⟩, fun h => ⟨h.1, (hne v e v0 v1).1 h.2⟩⟩
  · rintro k ⟨cn, qq⟩ ⟨i1, i2, i3⟩
    simp only at i1 i2 i3 ⊢
    rw [depgraph_sort.l2, if_neg (by simp)]
    refine ⟨cn, qq, rfl, i1, fun v v0 v1 => ?_, i3⟩
    rw [i2 v v0 v1, List.drop_length]; rfl

theorem sort_ok {n : Nat} {ls : List api_Link} (g : GoodG n ls) : depgraph_sort.f (n : Int) ls = some (ord n ls) := by
  have hn := g.n128
  unfold depgraph_sort.f
  obtain ⟨adj, cnt, ha, hal, hcl, hac⟩ := adjacent_ok g
  rw [ha]
  simp only [Option.bind_some]
  obtain ⟨q, h1, h2⟩ := sort_l0 (n := n) hn (adj := adj) (cnt := cnt) hcl
  rw [h1]
  simp only [Option.bind_some]
  have key : depgraph_sort.l1 (adj, cnt) FUEL cnt q [] = some (ord n ls) := by
    refine loop_m (L := fun k (s : List Int × List Int × List Int) => depgraph_sort.l1 (adj, cnt) k s.1 s.2.1 s.2.2) (fun s => Run n ls s.2.2 ∧ s.1.length = n ∧ (∀ v : Int, 0 ≤ v → v < n → idx s.1 v = some (rem ls s.2.2 v : Int)) ∧ Que n s.2.1 (fun v => v ∉ s.2.2 ∧ idx s.1 v = some 0))
      (fun s => n - s.2.2.length) (fun o => o = some (ord n ls)) ?_ FUEL (cnt, q, []) ⟨.nil, hcl, fun v v0 v1 => (hac v v0 v1).2, h2.congr (fun v _ _ => by simp)⟩ (FUEL_pos (by show n - 0 ≤ _; omega))
    rintro k ⟨cn, qq, out⟩ ⟨i1, i2, i3, i4⟩
    simp only at i1 i2 i3 i4 ⊢
    have hlen := i1.length_le
    have hql := i4.len
    have hiff : ∀ v : Int, 0 ≤ v → v < n → ((v ∉ out ∧ idx cn v = some 0) ↔ free ls out v = true) := by
      intro v v0 v1
      rw [free_rem, i3 v v0 v1]
      constructor
      · rintro ⟨h1, h2⟩; injection h2 with h2; exact ⟨h1, by omega⟩
      · rintro ⟨h1, h2⟩; exact ⟨h1, by rw [h2]; rfl⟩
    rw [depgraph_sort.l1]
    by_cases h0 : 0 < qq.length
    · rw [if_pos (by simp; omega)]
      obtain ⟨q', x, p1, p2, p3, p4⟩ := pop_ok qq (by omega) h0 i4.heap
      rw [p1]
      simp only [Option.bind_some, Bool.not_true, Bool.false_eq_true, if_false]
      have hxq : x ∈ qq := p2.mem_iff.1 (List.mem_cons_self ..)
      obtain ⟨x0, x1, hxf⟩ := (i4.mem x).1 hxq
      have hx : least n ls out = some x := least_of x0 x1 ((hiff x x0 x1).1 hxf) (fun u u0 ux => by
        rw [Bool.eq_false_iff]
        intro hf
        have := p4 u ((i4.mem u).2 ⟨u0, by omega, (hiff u u0 (by omega)).2 hf⟩)
        omega)
      rw [app_ok (by simp; omega)]
      simp only [Option.bind_some]
      rw [(hac x x0 x1).1]
      simp only [Option.bind_some]
      have hnd : (x :: q').Nodup := p2.nodup_iff.2 i4.nodup
      rw [List.nodup_cons] at hnd
      obtain ⟨cnt', q2, r1, r2, r3, r4⟩ := sort_l2 g i1 hx i2 i3 (q := q') ⟨p3, hnd.2, fun v => by
        have hv := i4.mem v
        rw [← p2.mem_iff, List.mem_cons] at hv
        constructor
        · intro hm
          obtain ⟨v0, v1, v2, v3⟩ := hv.1 (.inr hm)
          refine ⟨v0, v1, fun h => ?_, v3⟩
          rcases List.mem_append.1 h with h | h
          · exact v2 h
          · simp only [List.mem_singleton] at h; subst h; exact hnd.1 hm
        · rintro ⟨v0, v1, v2, v3⟩
          rw [List.mem_append, List.mem_singleton, not_or] at v2
          exact (hv.2 ⟨v0, v1, v2.1, v3⟩).resolve_left v2.2⟩
      rw [r1]
      have hr' := i1.snoc hx
      have := hr'.length_le
      simp only [List.length_append, List.length_singleton] at this
      exact .inl ⟨(cnt', q2, out ++ [x]), ⟨hr', r2, r3, r4⟩, by simp; omega, rfl⟩
    · rw [if_neg (by simp only [decide_eq_true_eq]; omega)]
      have hq0 : qq = [] := List.eq_nil_of_length_eq_zero (by omega)
      subst hq0
      refine .inr ?_
      have := i1.ord (least_none.2 (fun u u0 u1 => by
        rw [Bool.eq_false_iff]
        intro hf
        have := (i4.mem u).2 ⟨u0, u1, (hiff u u0 u1).2 hf⟩
        simp at this))
      rw [← this]
  rw [key]
  rfl

end Go.Proofs.Ythmjgadmadlpkaa.Sim

namespace Go.Proofs.Ythmjgadmadlpkaa.Sim
open Go
set_option linter.unusedVariables false

inductive Path (ls : List api_Link) : Int → Int → Prop where
  | one {a b : Int} (h : api_Link.mk a b ∈ ls) : Path ls a b
  | more {a b c : Int} (h : api_Link.mk a b ∈ ls) (h' : Path ls b c) : Path ls a c

theorem Path.trans {ls : List api_Link} {a b c : Int} (h : Path ls a b) (h' : Path ls b c) : Path ls a c := by
  induction h with
  | one h => exact .more h h'
  | more h _ ih => exact .more h (ih h')
theorem Path.first {ls : List api_Link} {a b : Int} (h : Path ls a b) : ∃ c, api_Link.mk a c ∈ ls ∧ (c = b ∨ Path ls c b) := by
  cases h with
  | one h => exact ⟨_, h, .inl rfl⟩
  | more h h' => exact ⟨_, h, .inr h'⟩
theorem Path.range {n : Nat} {ls : List api_Link} (g : GoodG n ls) {a b : Int} (h : Path ls a b) : (0 ≤ a ∧ a < n) ∧ (0 ≤ b ∧ b < n) := by
  induction h with
  | one h => exact ⟨g.c0 _ h, g.s0 _ h⟩
  | more h _ ih => exact ⟨g.c0 _ h, ih.2⟩

theorem Run.closed {n : Nat} {ls : List api_Link} {out : List Int} (hr : Run n ls out) {a b : Int} (h : Path ls a b) (ha : a ∈ out) : b ∈ out := by
  induction h with
  | one h => exact hr.facts.2.2 _ h ha
  | more h _ ih => exact ih (hr.facts.2.2 _ h ha)

theorem Run.acyclic {n : Nat} {ls : List api_Link} {out : List Int} (hr : Run n ls out) : ∀ a ∈ out, ¬ Path ls a a := by
  induction hr with
  | nil => simp
  | @snoc out v h hv ih =>
    intro a ha hp
    rcases List.mem_append.1 ha with ha | ha
    · exact ih a ha hp
    · simp only [List.mem_singleton] at ha
      subst ha
      obtain ⟨_, _, hf, _⟩ := least_some hv
      obtain ⟨h1, h2⟩ := free_iff.1 hf
      obtain ⟨c, hc, h3⟩ := hp.first
      have hco := h2 _ hc rfl
      rcases h3 with rfl | h3
      · exact h1 hco
      · exact h1 (h.closed h3 hco)

/-- A walk that never leaves n numbers comes back. -/
theorem walk_back {n : Nat} (w : Nat → Int) (h : ∀ i, 0 ≤ w i ∧ w i < n) : ∃ i j, i < j ∧ j ≤ n ∧ w i = w j := by
  refine Classical.byContradiction fun hno => ?_
  have hnd : ((List.range (n + 1)).map w).Nodup := by
    rw [List.nodup_iff_pairwise_ne, List.pairwise_map]
    refine List.Pairwise.imp_of_mem ?_ List.pairwise_lt_range
    intro i j hi hj hij e
    exact hno ⟨i, j, hij, by have := List.mem_range.1 hj; omega, e⟩
  have := nodup_le hnd (s := below n) (fun x hx => by
    obtain ⟨i, _, rfl⟩ := List.mem_map.1 hx
    exact mem_below.2 (h i))
  rw [below_length, List.length_map, List.length_range] at this
  omega

theorem ord_short {n : Nat} {ls : List api_Link} (g : GoodG n ls) (h : (ord n ls).length < n) : ∃ u : Int, 0 ≤ u ∧ u < n ∧ u ∉ ord n ls := by
  refine Classical.byContradiction fun hno => ?_
  have := nodup_le (below_nodup n) (s := ord n ls) (fun x hx => Classical.byContradiction fun hx' => hno ⟨x, (mem_below.1 hx).1, (mem_below.1 hx).2, hx'⟩)
  rw [below_length] at this
  omega
theorem ord_full {n : Nat} {ls : List api_Link} (h : ¬ (ord n ls).length < n) {v : Int} (h0 : 0 ≤ v) (h1 : v < n) : v ∈ ord n ls := by
  refine Classical.byContradiction fun hv => ?_
  have hr := (ord_run n ls).1.facts
  have := nodup_le (l := v :: ord n ls) (s := below n) (List.nodup_cons.2 ⟨hv, hr.1⟩) (fun x hx => by
    rcases List.mem_cons.1 hx with rfl | hx
    · exact mem_below.2 ⟨h0, h1⟩
    · exact mem_below.2 (hr.2.1 x hx))
  rw [below_length, List.length_cons] at this
  omega

/-- A node outside the order has a supplier outside the order. -/
theorem ord_stuck {n : Nat} {ls : List api_Link} (g : GoodG n ls) {u : Int} (h0 : 0 ≤ u) (h1 : u < n) (hu : u ∉ ord n ls) : ∃ s, api_Link.mk u s ∈ ls ∧ s ∉ ord n ls := by
  have hn := least_none.1 (ord_run n ls).2 u h0 h1
  refine Classical.byContradiction fun hno => ?_
  have : free ls (ord n ls) u = true := free_iff.2 ⟨hu, fun l hl hc => Classical.byContradiction fun hs => hno ⟨l.Supplier, by subst hc; exact hl, hs⟩⟩
  rw [this] at hn; cases hn

theorem ord_cyclic {n : Nat} {ls : List api_Link} (g : GoodG n ls) (h : (ord n ls).length < n) : ∃ i : Int, 0 ≤ i ∧ i < n ∧ Path ls i i := by
  obtain ⟨u, u0, u1, hu⟩ := ord_short g h
  let R := { v : Int // 0 ≤ v ∧ v < n ∧ v ∉ ord n ls }
  have nx : ∀ v : R, ∃ s : R, api_Link.mk v.1 s.1 ∈ ls := fun v => by
    obtain ⟨s, h1, h2⟩ := ord_stuck g v.2.1 v.2.2.1 v.2.2.2
    have := g.s0 _ h1
    exact ⟨⟨s, this.1, this.2, h2⟩, h1⟩
  let f : R → R := fun v => (nx v).choose
  have hf : ∀ v : R, api_Link.mk v.1 (f v).1 ∈ ls := fun v => (nx v).choose_spec
  let w : Nat → R := fun i => Nat.rec ⟨u, u0, u1, hu⟩ (fun _ v => f v) i
  have hw : ∀ i, api_Link.mk (w i).1 (w (i + 1)).1 ∈ ls := fun i => hf (w i)
  obtain ⟨i, j, hij, _, e⟩ := walk_back (n := n) (fun i => (w i).1) (fun i => ⟨(w i).2.1, (w i).2.2.1⟩)
  have hp : ∀ d, Path ls (w i).1 (w (i + d + 1)).1 := by
    intro d
    induction d with
    | zero => exact .one (hw i)
    | succ d ih => exact ih.trans (.one (hw (i + d + 1)))
  have := hp (j - i - 1)
  rw [show i + (j - i - 1) + 1 = j from by omega] at this
  refine ⟨(w i).1, (w i).2.1, (w i).2.2.1, ?_⟩
  rw [← e] at this
  exact this

/-! ### Check, Order -/

def ccode (p : Int) (ls : List api_Link) : Int := if vcode p ls = 0 then (if (ord p.toNat ls).length < p.toNat then 18 else 0) else vcode p ls

theorem ccode_good {n : Nat} {ls : List api_Link} (g : GoodG n ls) : ccode (n : Int) ls = if (ord n ls).length < n then 18 else 0 := by
  unfold ccode; rw [if_pos (good_vcode g)]; rfl

theorem check_ok (p : Int) (ls : List api_Link) (h : ls.length ≤ maxLen) : depgraph_Check.f p ls = some (ccode p ls) := by
  unfold depgraph_Check.f
  rw [validate_ok p ls h]
  simp only [Option.bind_some]
  by_cases hv : vcode p ls = 0
  · obtain ⟨n, rfl, g⟩ := vcode_good hv
    rw [if_neg (by simp [hv]), ccode_good g, sort_ok g]
    simp only [Option.bind_some]
    by_cases hc : (ord n ls).length < n
    · rw [if_pos (by simp; omega), if_pos hc]
    · rw [if_neg (by simp; omega), if_neg hc]
  · rw [if_pos (by simpa using hv)]
    unfold ccode; rw [if_neg hv]

def ores (p : Int) (ls : List api_Link) : List Int × Int := if ccode p ls = 0 then (ord p.toNat ls, 0) else ([], ccode p ls)

theorem order_ok (p : Int) (ls : List api_Link) (h : ls.length ≤ maxLen) : depgraph_Order.f p ls = some (ores p ls) := by
  unfold depgraph_Order.f
  rw [validate_ok p ls h]
  simp only [Option.bind_some]
  by_cases hv : vcode p ls = 0
  · obtain ⟨n, rfl, g⟩ := vcode_good hv
    unfold ores
    rw [if_neg (by simp [hv]), ccode_good g, sort_ok g]
    simp only [Option.bind_some]
    by_cases hc : (ord n ls).length < n
    · rw [if_pos (by simp; omega), if_pos hc, if_neg (by decide)]
    · rw [if_neg (by simp; omega), if_neg hc, if_pos rfl]; rfl
  · rw [if_pos (by simpa using hv)]
    unfold ores ccode; rw [if_neg hv, if_neg hv]

theorem ores_len (p : Int) (ls : List api_Link) : (ores p ls).1.length ≤ maxLen := by
  unfold ores
  split
  · rename_i hv
    have hv2 : vcode p ls = 0 := by
      unfold ccode at hv
      split at hv
      · assumption
      · exact hv
    obtain ⟨n, rfl, g⟩ := vcode_good hv2
    have := ord_le n ls
    have := g.n128
    rw [maxLen_eq]; simp only [Int.toNat_natCast]; omega
  · simp

end Go.Proofs.Ythmjgadmadlpkaa.Sim

namespace Go.Proofs.Ythmjgadmadlpkaa.Sim
open Go
set_option linter.unusedVariables false
set_option maxRecDepth 100000

/-- The first number below n with P, or -1. -/
def fst (n : Nat) (P : Int → Bool) : Int := ((below n).find? P).getD (-1)
theorem fst_none {n : Nat} {P : Int → Bool} (h : ∀ u : Int, 0 ≤ u → u < n → P u = false) : fst n P = -1 := by
  unfold fst
  have : (below n).find? P = none := List.find?_eq_none.2 fun x hx => by have := mem_below.1 hx; simp [h x this.1 this.2]
  rw [this]; rfl
theorem fst_some {n : Nat} {P : Int → Bool} {v : Int} (h0 : 0 ≤ v) (h1 : v < n) (h2 : P v = true) (h3 : ∀ u, 0 ≤ u → u < v → P u = false) : fst n P = v := by
  unfold fst
  rcases find_below P n with ⟨h, _⟩ | ⟨u, a, b, c, d, e⟩
  · rw [h v h0 h1] at h2; cases h2
  · rw [e]
    rcases Int.lt_trichotomy u v with x | x | x
    · rw [h3 u a x] at c; cases c
    · rw [x]; rfl
    · rw [d v h0 x] at h2; cases h2
theorem fst_spec {n : Nat} {P : Int → Bool} : (fst n P = -1 ∧ ∀ u : Int, 0 ≤ u → u < n → P u = false) ∨ (0 ≤ fst n P ∧ fst n P < n ∧ P (fst n P) = true ∧ ∀ u : Int, 0 ≤ u → u < fst n P → P u = false) := by
  unfold fst
  rcases find_below P n with ⟨h, e⟩ | ⟨u, a, b, c, d, e⟩
  · left; rw [e]; exact ⟨rfl, h⟩
  · right; rw [e]; exact ⟨a, b, c, d⟩
theorem fst_congr {n : Nat} {P Q : Int → Bool} (h : ∀ u : Int, 0 ≤ u → u < n → P u = Q u) : fst n P = fst n Q := by
  rcases fst_spec (n := n) (P := P) with ⟨e, a⟩ | ⟨a, b, c, d⟩
  · rw [e, fst_none fun u u0 u1 => by rw [← h u u0 u1]; exact a u u0 u1]
  · exact (fst_some a b (by rw [← h _ a b]; exact c) fun u u0 u1 => by rw [← h u u0 (by omega)]; exact d u u0 u1).symm

/-- A loop that looks for the first index with P. -/
theorem find_ok {ρ : Type} {L : Nat → Int → Option (Fl ρ Unit)} (n : Nat) (P : Int → Bool) (v : Int → ρ) (hn : n ≤ 9223372036854775807)
    (hL : ∀ k (i : Nat), i < n → L (k + 1) (i : Int) = if P i = true then some (.out (v i)) else L k ((i + 1 : Nat) : Int)) (hE : ∀ k, L (k + 1) (n : Int) = some (.nxt ())) :
    L FUEL 0 = some (if 0 ≤ fst n P then .out (v (fst n P)) else .nxt ()) := by
  refine loop_c (L := fun k (_ : Unit) i => L k i) n (fun i _ => ∀ u : Int, 0 ≤ u → u < i → P u = false) (fun o => o = some (if 0 ≤ fst n P then .out (v (fst n P)) else .nxt ())) ?_ ?_ FUEL 0 () (Nat.zero_le _) (FUEL_pos (by omega)) (fun u h0 h1 => by omega)
  · intro k s i hi hI
    rw [hL k i hi]
    by_cases hp : P i = true
    · rw [if_pos hp]
      refine .inr ?_
      rw [fst_some (by omega) (by omega) hp hI, if_pos (by omega)]
    · rw [if_neg hp]
      refine .inl ⟨(), fun u h0 h1 => ?_, rfl⟩
      by_cases e : u = i
      · subst e; simpa using hp
      · exact hI u h0 (by omega)
  · intro k s hI
    rw [hE, fst_none hI]; rfl

theorem index_ok' {xs : List Bool} {f : Int → Bool} (hl : xs.length ≤ 1000000) (h : ∀ i : Int, 0 ≤ i → i < xs.length → idx xs i = some (f i)) : slices_Index_bool_bool.f xs false = some (fst xs.length (fun i => !f i)) := by
  unfold slices_Index_bool_bool.f
  rw [find_ok (L := slices_Index_bool_bool.l0 xs false) xs.length (fun i => !f i) (fun i => i) (by omega) (fun k i hi => by
    rw [slices_Index_bool_bool.l0, if_pos (by simp; omega), h i (by omega) (by omega), Option.bind_some, wi_succ (by omega)]
    cases f i <;> rfl) (fun k => by rw [slices_Index_bool_bool.l0, if_neg (by simp)]), Option.bind_some]
  rcases fst_spec (n := xs.length) (P := fun i => !f i) with ⟨e, _⟩ | ⟨a, _⟩
  · rw [e]; rfl
  · rw [if_pos a]; rfl

theorem worker_ok {s : resume_scheduler} {f : Int → Int} (hl : s.free.length ≤ 1000000) (h : ∀ i : Int, 0 ≤ i → i < s.free.length → idx s.free i = some (f i)) : resume_scheduler_worker.f s = some (fst s.free.length (fun i => decide (f i ≤ s.now))) := by
  unfold resume_scheduler_worker.f slices_IndexFunc_uint64_uint64_worker_1.f
  rw [find_ok (L := slices_IndexFunc_uint64_uint64_worker_1.l0 s.free s) s.free.length (fun i => decide (f i ≤ s.now)) (fun i => i) (by omega) (fun k i hi => by
    rw [slices_IndexFunc_uint64_uint64_worker_1.l0, if_pos (by simp; omega), h i (by omega) (by omega), Option.bind_some, wi_succ (by omega)]
    unfold resume_scheduler_worker_1.f; rw [Option.bind_some]) (fun k => by rw [slices_IndexFunc_uint64_uint64_worker_1.l0, if_neg (by simp)]), Option.bind_some]
  rcases fst_spec (n := s.free.length) (P := fun i => decide (f i ≤ s.now)) with ⟨e, _⟩ | ⟨a, _⟩
  · rw [e]; rfl
  · rw [if_pos a]; rfl

theorem min_ok {xs : List Int} (hl : xs.length ≤ 1000000) (h0 : xs ≠ []) : ∃ m, slices_Min_uint64_uint64.f xs = some m ∧ m ∈ xs ∧ ∀ x ∈ xs, m ≤ x := by
  have hp : 0 < xs.length := List.length_pos_iff.2 h0
  unfold slices_Min_uint64_uint64.f
  rw [if_neg (by simp; omega), show (0 : Int) = ((0 : Nat) : Int) from rfl, idx_get hp, Option.bind_some]
  have key : ∃ m, slices_Min_uint64_uint64.l0 xs FUEL xs[0] ((1 : Nat) : Int) = some m ∧ m ∈ xs ∧ ∀ x ∈ xs, m ≤ x := by
    refine loop_c (L := fun k (s : Int) i => slices_Min_uint64_uint64.l0 xs k s i) xs.length (fun i s => s ∈ xs ∧ ∀ x ∈ xs.take i, s ≤ x) (fun o => ∃ m, o = some m ∧ m ∈ xs ∧ ∀ x ∈ xs, m ≤ x) ?_ ?_ FUEL 1 xs[0] (by omega) (FUEL_pos (by omega)) ⟨List.getElem_mem hp, fun x hx => ?_⟩
    · intro k s i hi hI
      obtain ⟨h1, h2⟩ := hI
      rw [slices_Min_uint64_uint64.l0, if_pos (by simp; omega), idx_get hi, Option.bind_some]
      refine .inl ⟨min s xs[i], ⟨?_, fun x hx => ?_⟩, by rw [wi_succ (by omega)]⟩
      · rcases Int.le_total s xs[i] with h | h
        · rw [Int.min_eq_left h]; exact h1
        · rw [Int.min_eq_right h]; exact List.getElem_mem hi
      · rw [List.take_succ_eq_append_getElem hi] at hx
        rcases List.mem_append.1 hx with h | h
        · have := h2 x h; omega
        · simp only [List.mem_singleton] at h; subst h; omega
    · intro k s hI
      rw [slices_Min_uint64_uint64.l0, if_neg (by simp)]
      rw [List.take_length] at hI
      exact ⟨s, rfl, hI.1, hI.2⟩
    · have : xs.take 1 = [xs[0]] := by rw [List.take_succ_eq_append_getElem hp]; simp
      rw [this] at hx
      simp only [List.mem_singleton] at hx; subst hx; exact Int.le_refl _
  obtain ⟨m, e1, e2⟩ := key
  exact ⟨m, by rw [show (1 : Int) = ((1 : Nat) : Int) from rfl, e1]; rfl, e2⟩

end Go.Proofs.Ythmjgadmadlpkaa.Sim

namespace Go.Proofs.Ythmjgadmadlpkaa.Sim
open Go
set_option linter.unusedVariables false
set_option maxRecDepth 100000

def RepV {α : Type} (n : Nat) (l : List α) (c : Int → α) : Prop := l.length = n ∧ ∀ i : Int, 0 ≤ i → i < n → idx l i = some (c i)
def fset {α : Type} (f : Int → α) (k : Int) (v : α) : Int → α := fun i => if i = k then v else f i
theorem fset_self {α : Type} (f : Int → α) (k : Int) (v : α) : fset f k v k = v := by simp [fset]
theorem fset_ne {α : Type} (f : Int → α) {k i : Int} (v : α) (h : i ≠ k) : fset f k v i = f i := by simp [fset, h]
theorem RepV.set {α : Type} {n : Nat} {l : List α} {c : Int → α} (h : RepV n l c) {k : Int} (h0 : 0 ≤ k) (v : α) : RepV n (upd l k v) (fset c k v) := by
  refine ⟨by rw [upd_length]; exact h.1, fun i i0 i1 => ?_⟩
  rw [idx_upd_some h0 (h.2 i i0 i1)]
  unfold fset
  by_cases e : k = i
  · subst e; simp
  · simp [e, Ne.symm e]
theorem RepV.rep {α : Type} (n : Nat) (x : α) : RepV n (List.replicate n x) (fun _ => x) := ⟨by simp, fun i h0 h1 => idx_replicate h0 h1⟩
theorem RepV.congr {α : Type} {n : Nat} {l : List α} {c d : Int → α} (h : RepV n l c) (e : ∀ i : Int, 0 ≤ i → i < n → c i = d i) : RepV n l d := ⟨h.1, fun i i0 i1 => by rw [h.2 i i0 i1, e i i0 i1]⟩

/-- What has begun, the slots, when each worker is free, the time. -/
structure Ms where
  b : Int → Bool
  s : Int → api_Slot
  f : Int → Int
  t : Int
def over (m : Ms) (k : Int) : Bool := m.b k && decide ((m.s k).End ≤ m.t)
def rdy (ls : List api_Link) (m : Ms) (d : Int) : Bool := !m.b d && ls.all (fun l => !(l.Consumer == d) || over m l.Supplier)
def nextD (n : Nat) (ls : List api_Link) (m : Ms) : Int := fst n (rdy ls m)
def nextW (w : Nat) (m : Ms) : Int := fst w (fun i => decide (m.f i ≤ m.t))
structure RI (n w : Nat) (ls : List api_Link) (a : resume_scheduler) (m : Ms) : Prop where
  l : a.links = ls
  b : RepV n a.begun m.b
  s : RepV n a.slot m.s
  f : RepV w a.free m.f
  t : a.now = m.t

section
variable {n w : Nat} {ls : List api_Link} {a : resume_scheduler} {m : Ms}

theorem ready_ok (g : GoodG n ls) (h : RI n w ls a m) : resume_scheduler_ready.f a = some (nextD n ls m) := by
  have hn := g.n128
  have hll := g.len
  unfold resume_scheduler_ready.f slices_Clone_bool_bool.f
  rw [app_ok (by simp; have := h.b.1; omega), Option.bind_some, Option.bind_some, List.nil_append]
  have key : ∃ bl, resume_scheduler_ready.l0 a FUEL a.begun 0 = some bl ∧ RepV n bl (fun d => m.b d || ls.any (fun l => (l.Consumer == d) && !over m l.Supplier)) := by
    refine loop_c (L := fun k (s : List Bool) i => resume_scheduler_ready.l0 a k s i) ls.length (fun i s => RepV n s (fun d => m.b d || (ls.take i).any (fun l => (l.Consumer == d) && !over m l.Supplier)))
      (fun o => ∃ bl, o = some bl ∧ RepV n bl (fun d => m.b d || ls.any (fun l => (l.Consumer == d) && !over m l.Supplier))) ?_ ?_ FUEL 0 a.begun (Nat.zero_le _) (FUEL_pos (by omega)) (h.b.congr fun i _ _ => by simp)
    · intro k s i hi hI
      have hc := g.c0 _ (List.getElem_mem hi)
      have hs := g.s0 _ (List.getElem_mem hi)
      rw [resume_scheduler_ready.l0, h.l, if_pos (by simp; omega), idx_get hi, Option.bind_some, h.b.2 _ hs.1 hs.2, Option.bind_some]
      have e1 : (if (!m.b ls[i].Supplier) = true then some true else (idx a.slot ls[i].Supplier).bind fun x64 => some (decide (a.now < x64.End))) = some (!over m ls[i].Supplier) := by
        rw [h.s.2 _ hs.1 hs.2, h.t]
        unfold over
        cases m.b ls[i].Supplier
        · rfl
        · simp
          by_cases q : m.t < (m.s ls[i].Supplier).End <;> simp [q] <;> omega
      rw [e1, Option.bind_some]
      have hstep : ∀ d, (m.b d || (ls.take (i + 1)).any (fun l => (l.Consumer == d) && !over m l.Supplier)) = ((m.b d || (ls.take i).any (fun l => (l.Consumer == d) && !over m l.Supplier)) || ((ls[i].Consumer == d) && !over m ls[i].Supplier)) := fun d => by
        rw [List.take_succ_eq_append_getElem hi, List.any_append]; simp [Bool.or_assoc]
      by_cases q : (!over m ls[i].Supplier) = true
      · rw [if_pos q, hI.2 _ hc.1 hc.2, Option.bind_some, Option.bind_some]
        refine .inl ⟨upd s ls[i].Consumer true, ?_, by rw [wi_succ (by omega)]⟩
        refine (hI.set hc.1 true).congr fun d d0 d1 => ?_
        rw [hstep d, q]
        unfold fset
        by_cases e : d = ls[i].Consumer
        · simp [e]
        · simp [e, Ne.symm e]
      · rw [if_neg q, Option.bind_some]
        refine .inl ⟨s, hI.congr fun d d0 d1 => ?_, by rw [wi_succ (by omega)]⟩
        rw [hstep d]
        simp only [Bool.not_eq_true] at q
        rw [q]; simp
    · intro k s hI
      rw [resume_scheduler_ready.l0, h.l, if_neg (by simp)]
      rw [List.take_length] at hI
      exact ⟨s, rfl, hI⟩
  obtain ⟨bl, e1, e2⟩ := key
  have hb := e2.1
  rw [e1, Option.bind_some, index_ok' (by omega) (fun i i0 i1 => e2.2 i i0 (by omega)), Option.bind_some, hb]
  unfold nextD
  congr 1
  refine fst_congr fun d d0 d1 => ?_
  unfold rdy
  rw [Bool.not_or, List.not_any_eq_all_not]
  congr 1
  congr 1
  funext l
  cases (l.Consumer == d) <;> cases over m l.Supplier <;> rfl

theorem delete_ok {xs : List Int} {s : resume_scheduler} (hl : xs.length ≤ 1000000) : slices_DeleteFunc_uint64_uint64_advance_1.f xs s = some (xs.filter (fun x => !decide (x ≤ s.now))) := by
  unfold slices_DeleteFunc_uint64_uint64_advance_1.f slices_IndexFunc_uint64_uint64_advance_1.f
  have hf : ∀ i : Int, 0 ≤ i → i < xs.length → idx xs i = some (xs.getD i.toNat 0) := fun i i0 i1 => by
    obtain ⟨k, rfl⟩ := Int.eq_ofNat_of_zero_le i0
    have : k < xs.length := by omega
    rw [idx_get this]; simp [this]
  rw [find_ok (L := slices_IndexFunc_uint64_uint64_advance_1.l0 xs s) xs.length (fun i => decide (xs.getD i.toNat 0 ≤ s.now)) (fun i => i) (by omega) (fun k i hi => by
    rw [slices_IndexFunc_uint64_uint64_advance_1.l0, if_pos (by simp; omega), hf i (by omega) (by omega), Option.bind_some, wi_succ (by omega)]
    unfold resume_scheduler_advance_1.f; rw [Option.bind_some]) (fun k => by rw [slices_IndexFunc_uint64_uint64_advance_1.l0, if_neg (by simp)]), Option.bind_some]
  rcases fst_spec (n := xs.length) (P := fun i => decide (xs.getD i.toNat 0 ≤ s.now)) with ⟨e, hno⟩ | ⟨i0, i1, hat, hlo⟩
  · rw [e]
    have : xs.filter (fun x => !decide (x ≤ s.now)) = xs := List.filter_eq_self.2 fun x hx => by
      obtain ⟨k, hk, rfl⟩ := List.getElem_of_mem hx
      have := hno k (by omega) (by omega)
      simp [hk] at this
      simp; omega
    rw [this]; rfl
  · generalize fst xs.length (fun i => decide (xs.getD i.toNat 0 ≤ s.now)) = i at *
    obtain ⟨i, rfl⟩ := Int.eq_ofNat_of_zero_le i0
    rw [if_pos (by omega)]
    simp only [Fl.go, Option.bind_some]
    have hpre : ∀ k, k ≤ i → (xs.take k).filter (fun x => !decide (x ≤ s.now)) = xs.take k := fun k hk => List.filter_eq_self.2 fun x hx => by
      obtain ⟨q, hq, rfl⟩ := List.getElem_of_mem hx
      simp only [List.length_take] at hq
      have := hlo q (by omega) (by omega)
      have hq2 : q < xs.length := by omega
      simp [hq2] at this
      simp <;> omega
    rw [if_neg (by simp)]
    have key : ∃ zs k, slices_DeleteFunc_uint64_uint64_advance_1.l0 s FUEL xs (i : Int) ((i + 1 : Nat) : Int) = some (zs, ((k : Nat) : Int)) ∧ zs.length = xs.length ∧ k ≤ xs.length ∧ zs.take k = xs.filter (fun x => !decide (x ≤ s.now)) := by
      refine loop_c (L := fun fu (z : List Int × Nat) j => slices_DeleteFunc_uint64_uint64_advance_1.l0 s fu z.1 (z.2 : Int) j) xs.length
        (fun j z => z.1.length = xs.length ∧ z.2 < j ∧ z.1.take z.2 = (xs.take j).filter (fun x => !decide (x ≤ s.now)) ∧ z.1.drop j = xs.drop j)
        (fun o => ∃ zs k, o = some (zs, ((k : Nat) : Int)) ∧ zs.length = xs.length ∧ k ≤ xs.length ∧ zs.take k = xs.filter (fun x => !decide (x ≤ s.now))) ?_ ?_ FUEL (i + 1) (xs, i) (by omega) (FUEL_pos (by omega)) ⟨rfl, Nat.lt_succ_self _, ?_, rfl⟩
      · rintro fu ⟨z, q⟩ j hj ⟨h1, h2, h3, h4⟩
        simp only at h1 h2 h3 h4 ⊢
        have hz : z[j]'(by omega) = xs[j] := by
          have := congrArg (fun l => l[0]?) h4
          simp [List.getElem?_drop, hj, h1] at this
          exact this
        have hd : z.drop (j + 1) = xs.drop (j + 1) := by
          have := congrArg (fun l => l.drop 1) h4
          simpa [List.drop_drop] using this
        rw [slices_DeleteFunc_uint64_uint64_advance_1.l0, if_pos (by simp; omega), idx_get (by omega : j < z.length), Option.bind_some]
        unfold resume_scheduler_advance_1.f
        rw [Option.bind_some, hz]
        by_cases c : xs[j] ≤ s.now
        · rw [if_neg (by simp [c]), Option.bind_some]
          refine .inl ⟨(z, q), ⟨h1, by omega, ?_, hd⟩, by rw [wi_succ (by omega)]⟩
          rw [List.take_succ_eq_append_getElem hj, List.filter_append, h3]; simp [c]
        · rw [if_pos (by simp [c]), idx_get (by omega : q < z.length), Option.bind_some, Option.bind_some]
          refine .inl ⟨(upd z (q : Int) xs[j], q + 1), ⟨by rw [upd_length]; exact h1, by omega, ?_, ?_⟩, by simp only; rw [wi_succ (by omega), wi_succ (by omega)]⟩
          · rw [List.take_succ_eq_append_getElem hj, List.filter_append, ← h3]
            have hq : q < z.length := by omega
            simp only [upd, Int.toNat_natCast]
            rw [List.take_succ_eq_append_getElem (by simp; omega), List.getElem_set_self, List.take_set_of_le (Nat.le_refl _)]
            simp [c]
          · simp only [upd, Int.toNat_natCast]
            rw [List.drop_set_of_lt (by omega)]; exact hd
      · rintro fu ⟨z, q⟩ ⟨h1, h2, h3, h4⟩
        simp only at h1 h2 h3 h4 ⊢
        rw [slices_DeleteFunc_uint64_uint64_advance_1.l0, h1, if_neg (by simp)]
        rw [List.take_length] at h3
        exact ⟨z, q, rfl, h1, by omega, h3⟩
      · have hii : i < xs.length := by omega
        have hat' : xs[i] ≤ s.now := by simpa [hii] using hat
        simp only
        rw [List.take_succ_eq_append_getElem hii, List.filter_append, hpre i (Nat.le_refl _)]
        simp [hat']
    rw [wi_succ (by omega)]
    obtain ⟨zs, k, e1, e2, e3, e4⟩ := key
    rw [e1, Option.bind_some]
    simp only
    rw [slc_back (by omega), Option.bind_some]
    have hcl : (clr zs (k : Int) 0).length = zs.length := clr_length (by omega)
    rw [slc_front (by omega), Option.bind_some]
    congr 1
    rw [← e4]
    unfold clr
    rw [List.take_append_of_le_length (by simp; omega)]
    simp only [Int.toNat_natCast]
    rw [List.take_take, Nat.min_self]
end
end Go.Proofs.Ythmjgadmadlpkaa.Sim

namespace Go.Proofs.Ythmjgadmadlpkaa.Sim
open Go
set_option linter.unusedVariables false
set_option maxRecDepth 100000

def lowest (l : List Int) : Option Int := l.find? (fun m => l.all (fun x => decide (m ≤ x)))
theorem lowest_of {l : List Int} {m : Int} (h : m ∈ l) (h2 : ∀ x ∈ l, m ≤ x) : lowest l = some m := by
  unfold lowest
  rcases hf : l.find? (fun m => l.all (fun x => decide (m ≤ x))) with _ | y
  · have := List.find?_eq_none.1 hf m h
    simp at this
    obtain ⟨x, hx, hlt⟩ := this
    have := h2 x hx; omega
  · have h3 := List.find?_some hf
    have h4 := List.mem_of_find?_eq_some hf
    simp only [List.all_eq_true, decide_eq_true_eq] at h3
    have a := h3 m h
    have b := h2 y h4
    rw [show y = m by omega]
theorem RepV.eq {α : Type} {n : Nat} {l : List α} {c : Int → α} (h : RepV n l c) : l = (below n).map c := by
  apply List.ext_getElem
  · simp [below_length, h.1]
  · intro i h1 h2
    have := h.2 i (by omega) (by have := h.1; omega)
    rw [idx_get h1] at this
    have e : (below n)[i]'(by rw [below_length]; have := h.1; omega) = (i : Int) := by simp [below]
    rw [List.getElem_map, e]
    exact Option.some.inj this

def running (w : Nat) (m : Ms) : List Int := ((below w).map m.f).filter (fun x => !decide (x ≤ m.t))
def place (du : Int → Int) (m : Ms) (d k : Int) : Ms := ⟨fset m.b d true, fset m.s d (api_Slot.mk d k m.t (m.t + du d)), fset m.f k (m.t + du d), m.t⟩
def nxt (n w : Nat) (ls : List api_Link) (du : Int → Int) (z : Ms × List api_Slot) : Option (Ms × List api_Slot) :=
  if 0 ≤ nextD n ls z.1 ∧ 0 ≤ nextW w z.1 then some (place du z.1 (nextD n ls z.1) (nextW w z.1), z.2 ++ [api_Slot.mk (nextD n ls z.1) (nextW w z.1) z.1.t (z.1.t + du (nextD n ls z.1))])
  else match lowest (running w z.1) with
    | none => none
    | some t => some (⟨z.1.b, z.1.s, z.1.f, t⟩, z.2)
def it (n w : Nat) (ls : List api_Link) (du : Int → Int) : Nat → Ms × List api_Slot → Ms × List api_Slot
  | 0, z => z
  | k + 1, z => match nxt n w ls du z with
    | none => z
    | some z' => it n w ls du k z'
theorem it_same {n w : Nat} {ls : List api_Link} {du : Int → Int} : ∀ (j k : Nat) (z : Ms × List api_Slot), nxt n w ls du (it n w ls du j z) = none → nxt n w ls du (it n w ls du k z) = none → it n w ls du j z = it n w ls du k z
  | 0, 0, z, _, _ => rfl
  | 0, k + 1, z, h, _ => by simp only [it] at h ⊢; rw [h]
  | j + 1, 0, z, _, h => by simp only [it] at h ⊢; rw [h]
  | j + 1, k + 1, z, h1, h2 => by
    rw [it] at h1 ⊢
    rw [it] at h2 ⊢
    cases hz : nxt n w ls du z with
    | none => rfl
    | some z' =>
      rw [hz] at h1 h2
      exact it_same j k z' h1 h2

theorem advance_ok {n w : Nat} {ls : List api_Link} {a : resume_scheduler} {m : Ms} (h : RI n w ls a m) (hw : w ≤ 1000) :
    resume_scheduler_advance.f a = some (match lowest (running w m) with | none => (a, false) | some t => (resume_scheduler.mk a.links a.slot a.begun a.free t, true)) := by
  have hl := h.f.1
  have he := h.f.eq
  unfold resume_scheduler_advance.f slices_Clone_uint64_uint64.f
  rw [app_ok (by simp; omega), Option.bind_some, Option.bind_some, List.nil_append, delete_ok (by omega), Option.bind_some]
  have hr : a.free.filter (fun x => !decide (x ≤ a.now)) = running w m := by rw [he, h.t]; rfl
  rw [hr]
  by_cases h0 : running w m = []
  · rw [h0]; rfl
  · rw [if_neg (by simp; exact h0)]
    have hrl : (running w m).length ≤ 1000000 := by rw [← hr]; exact Nat.le_trans (List.length_filter_le _ _) (by omega)
    obtain ⟨t, e1, e2, e3⟩ := min_ok hrl h0
    rw [e1, lowest_of e2 e3]; rfl
end Go.Proofs.Ythmjgadmadlpkaa.Sim

namespace Go.Proofs.Ythmjgadmadlpkaa.Sim
open Go
set_option linter.unusedVariables false
set_option maxRecDepth 100000

theorem it_succ {n w : Nat} {ls : List api_Link} {du : Int → Int} : ∀ (k : Nat) (z z' : Ms × List api_Slot), nxt n w ls du (it n w ls du k z) = some z' → it n w ls du (k + 1) z = z'
  | 0, z, z', h => by simp only [it] at h; rw [it, h]; rfl
  | k + 1, z, z', h => by
    rw [it] at h ⊢
    cases hz : nxt n w ls du z with
    | none => rw [hz] at h; simp only at h; rw [hz] at h; cases h
    | some y => rw [hz] at h; exact it_succ k y z' h

theorem count_upd {l : List Bool} {k : Int} (h : idx l k = some false) : (upd l k true).count false + 1 = l.count false := by
  obtain ⟨i, rfl⟩ := Int.eq_ofNat_of_zero_le (idx_lo h)
  have hi : i < l.length := by have := idx_hi h; omega
  rw [idx_get hi] at h
  have hv : l[i] = false := Option.some.inj h
  unfold upd
  simp only [Int.toNat_natCast]
  rw [List.count_set hi, hv]
  have : 0 < l.count false := List.count_pos_iff.2 (hv ▸ List.getElem_mem hi)
  simp; omega

/-- What the program's state tells of the machine's after some steps. -/
structure Go1 (n w : Nat) (ls : List api_Link) (du : Int → Int) (z0 : Ms × List api_Slot) (s : resume_scheduler × List api_Slot) (m : Ms) (j : Nat) : Prop where
  r : RI n w ls s.1 m
  it : it n w ls du j z0 = (m, s.2)
  c : s.2.length + s.1.begun.count false = n
  t : 0 ≤ m.t ∧ m.t ≤ s.2.length * 9007199254740992
  f : ∀ i, 0 ≤ m.f i ∧ m.f i ≤ s.2.length * 9007199254740992

theorem filter_set_le {α : Type} (p : α → Bool) (x : α) (l : List α) : ∀ (i : Nat), ((l.set i x).filter p).length ≤ (l.filter p).length + 1 := by
  induction l with
  | nil => intro i; simp
  | cons a t ih =>
    intro i
    cases i with
    | zero =>
      rw [List.set_cons_zero, List.filter_cons, List.filter_cons]
      by_cases h1 : p x = true <;> by_cases h2 : p a = true <;> simp [h1, h2] <;> omega
    | succ i =>
      have := ih i
      rw [List.set_cons_succ, List.filter_cons, List.filter_cons]
      by_cases h2 : p a = true <;> simp [h2] <;> omega
theorem lowest_spec {l : List Int} {m : Int} (h : lowest l = some m) : m ∈ l ∧ ∀ x ∈ l, m ≤ x := by
  unfold lowest at h
  refine ⟨List.mem_of_find?_eq_some h, ?_⟩
  have := List.find?_some h
  simpa using this
theorem worker_ok' {n w : Nat} {ls : List api_Link} {a : resume_scheduler} {m : Ms} (h : RI n w ls a m) (hw : w ≤ 1000) : resume_scheduler_worker.f a = some (nextW w m) := by
  have hl := h.f.1
  rw [worker_ok (s := a) (f := m.f) (by omega) (fun i i0 i1 => h.f.2 i i0 (by omega)), hl, h.t]; rfl

theorem sched_ok {n w : Nat} {ls : List api_Link} (g : GoodG n ls) {dl : List Int} {du : Int → Int} (hd : RepV n dl du) (hdu : ∀ i, 0 ≤ du i ∧ du i ≤ 9007199254740992) (hw : w ≤ 16) {z0 : Ms × List api_Slot} {a0 : resume_scheduler} {m0 : Ms}
    (h0 : Go1 n w ls du z0 (a0, []) m0 0) : ∃ j s m, resume_Schedule.l0 dl FUEL a0 [] = some (s.2, 0) ∧ Go1 n w ls du z0 s m j ∧ nxt n w ls du (m, s.2) = none := by
  have hn := g.n128
  refine loop_m (L := fun k (s : resume_scheduler × List api_Slot) => resume_Schedule.l0 dl k s.1 s.2) (fun s => ∃ m j, Go1 n w ls du z0 s m j) (fun s => 2 * s.1.begun.count false + (s.1.free.filter (fun x => !decide (x ≤ s.1.now))).length)
    (fun o => ∃ j s m, o = some (s.2, 0) ∧ Go1 n w ls du z0 s m j ∧ nxt n w ls du (m, s.2) = none) ?_ FUEL (a0, []) ⟨m0, 0, h0⟩ ?_
  · rintro k ⟨a, out⟩ ⟨m, j, G⟩
    have hR := G.r
    have hc := G.c
    have ht := G.t
    simp only at hR hc ht ⊢
    rw [resume_Schedule.l0, ready_ok g hR, Option.bind_some, worker_ok' hR (by omega), Option.bind_some]
    by_cases hp : 0 ≤ nextD n ls m ∧ 0 ≤ nextW w m
    · have hd0 : nextD n ls m < n ∧ m.b (nextD n ls m) = false := by
        rcases fst_spec (n := n) (P := rdy ls m) with ⟨e, _⟩ | ⟨_, b, c, _⟩
        · unfold nextD at hp; omega
        · refine ⟨b, ?_⟩
          unfold rdy at c
          simp only [Bool.and_eq_true, Bool.not_eq_true'] at c
          exact c.1
      have hw0 : nextW w m < w := by
        rcases fst_spec (n := w) (P := fun i => decide (m.f i ≤ m.t)) with ⟨e, _⟩ | ⟨_, b, c, _⟩
        · unfold nextW at hp; omega
        · exact b
      have hnx : nxt n w ls du (m, out) = some (place du m (nextD n ls m) (nextW w m), out ++ [api_Slot.mk (nextD n ls m) (nextW w m) m.t (m.t + du (nextD n ls m))]) := by unfold nxt; rw [if_pos hp]
      obtain ⟨p1, p2⟩ := hp
      obtain ⟨q1, q2⟩ := hd0
      have hdd := hdu (nextD n ls m)
      have hG := G.f
      simp only at hG
      generalize nextD n ls m = d at *
      generalize nextW w m = v at *
      have hcu := count_upd (l := a.begun) (k := d) (by rw [hR.b.2 _ p1 q1, q2])
      have hwu : wu (m.t + du d) = m.t + du d := wu_id (by omega) (by omega)
      have hs' := hR.s.set p1 (api_Slot.mk d v m.t (m.t + du d))
      rw [if_pos (by simp [p1, p2]), hR.b.2 _ p1 q1, Option.bind_some, hd.2 _ p1 q1, Option.bind_some, hR.s.2 _ p1 q1, Option.bind_some, hR.t, hwu, hs'.2 _ p1 q1, Option.bind_some, hR.f.2 _ p2 hw0, Option.bind_some, fset_self, app_ok (by simp; omega), Option.bind_some]
      have hlen : ((out ++ [api_Slot.mk d v m.t (m.t + du d)]).length : Int) = out.length + 1 := by simp
      refine .inl ⟨(resume_scheduler.mk a.links (upd a.slot d (api_Slot.mk d v m.t (m.t + du d))) (upd a.begun d true) (upd a.free v (m.t + du d)) m.t, out ++ [api_Slot.mk d v m.t (m.t + du d)]), ⟨place du m d v, j + 1, ⟨⟨hR.l, hR.b.set p1 true, hs', hR.f.set p2 _, rfl⟩, it_succ _ _ _ (by rw [G.it]; exact hnx), ?_, ?_, ?_⟩⟩, ?_, rfl⟩
      · simp only [List.length_append, List.length_singleton]; omega
      · simp only; rw [hlen]; unfold place; simp only; omega
      · intro i; simp only; rw [hlen]; unfold place fset; have := hG i; simp only; split <;> omega
      · simp only
        have hle : ((upd a.free v (m.t + du d)).filter (fun x => !decide (x ≤ m.t))).length ≤ (a.free.filter (fun x => !decide (x ≤ m.t))).length + 1 := by
          exact filter_set_le _ _ _ _
        omega
    · rw [if_neg (by simpa using hp), advance_ok hR (by omega)]
      have hnx : nxt n w ls du (m, out) = match lowest (running w m) with | none => none | some t => some (⟨m.b, m.s, m.f, t⟩, out) := by unfold nxt; rw [if_neg hp] <;> rfl
      cases hlow : lowest (running w m) with
      | none =>
        rw [hlow] at hnx
        exact .inr ⟨j, (a, out), m, rfl, G, hnx⟩
      | some t =>
        rw [hlow] at hnx
        obtain ⟨hm1, hm2⟩ := lowest_spec hlow
        have he := hR.f.eq
        have hmem : t ∈ a.free.filter (fun x => !decide (x ≤ a.now)) := by rw [he, hR.t]; exact hm1
        obtain ⟨hf1, hf2⟩ := List.mem_filter.1 hmem
        have htn : a.now < t := by simpa using hf2
        have htb : 0 ≤ t ∧ t ≤ (out.length : Int) * 9007199254740992 := by
          rw [he] at hf1
          obtain ⟨i, _, rfl⟩ := List.mem_map.1 hf1
          exact G.f i
        refine .inl ⟨(resume_scheduler.mk a.links a.slot a.begun a.free t, out), ⟨⟨m.b, m.s, m.f, t⟩, j + 1, ⟨⟨hR.l, hR.b, hR.s, hR.f, rfl⟩, it_succ _ _ _ (by rw [G.it]; exact hnx), hc, htb, G.f⟩⟩, ?_, rfl⟩
        simp only
        have hlt : (a.free.filter (fun x => !decide (x ≤ t))).length < (a.free.filter (fun x => !decide (x ≤ a.now))).length := by
          have e : a.free.filter (fun x => !decide (x ≤ t)) = (a.free.filter (fun x => !decide (x ≤ a.now))).filter (fun x => !decide (x ≤ t)) := by
            rw [List.filter_filter]
            apply List.filter_congr
            intro x _
            by_cases q : x ≤ t
            · simp [q]
            · simp [q]; omega
          rw [e]
          exact List.length_filter_lt_length_iff_exists.2 ⟨t, hmem, by simp⟩
        omega
  · have h1 := h0.c
    have h2 := h0.r.f.1
    have h3 : (a0.free.filter (fun x => !decide (x ≤ a0.now))).length ≤ a0.free.length := List.length_filter_le _ _
    simp only [List.length_nil] at h1 ⊢
    simp only at h2
    exact FUEL_pos (by omega)
end Go.Proofs.Ythmjgadmadlpkaa.Sim

namespace Go.Proofs.Ythmjgadmadlpkaa.Sim
open Go
set_option linter.unusedVariables false
set_option maxRecDepth 100000

theorem fst_lt {n : Nat} {P : Int → Bool} (h : 0 ≤ fst n P) : fst n P < n ∧ P (fst n P) = true ∧ ∀ u : Int, 0 ≤ u → u < fst n P → P u = false := by
  rcases fst_spec (n := n) (P := P) with ⟨e, _⟩ | ⟨_, b, c, d⟩
  · omega
  · exact ⟨b, c, d⟩
theorem fst_neg {n : Nat} {P : Int → Bool} (h : ¬ 0 ≤ fst n P) : ∀ u : Int, 0 ≤ u → u < n → P u = false := by
  rcases fst_spec (n := n) (P := P) with ⟨_, a⟩ | ⟨a, _⟩
  · exact a
  · exact absurd a h
theorem over_iff {m : Ms} {k : Int} : over m k = true ↔ m.b k = true ∧ (m.s k).End ≤ m.t := by unfold over; simp
theorem rdy_iff {ls : List api_Link} {m : Ms} {d : Int} : rdy ls m d = true ↔ m.b d = false ∧ ∀ l ∈ ls, l.Consumer = d → m.b l.Supplier = true ∧ (m.s l.Supplier).End ≤ m.t := by
  unfold rdy
  simp only [Bool.and_eq_true, Bool.not_eq_true', List.all_eq_true, Bool.or_eq_true, beq_eq_false_iff_ne, over_iff]
  constructor
  · rintro ⟨h1, h2⟩
    exact ⟨h1, fun l hl hc => (h2 l hl).resolve_left (fun hn => hn hc)⟩
  · rintro ⟨h1, h2⟩
    refine ⟨h1, fun l hl => ?_⟩
    by_cases hc : l.Consumer = d
    · exact .inr (h2 l hl hc)
    · exact .inl hc
theorem rdy_not {ls : List api_Link} {m : Ms} {d : Int} (h : rdy ls m d = false) (hb : m.b d = false) : ∃ l ∈ ls, l.Consumer = d ∧ (m.b l.Supplier = true → m.t < (m.s l.Supplier).End) := by
  refine Classical.byContradiction fun hno => ?_
  have : rdy ls m d = true := rdy_iff.2 ⟨hb, fun l hl hc => by
    refine Classical.byContradiction fun hn => hno ⟨l, hl, hc, fun hbs => ?_⟩
    refine Classical.byContradiction fun hlt => hn ⟨hbs, by omega⟩⟩
  rw [this] at h; cases h
theorem mem_running {w : Nat} {m : Ms} {x : Int} : x ∈ running w m ↔ ∃ k : Int, 0 ≤ k ∧ k < w ∧ m.f k = x ∧ m.t < x := by
  unfold running
  simp only [List.mem_filter, List.mem_map, mem_below]
  constructor
  · rintro ⟨⟨k, ⟨h0, h1⟩, rfl⟩, h⟩; exact ⟨k, h0, h1, rfl, by simpa using h⟩
  · rintro ⟨k, h0, h1, rfl, h⟩; exact ⟨⟨k, ⟨h0, h1⟩, rfl⟩, by simpa using h⟩
theorem lowest_none {l : List Int} (h : lowest l = none) : l = [] := by
  cases l with
  | nil => rfl
  | cons a t =>
    exfalso
    have key : ∀ (l : List Int), l ≠ [] → ∃ m ∈ l, ∀ x ∈ l, m ≤ x := by
      intro l
      induction l with
      | nil => intro h; exact absurd rfl h
      | cons a t ih =>
        intro _
        by_cases ht : t = []
        · subst ht; exact ⟨a, by simp, by simp⟩
        · obtain ⟨m, h1, h2⟩ := ih ht
          by_cases ha : a ≤ m
          · refine ⟨a, by simp, fun x hx => ?_⟩
            rcases List.mem_cons.1 hx with e | e
            · omega
            · have := h2 x e; omega
          · refine ⟨m, List.mem_cons_of_mem _ h1, fun x hx => ?_⟩
            rcases List.mem_cons.1 hx with e | e
            · omega
            · exact h2 x e
    obtain ⟨m, h1, h2⟩ := key (a :: t) (by simp)
    rw [lowest_of h1 h2] at h; cases h

/-- One step: a device begins, or time moves. -/
theorem nxt_cases {n w : Nat} {ls : List api_Link} {du : Int → Int} {m : Ms} {out : List api_Slot} {z' : Ms × List api_Slot} (h : nxt n w ls du (m, out) = some z') :
    (∃ d k : Int, d = nextD n ls m ∧ k = nextW w m ∧ (0 ≤ d ∧ d < n) ∧ (0 ≤ k ∧ k < w) ∧ rdy ls m d = true ∧ m.f k ≤ m.t ∧ z' = (place du m d k, out ++ [api_Slot.mk d k m.t (m.t + du d)])) ∨
    (∃ t, ¬ (0 ≤ nextD n ls m ∧ 0 ≤ nextW w m) ∧ t ∈ running w m ∧ (∀ x ∈ running w m, t ≤ x) ∧ m.t < t ∧ z' = (⟨m.b, m.s, m.f, t⟩, out)) := by
  unfold nxt at h
  split at h
  · rename_i hp
    obtain ⟨h1, h2⟩ := hp
    simp only at h1 h2 h
    obtain ⟨a1, a2, a3⟩ := fst_lt h1
    obtain ⟨b1, b2, b3⟩ := fst_lt h2
    exact .inl ⟨_, _, rfl, rfl, ⟨h1, a1⟩, ⟨h2, b1⟩, a2, of_decide_eq_true b2, (Option.some.inj h).symm⟩
  · rename_i hp
    simp only at h hp
    cases hl : lowest (running w m) with
    | none => rw [hl] at h; cases h
    | some t =>
      rw [hl] at h
      obtain ⟨a, b⟩ := lowest_spec hl
      obtain ⟨k, _, _, _, ht⟩ := mem_running.1 a
      exact .inr ⟨t, hp, a, b, ht, (Option.some.inj h).symm⟩
theorem nxt_none {n w : Nat} {ls : List api_Link} {du : Int → Int} {m : Ms} {out : List api_Slot} (h : nxt n w ls du (m, out) = none) : ¬ (0 ≤ nextD n ls m ∧ 0 ≤ nextW w m) ∧ running w m = [] := by
  unfold nxt at h
  split at h
  · cases h
  · rename_i hp
    refine ⟨hp, ?_⟩
    simp only at h
    cases hl : lowest (running w m) with
    | none => exact lowest_none hl
    | some t => rw [hl] at h; cases h

def z00 : Ms × List api_Slot := (⟨fun _ => false, fun _ => api_Slot.mk 0 0 0 0, fun _ => 0, 0⟩, [])

structure Inv (n w : Nat) (ls : List api_Link) (du : Int → Int) (m : Ms) (out : List api_Slot) : Prop where
  t0 : 0 ≤ m.t
  f0 : ∀ k, 0 ≤ m.f k
  dev : ∀ x ∈ out, 0 ≤ x.Device ∧ x.Device < n
  wrk : ∀ x ∈ out, 0 ≤ x.Worker ∧ x.Worker < w
  len : ∀ x ∈ out, x.End = x.Start + du x.Device
  st : ∀ x ∈ out, 0 ≤ x.Start ∧ x.Start ≤ m.t
  sl : ∀ x ∈ out, m.b x.Device = true ∧ m.s x.Device = x
  bs : ∀ d, m.b d = true → m.s d ∈ out ∧ (m.s d).Device = d
  nd : (out.map api_Slot.Device).Nodup
  fle : ∀ x ∈ out, x.End ≤ m.f x.Worker
  fex : ∀ k, m.f k = 0 ∨ ∃ x ∈ out, x.Worker = k ∧ x.End = m.f k
  ord : out.Pairwise (fun x y => x.Start ≤ y.Start ∧ (x.Worker = y.Worker → x.End ≤ y.Start))
  lnk : ∀ l ∈ ls, m.b l.Consumer = true → m.b l.Supplier = true ∧ (m.s l.Supplier).End ≤ (m.s l.Consumer).Start
  org : ∀ x ∈ out, x.Start = 0 ∨ ∃ y ∈ out, y.End = x.Start
  torg : m.t = 0 ∨ ∃ y ∈ out, y.End = m.t

section
variable {n w : Nat} {ls : List api_Link} {du : Int → Int}

theorem Inv.start : Inv n w ls du z00.1 z00.2 := by
  unfold z00
  refine ⟨Int.le_refl _, fun _ => Int.le_refl _, ?_, ?_, ?_, ?_, ?_, ?_, List.nodup_nil, ?_, fun _ => .inl rfl, List.Pairwise.nil, ?_, ?_, .inl rfl⟩ <;> simp

theorem Inv.step (hdu : ∀ i, 0 ≤ du i) {m : Ms} {out : List api_Slot} (I : Inv n w ls du m out) {z' : Ms × List api_Slot} (h : nxt n w ls du (m, out) = some z') : Inv n w ls du z'.1 z'.2 := by
  rcases nxt_cases h with ⟨d, k, _, _, hd, hk, hr, hf, rfl⟩ | ⟨t, _, ht, hlo, hlt, rfl⟩
  · obtain ⟨hb, hsup⟩ := rdy_iff.1 hr
    have hd0 := hdu d
    have hnew : ∀ x ∈ out, x.Device ≠ d := fun x hx e => by
      have := (I.sl x hx).1
      rw [e, hb] at this; cases this
    have ht0 := I.t0
    have hmem : ∀ {P : api_Slot → Prop}, (∀ x ∈ out, P x) → P (api_Slot.mk d k m.t (m.t + du d)) → ∀ x ∈ out ++ [api_Slot.mk d k m.t (m.t + du d)], P x := fun h1 h2 x hx => by
      rcases List.mem_append.1 hx with h | h
      · exact h1 x h
      · simp only [List.mem_singleton] at h; subst h; exact h2
    have hin : ∀ {x : api_Slot}, x ∈ out → x ∈ out ++ [api_Slot.mk d k m.t (m.t + du d)] := fun h => List.mem_append.2 (.inl h)
    have hlast : api_Slot.mk d k m.t (m.t + du d) ∈ out ++ [api_Slot.mk d k m.t (m.t + du d)] := List.mem_append.2 (.inr (by simp))
    unfold place
    constructor
    · exact ht0
    · intro j; simp only [fset]; split
      · omega
      · exact I.f0 j
    · exact hmem I.dev hd
    · exact hmem I.wrk hk
    · exact hmem I.len rfl
    · exact hmem I.st ⟨ht0, Int.le_refl _⟩
    · refine hmem (fun x hx => ?_) ?_
      · have := I.sl x hx
        simp only [fset, if_neg (hnew x hx)]; exact this
      · simp [fset]
    · intro j hj
      simp only [fset] at hj ⊢
      by_cases e : j = d
      · subst e; simp
      · rw [if_neg e] at hj ⊢
        have := I.bs j hj
        exact ⟨hin this.1, this.2⟩
    · simp only [List.map_append, List.map_cons, List.map_nil]
      rw [List.nodup_append]
      refine ⟨I.nd, by simp, fun a ha b hb' => ?_⟩
      simp only [List.mem_singleton] at hb'
      obtain ⟨x, hx, rfl⟩ := List.mem_map.1 ha
      rw [hb']; exact hnew x hx
    · refine hmem (fun x hx => ?_) (by simp [fset])
      simp only [fset]
      split
      · rename_i e
        have := I.fle x hx
        rw [e] at this; omega
      · exact I.fle x hx
    · intro j
      simp only [fset]
      by_cases e : j = k
      · rw [if_pos e]; exact .inr ⟨_, hlast, e.symm, rfl⟩
      · rw [if_neg e]
        rcases I.fex j with h | ⟨x, hx, h1, h2⟩
        · exact .inl h
        · exact .inr ⟨x, hin hx, h1, h2⟩
    · rw [List.pairwise_append]
      refine ⟨I.ord, List.pairwise_singleton _ _, fun x hx y hy => ?_⟩
      simp only [List.mem_singleton] at hy
      subst hy
      refine ⟨(I.st x hx).2, fun e => ?_⟩
      have := I.fle x hx
      simp only at e ⊢
      rw [e] at this; omega
    · intro l hl hc
      simp only [fset] at hc ⊢
      by_cases e : l.Consumer = d
      · obtain ⟨h1, h2⟩ := hsup l hl e
        have hne : l.Supplier ≠ d := fun e' => by rw [e', hb] at h1; cases h1
        rw [if_neg hne, if_neg hne, if_pos e]
        exact ⟨h1, h2⟩
      · rw [if_neg e] at hc ⊢
        obtain ⟨h1, h2⟩ := I.lnk l hl hc
        have hne : l.Supplier ≠ d := fun e' => by rw [e', hb] at h1; cases h1
        rw [if_neg hne, if_neg hne]
        exact ⟨h1, h2⟩
    · refine hmem (fun x hx => ?_) ?_
      · rcases I.org x hx with h | ⟨y, hy, h⟩
        · exact .inl h
        · exact .inr ⟨y, hin hy, h⟩
      · rcases I.torg with h | ⟨y, hy, h⟩
        · exact .inl h
        · exact .inr ⟨y, hin hy, h⟩
    · rcases I.torg with h | ⟨y, hy, h⟩
      · exact .inl h
      · exact .inr ⟨y, hin hy, h⟩
  · obtain ⟨k, _, _, hfk, _⟩ := mem_running.1 ht
    have ht0 := I.t0
    refine ⟨by simp only; omega, I.f0, I.dev, I.wrk, I.len, fun x hx => ⟨(I.st x hx).1, by have := (I.st x hx).2; simp only; omega⟩, I.sl, I.bs, I.nd, I.fle, I.fex, I.ord, I.lnk, I.org, ?_⟩
    rcases I.fex k with h | ⟨x, hx, _, h2⟩
    · omega
    · exact .inr ⟨x, hx, by rw [h2, hfk]⟩

theorem it_ind {P : Ms → List api_Slot → Prop} (hs : ∀ m out z', P m out → nxt n w ls du (m, out) = some z' → P z'.1 z'.2) : ∀ (k : Nat) (z : Ms × List api_Slot), P z.1 z.2 → P (it n w ls du k z).1 (it n w ls du k z).2
  | 0, z, h => h
  | k + 1, z, h => by
    rw [it]
    cases hz : nxt n w ls du z with
    | none => exact h
    | some z' => exact it_ind hs k z' (hs z.1 z.2 z' h hz)
theorem Inv.it (hdu : ∀ i, 0 ≤ du i) (k : Nat) : Inv n w ls du (it n w ls du k z00).1 (it n w ls du k z00).2 := it_ind (fun m out z' I h => I.step hdu h) k z00 Inv.start

/-- Slots as what has begun. -/
theorem Inv.begun_of {m : Ms} {out : List api_Slot} (I : Inv n w ls du m out) {d : Int} (h : m.b d = true) : (m.s d) ∈ out ∧ (m.s d).Device = d ∧ 0 ≤ d ∧ d < n := by
  obtain ⟨h1, h2⟩ := I.bs d h
  have := I.dev _ h1
  rw [h2] at this
  exact ⟨h1, h2, this⟩
theorem Inv.over_run {m : Ms} {out : List api_Slot} (I : Inv n w ls du m out) {x : api_Slot} (hx : x ∈ out) (ht : m.t < x.End) : x.End ∈ running w m := by
  refine mem_running.2 ⟨x.Worker, (I.wrk x hx).1, (I.wrk x hx).2, ?_, ht⟩
  rcases I.fex x.Worker with h | ⟨y, hy, h1, h2⟩
  · have := I.fle x hx; have := I.t0; omega
  · rw [← h2]
    refine Classical.byContradiction fun hne => ?_
    have hle := I.fle x hx
    have hne' : x ≠ y := fun e => hne (by rw [e])
    have := I.ord
    rcases List.getElem_of_mem hx with ⟨i, hi, ei⟩
    rcases List.getElem_of_mem hy with ⟨j, hj, ej⟩
    have hp := List.pairwise_iff_getElem.1 this
    rcases Nat.lt_trichotomy i j with h | h | h
    · have := (hp i j hi hj h).2 (by rw [ei, ej, h1])
      rw [ei, ej] at this
      have := (I.st y hy).2
      omega
    · subst h; rw [ei] at ej; exact hne' ej
    · have h3 := (hp j i hj hi h).2 (by rw [ei, ej, h1])
      rw [ei, ej] at h3
      have := (I.st x hx).2
      have := (I.st y hy).1
      rw [h2] at h3
      have hf0 := I.fle x hx
      have : du x.Device ≥ 0 ∨ du x.Device < 0 := by omega
      have := I.len x hx
      omega
theorem Inv.out_le {m : Ms} {out : List api_Slot} (I : Inv n w ls du m out) : out.length ≤ n := by
  have := nodup_le I.nd (s := below n) (fun x hx => by
    obtain ⟨y, hy, rfl⟩ := List.mem_map.1 hx
    exact mem_below.2 (I.dev y hy))
  rw [below_length] at this
  simpa using this
end

/-- The end: everything has begun and ended. -/
structure Done (n w : Nat) (ls : List api_Link) (du : Int → Int) (m : Ms) (out : List api_Slot) : Prop where
  inv : Inv n w ls du m out
  all : ∀ d : Int, 0 ≤ d → d < n → m.b d = true
  ends : ∀ x ∈ out, x.End ≤ m.t
  len : out.length = n

theorem not_full_link {n : Nat} {ls : List api_Link} (hfull : ¬ (ord n ls).length < n) {B : Int → Bool} (h : ∀ d : Int, 0 ≤ d → d < n → B d = false → ∃ l ∈ ls, l.Consumer = d ∧ B l.Supplier = false) : ∀ d : Int, 0 ≤ d → d < n → B d = true := by
  have hr := (ord_run n ls).1
  have key : ∀ out, Run n ls out → ∀ v ∈ out, B v = true := by
    intro out ho
    induction ho with
    | nil => simp
    | @snoc out v ho hv ih =>
      intro u hu
      rcases List.mem_append.1 hu with hu | hu
      · exact ih u hu
      · simp only [List.mem_singleton] at hu; subst hu
        obtain ⟨h0, h1, h2, _⟩ := least_some hv
        obtain ⟨_, h3⟩ := free_iff.1 h2
        cases hB : B u with
        | true => rfl
        | false =>
          obtain ⟨l, hl, hc, hs⟩ := h u h0 h1 hB
          have := ih _ (h3 l hl hc)
          rw [hs] at this; cases this
  exact fun d h0 h1 => key _ hr d (ord_full hfull h0 h1)

theorem done_of {n w : Nat} {ls : List api_Link} {du : Int → Int} (hw : 0 < w) (hfull : ¬ (ord n ls).length < n) (g : GoodG n ls) {m : Ms} {out : List api_Slot} (I : Inv n w ls du m out) (h : nxt n w ls du (m, out) = none) : Done n w ls du m out := by
  obtain ⟨h1, h2⟩ := nxt_none h
  have hends : ∀ x ∈ out, x.End ≤ m.t := fun x hx => by
    refine Classical.byContradiction fun hn => ?_
    have := I.over_run hx (by omega)
    rw [h2] at this; cases this
  have hwk : 0 ≤ nextW w m := by
    refine Classical.byContradiction fun hn => ?_
    have := fst_neg hn 0 (by omega) (by omega)
    simp only [decide_eq_false_iff_not] at this
    have : m.f 0 ∈ running w m := mem_running.2 ⟨0, by omega, by omega, rfl, by omega⟩
    rw [h2] at this; cases this
  have hnr := fst_neg (fun hd => h1 ⟨hd, hwk⟩)
  have hall : ∀ d : Int, 0 ≤ d → d < n → m.b d = true := not_full_link hfull fun d d0 d1 hb => by
    obtain ⟨l, hl, hc, hs⟩ := rdy_not (hnr d d0 d1) hb
    refine ⟨l, hl, hc, ?_⟩
    cases hB : m.b l.Supplier with
    | false => rfl
    | true =>
      have := hs hB
      have := hends _ (I.bs _ hB).1
      omega
  refine ⟨I, hall, hends, Nat.le_antisymm I.out_le ?_⟩
  have := nodup_le (below_nodup n) (s := out.map api_Slot.Device) (fun x hx => by
    obtain ⟨x0, x1⟩ := mem_below.1 hx
    obtain ⟨a, b⟩ := I.bs x (hall x x0 x1)
    exact List.mem_map.2 ⟨_, a, b⟩)
  rw [below_length] at this
  simpa using this
end Go.Proofs.Ythmjgadmadlpkaa.Sim
