/-
  Texts of this session, part 3 of 8: the words of the walk, plain functions with the same answers as the Go functions and the proofs of it, plain lemmas. No condition.
  They are, one behind the other: QDeviceNew QDeviceNeeds QSlicesIndexIntInt QSlicesContainsIntInt QDeviceWithout QSlicesReverseIntInt QDeviceChange QDeviceTreeHas QDeviceTreePermitted QRailsRailsHas QRailsRailsCheck.
-/
import Derived.Test.YtfhhklkmbcnhnaaProg
import Derived.Test.YtfhhklkmbcnhnaaZDeviceHierarchy2

namespace Go.Proofs.Ytfhhklkmbcnhnaa.Sim
open Go
set_option linter.unusedVariables false
set_option linter.unusedSimpArgs false

/-! ### device_New: function 26 -/
def device_New.l1 : Nat → api_PowerDevice → Int → Option (api_PowerDevice)
  | 0, _, _ => none
  | k146 + 1, m1_0, m1_1 => if decide (m1_1 < 4) = true then ((idx (Ar4.l m1_0.Rails) m1_1).bind fun x154 => (slices_Clone_int_int.f x154).bind fun r164 => (m1_0.Rails.put m1_1 r164).bind fun y174 => device_New.l1 k146 (api_PowerDevice.mk m1_0.Parent y174 m1_0.Deepest m1_0.WakeDevice m1_0.WakeSystem) (wi (m1_1 + 1))) else (some m1_0)
def device_New.l0 (p0 : List api_PowerDevice) (st36 : rails_Rails) : Nat → device_Tree → Int → Option (device_Tree)
  | 0, _, _ => none
  | k74 + 1, m0_0, m0_1 => if decide (m0_1 < (p0.length : Int)) = true then (((idx p0 m0_1).bind fun x87 => (device_New.l1 FUEL x87 0 : Option (api_PowerDevice)).bind fun v129 => (app m0_0.devices [v129]).bind fun y201 => (app m0_0.state [4]).bind fun y210 => some (device_Tree.mk y201 y210 st36 m0_0.now) : Option (device_Tree)).bind fun v84 => device_New.l0 p0 st36 k74 (device_Tree.mk v84.devices v84.state st36 v84.now) (wi (m0_1 + 1))) else (some (device_Tree.mk m0_0.devices m0_0.state st36 m0_0.now))
def device_New.f (p0 : List api_PowerDevice) (p1 : List api_Rail) : Option ((Option device_Tree) × Int) := (device_Check.f p0 (p1.length : Int)).bind fun r6 => if (r6 != 0) = true then (some ((none : Option device_Tree), r6)) else ((rails_New.f p1).bind fun r18 => if (r18.2 != 0) = true then (some ((none : Option device_Tree), r18.2)) else ((r18.1).bind fun st36 => (device_New.l0 p0 st36 FUEL (device_Tree.mk ([] : List api_PowerDevice) ([] : List Int) st36 0) 0 : Option (device_Tree)).bind fun v61 => some ((some (device_Tree.mk v61.devices v61.state st36 v61.now)), 0)))
set_option maxRecDepth 100000 in
set_option maxHeartbeats 4000000 in
theorem device_New.calls {p0 : List api_PowerDevice} {A0 : Option Addr} {cap0 : Nat} {C0 : Nat → Prop} {p1 : List api_Rail} {A1 : Option Addr} {cap1 : Nat} {C1 : Nat → Prop} {w : World} {g : Nat → Nat} {out : (Option device_Tree) × Int} (N : Nat) (r0 : Nat) (hp0 : RdS kd_api_PowerDevice w g C0 A0 cap0 p0) (hC0 : ∀ c, C0 c → c < N) (hp1 : RdS kd_api_Rail w g C1 A1 cap1 p1) (hC1 : ∀ c, C1 c → c < N) (hr0 : r0 + 8 ≤ N) (H : device_New.f p0 p1 = some out) :
    Calls Try.prog 26 #[.slice A0 p0.length cap0, .slice A1 p1.length cap1] w (fun e w' => ∃ v, e = .returned v ∧ ∃ (g' : Nat → Nat) (p_r0 : Option Addr), v = .tuple #[.pointer p_r0, .int .i64 out.2] ∧ device_Tree_Opt w' g' r0 (fun q => C0 q ∨ q = r0 + 6 ∨ q = r0 + 6 + 1) p_r0 out.1 ∧ Fr (fun q => (r0 ≤ q ∧ q < r0 + 8) ∨ N ≤ q) w g w' g') := by
  unfold device_New.f at H
  refine calls_enter Try.func26 rfl Try.ntmps26 rfl (fun a hS => ?_)
  replace hS : Sl 70 a [(0, .slice A0 p0.length cap0), (1, .slice A1 p1.length cap1)] := hS
  have hF : Fr (fun q => (r0 ≤ q ∧ q < r0 + 8) ∨ N ≤ q) w g w g := Fr.refl _ _ _
  refine c_pure [(0, .slice A0 p0.length cap0), (1, .slice A1 p1.length cap1)] (fun R hR => st_val hS rfl rfl rfl (r_assign hS rfl rfl) fun a1 hS1 => st_val hS1 rfl rfl rfl (r_assign hS1 rfl rfl) fun a2 hS2 => wpList_nil (hR _ (hS2.re ⟨rfl, rfl, trivial⟩))) ?_
  clear hS
  clear a
  intro a hS
  refine wp_seq ?_
  obtain ⟨r6, hr7, H⟩ := bind_el H
  refine c_region (fun K hK => ?_)
  refine st_val hS rfl rfl rfl (r_move hS rfl rfl) fun a3 hS3 => st_val hS3 rfl rfl rfl (r_move hS3 rfl rfl) fun a4 hS4 => st_val hS4 rfl rfl rfl (r_len (e := 64) (sz := 3) (by_ := 24) hS4 rfl rfl (by kernel_rfl)) fun a5 hS5 => ?_
  refine st_enter hS5 rfl rfl rfl (r_call hS5 rfl rfl (by kernel_rfl)) (device_Check.calls (C0 := C0) (p0 := p0) (p1 := (p1.length : Int)) (g := g) (N + 21)  hp0 (fun q (hq : C0 q) => by have := hC0 q hq; omega) hr7) ?_
  rintro _ a8 w9 ⟨g9, rfl, F9⟩ hS8
  replace hp0 := RdS.fr hp0 F9 (by decide) (fun q (hq : C0 q) (hm : N + 21 ≤ q) => by have := hC0 q hq; omega)
  replace hp1 := RdS.fr hp1 F9 (by decide) (fun q (hq : C1 q) (hm : N + 21 ≤ q) => by have := hC1 q hq; omega)
  replace hF := hF.trans F9 (fun c' (hm : N + 21 ≤ c') => by show (r0 ≤ c' ∧ c' < r0 + 8) ∨ N ≤ c'; omega)
  refine st_val hS8 rfl rfl rfl (r_assign hS8 rfl rfl) fun a10 hS10 => wpList_nil (hK _ _ ?_)
  replace hS : Sl 70 _ [(0, .slice A0 p0.length cap0), (1, .slice A1 p1.length cap1), (6, .int .i64 r6)] := hS10.re ⟨rfl, rfl, rfl, trivial⟩
  clear hK K
  try clear hS3 hS4 hS5 hS8 hS10
  obtain ⟨a, ha⟩ : ∃ a', a' = a10 := ⟨_, rfl⟩
  rw [← ha] at hS ⊢; clear ha
  refine c_pure [(0, .slice A0 p0.length cap0), (1, .slice A1 p1.length cap1), (6, .int .i64 r6), (18, .bool (r6 != 0))] (fun R hR => st_val hS rfl rfl rfl (r_move hS rfl rfl) fun a11 hS11 => st_val hS11 rfl rfl rfl (r_bin hS11 rfl rfl rfl b_neq) fun a12 hS12 => wpList_nil (hR _ (hS12.re ⟨rfl, rfl, rfl, rfl, trivial⟩))) ?_
  clear hS
  clear a
  intro a hS
  refine c_cond hS rfl (fun hb13 => ?_) (fun hb13 => ?_)
  · replace H := ite_t hb13 H
    refine c_pure [(4, .pointer none), (5, .int .i64 r6)] (fun R hR => st_val hS rfl rfl rfl (r_move hS rfl rfl) fun a14 hS14 => st_val hS14 rfl rfl rfl (r_assign hS14 rfl rfl) fun a15 hS15 => st_val hS15 rfl rfl rfl (r_assign hS15 rfl rfl) fun a16 hS16 => wpList_nil (hR _ (hS16.re ⟨rfl, rfl, trivial⟩))) ?_
    clear hS
    clear a
    intro a hS
    refine wp_ret ?_
    have e := Option.some.inj H
    subst e
    repeat (with_reducible first | refine then_ret ?_ | refine inBlock_ret ?_)
    exact c_ret2 hS Try.results26 rfl rfl ⟨_, rfl, g9, none, rfl, rfl, hF⟩
  · replace H := ite_f hb13 H
    refine wp_skip ?_
    change Code.wp _ _ _ _ _
    obtain ⟨r18, hr19, H⟩ := bind_el H
    refine c_region (fun K hK => ?_)
    refine st_val hS rfl rfl rfl (r_move hS rfl rfl) fun a17 hS17 => ?_
    refine st_enter hS17 rfl rfl rfl (r_call hS17 rfl rfl (by kernel_rfl)) (rails_New.calls (C0 := C1) (p0 := p1) (g := g9) (N + 21) (N + 0) hp1 (fun q (hq : C1 q) => by have := hC1 q hq; omega) (by omega) hr19) ?_
    rintro _ a23 w24 ⟨g24, p20, rfl, h21, F24⟩ hS23
    replace hp0 := RdS.fr hp0 F24 (by decide) (fun q (hq : C0 q) (hm : (N + 0 ≤ q ∧ q < N + 0 + 3) ∨ N + 21 ≤ q) => by have := hC0 q hq; omega)
    replace hp1 := RdS.fr hp1 F24 (by decide) (fun q (hq : C1 q) (hm : (N + 0 ≤ q ∧ q < N + 0 + 3) ∨ N + 21 ≤ q) => by have := hC1 q hq; omega)
    replace hF := hF.trans F24 (fun c' (hm : (N + 0 ≤ c' ∧ c' < N + 0 + 3) ∨ N + 21 ≤ c') => by show (r0 ≤ c' ∧ c' < r0 + 8) ∨ N ≤ c'; omega)
    refine st_val hS23 rfl rfl rfl (r_move hS23 rfl rfl) fun a25 hS25 => st_val hS25 rfl rfl rfl (r_extract hS25 rfl rfl rfl) fun a26 hS26 => st_val hS26 rfl rfl rfl (r_extract hS26 rfl rfl rfl) fun a27 hS27 => st_val hS27 rfl rfl rfl (r_assign hS27 rfl rfl) fun a28 hS28 => st_val hS28 rfl rfl rfl (r_assign hS28 rfl rfl) fun a29 hS29 => wpList_nil (hK _ _ ?_)
    replace hS : Sl 70 _ [(0, .slice A0 p0.length cap0), (7, .pointer p20), (8, .int .i64 r18.2)] := hS29.re ⟨rfl, rfl, rfl, trivial⟩
    clear hK K
    try clear hS17 hS23 hS25 hS26 hS27 hS28 hS29
    obtain ⟨a, ha⟩ : ∃ a', a' = a29 := ⟨_, rfl⟩
    rw [← ha] at hS ⊢; clear ha
    refine wp_seq ?_
    refine c_pure [(0, .slice A0 p0.length cap0), (7, .pointer p20), (8, .int .i64 r18.2), (26, .bool (r18.2 != 0))] (fun R hR => st_val hS rfl rfl rfl (r_move hS rfl rfl) fun a30 hS30 => st_val hS30 rfl rfl rfl (r_bin hS30 rfl rfl rfl b_neq) fun a31 hS31 => wpList_nil (hR _ (hS31.re ⟨rfl, rfl, rfl, rfl, trivial⟩))) ?_
    clear hS
    clear a
    intro a hS
    refine c_cond hS rfl (fun hb32 => ?_) (fun hb32 => ?_)
    · replace H := ite_t hb32 H
      refine c_pure [(4, .pointer none), (5, .int .i64 r18.2)] (fun R hR => st_val hS rfl rfl rfl (r_move hS rfl rfl) fun a33 hS33 => st_val hS33 rfl rfl rfl (r_assign hS33 rfl rfl) fun a34 hS34 => st_val hS34 rfl rfl rfl (r_assign hS34 rfl rfl) fun a35 hS35 => wpList_nil (hR _ (hS35.re ⟨rfl, rfl, trivial⟩))) ?_
      clear hS
      clear a
      intro a hS
      refine wp_ret ?_
      have e := Option.some.inj H
      subst e
      repeat (with_reducible first | refine then_ret ?_ | refine inBlock_ret ?_)
      exact c_ret2 hS Try.results26 rfl rfl ⟨_, rfl, g24, none, rfl, rfl, hF⟩
    · replace H := ite_f hb32 H
      refine wp_skip ?_
      change Code.wp _ _ _ _ _
      obtain ⟨st36, hst37, H⟩ := bind_el H
      rw [hst37] at h21
      obtain ⟨b38, A41, cap42, hp45, h39, h43⟩ := h21
      subst hp45
      refine c_region (fun K hK => ?_)
      refine st_val hS rfl rfl rfl (r_move hS rfl rfl) fun a46 hS46 => st_val hS46 rfl rfl rfl (r_build (parts := [(2, .pointer (some ⟨b38, 0, none⟩))]) (u := .agg #[.slice none 0 0, .slice none 0 0, .pointer (some ⟨b38, 0, none⟩), .int .u64 0]) hS46 rfl rfl (fun _ => by kernel_rfl)) fun a47 hS47 => ?_
      refine st_eff hS47 rfl rfl rfl (e_box (cs := [.slice none 0 0, .slice none 0 0, .pointer (some ⟨b38, 0, none⟩), .int .u64 0]) (N + 3) g24 hS47 rfl rfl rfl) ?_
      rintro _ a51 w52 g52 ⟨⟨b48, rfl, h49⟩, F52⟩ hS51
      replace h39 := h39.fr F52 (fun h => h)
      replace h43 := OwS.fr h43 F52 (fun _ _ h => h)
      replace hp0 := RdS.fr hp0 F52 (by decide) (fun _ _ h => h)
      replace hF := hF.trans F52 (fun _ h => h.elim)
      refine st_val hS51 rfl rfl rfl (r_assign hS51 rfl rfl) fun a53 hS53 => wpList_nil (hK _ _ ?_)
      replace hS : Sl 70 _ [(0, .slice A0 p0.length cap0), (9, .pointer (some ⟨b48, 0, none⟩))] := hS53.re ⟨rfl, rfl, trivial⟩
      clear hK K
      try clear hS46 hS47 hS51 hS53
      obtain ⟨a, ha⟩ : ∃ a', a' = a53 := ⟨_, rfl⟩
      rw [← ha] at hS ⊢; clear ha
      obtain ⟨v61, H, Hl63⟩ := bind_el H
      refine c_cut (fun a w54 => ∃ (g54 : Nat → Nat), ∃ (A55 : Option Addr), ∃ (cap56 : Nat), ∃ (A58 : Option Addr), ∃ (cap59 : Nat), Sl 70 a [(9, .pointer (some ⟨b48, 0, none⟩))] ∧ Bx w54 g54 (N + 0) b38 100 [.slice A41 st36.list.length cap42, .int .u64 st36.now] ∧ OwS kd_rails_rail 105 w54 g54 (N + 0 + 1) A41 cap42 st36.list ∧ Bx w54 g54 (N + 3) b48 90 [.slice A55 v61.devices.length cap56, .slice A58 v61.state.length cap59, .pointer (some ⟨b38, 0, none⟩), .int .u64 v61.now] ∧ OwD kd_api_PowerDevice 33 w54 g54 (N + 13) (fun q => C0 q ∨ q = N + 13 + 1) A55 cap56 v61.devices ∧ OwS (kint .i64) 3 w54 g54 (N + 19) A58 cap59 v61.state ∧ Fr (fun q => (r0 ≤ q ∧ q < r0 + 8) ∨ N ≤ q) w g w54 g54) ?_ ?_
      · refine c_pure [(9, .pointer (some ⟨b48, 0, none⟩)), (31, .slice A0 p0.length cap0), (32, .int .i64 (p0.length : Int)), (33, .int .i64 0)] (fun R hR => st_val hS rfl rfl rfl (r_move hS rfl rfl) fun a64 hS64 => st_val hS64 rfl rfl rfl (r_len (e := 33) (sz := 13) (by_ := 168) hS64 rfl rfl (by kernel_rfl)) fun a65 hS65 => st_val hS65 rfl rfl rfl (r_move hS65 rfl rfl) fun a66 hS66 => wpList_nil (hR _ (hS66.re ⟨rfl, rfl, rfl, rfl, trivial⟩))) ?_
        clear hS
        clear a
        intro a hS
        refine wp_block ?_
        refine wp_loop_ghost (fun kq => fun a w67 => ∃ (m0_0 : device_Tree), ∃ (m0_1 : Int), ∃ (g67 : Nat → Nat), ∃ (A68 : Option Addr), ∃ (cap69 : Nat), ∃ (A71 : Option Addr), ∃ (cap72 : Nat), device_New.l0 p0 st36 kq m0_0 m0_1 = some v61 ∧ Sl 70 a [(9, .pointer (some ⟨b48, 0, none⟩)), (31, .slice A0 p0.length cap0), (32, .int .i64 (p0.length : Int)), (33, .int .i64 m0_1)] ∧ Bx w67 g67 (N + 0) b38 100 [.slice A41 st36.list.length cap42, .int .u64 st36.now] ∧ OwS kd_rails_rail 105 w67 g67 (N + 0 + 1) A41 cap42 st36.list ∧ Bx w67 g67 (N + 3) b48 90 [.slice A68 m0_0.devices.length cap69, .slice A71 m0_0.state.length cap72, .pointer (some ⟨b38, 0, none⟩), .int .u64 m0_0.now] ∧ OwD kd_api_PowerDevice 33 w67 g67 (N + 13) (fun q => C0 q ∨ q = N + 13 + 1) A68 cap69 m0_0.devices ∧ OwS (kint .i64) 3 w67 g67 (N + 19) A71 cap72 m0_0.state ∧ RdS kd_api_PowerDevice w67 g67 C0 A0 cap0 p0 ∧ Fr (fun q => (r0 ≤ q ∧ q < r0 + 8) ∨ N ≤ q) w g w67 g67) FUEL ?_ ?_
        · exact ⟨(device_Tree.mk ([] : List api_PowerDevice) ([] : List Int) st36 0), 0, g52, none, 0, none, 0, H, hS.re ⟨rfl, rfl, rfl, rfl, trivial⟩, h39, h43, h49, OwD.nil kd_api_PowerDevice 33 w52 g52 (N + 13) (fun q => C0 q ∨ q = N + 13 + 1), OwS.nil (kint .i64) 3 w52 g52 (N + 19), hp0, hF⟩
        · clear H
          clear hp0 h43 h39 h49 hF
          clear hS
          rintro k74 a w67 ⟨m0_0, m0_1, g67, A68, cap69, A71, cap72, hpre0, hS, h39, h43, h49, h70, h73, hp0, hF⟩
          have H := hpre0
          clear hpre0
          cases k74 with
          | zero => exact absurd H (by simp [device_New.l0])
          | succ k74 =>
            rw [device_New.l0] at H
            refine c_pure [(9, .pointer (some ⟨b48, 0, none⟩)), (31, .slice A0 p0.length cap0), (32, .int .i64 (p0.length : Int)), (33, .int .i64 m0_1), (34, .bool (decide (m0_1 < (p0.length : Int))))] (fun R hR => st_val hS rfl rfl rfl (r_bin hS rfl rfl rfl b_lss) fun a75 hS75 => wpList_nil (hR _ (hS75.re ⟨rfl, rfl, rfl, rfl, rfl, trivial⟩))) ?_
            clear hS
            clear a
            intro a hS
            refine c_if hS rfl (fun hb76 => ?_) (fun hb76 => ?_)
            · replace H := ite_t hb76 H
              refine wp_skip ?_
              change Code.wp _ _ _ _ _
              obtain ⟨v84, H, Hl86⟩ := bind_el H
              refine c_cut (fun a w77 => ∃ (g77 : Nat → Nat), ∃ (A78 : Option Addr), ∃ (cap79 : Nat), ∃ (A81 : Option Addr), ∃ (cap82 : Nat), Sl 70 a [(9, .pointer (some ⟨b48, 0, none⟩)), (31, .slice A0 p0.length cap0), (32, .int .i64 (p0.length : Int)), (33, .int .i64 m0_1)] ∧ Bx w77 g77 (N + 0) b38 100 [.slice A41 st36.list.length cap42, .int .u64 st36.now] ∧ OwS kd_rails_rail 105 w77 g77 (N + 0 + 1) A41 cap42 st36.list ∧ Bx w77 g77 (N + 3) b48 90 [.slice A78 v84.devices.length cap79, .slice A81 v84.state.length cap82, .pointer (some ⟨b38, 0, none⟩), .int .u64 v84.now] ∧ OwD kd_api_PowerDevice 33 w77 g77 (N + 13) (fun q => C0 q ∨ q = N + 13 + 1) A78 cap79 v84.devices ∧ OwS (kint .i64) 3 w77 g77 (N + 19) A81 cap82 v84.state ∧ RdS kd_api_PowerDevice w77 g77 C0 A0 cap0 p0 ∧ Fr (fun q => (r0 ≤ q ∧ q < r0 + 8) ∨ N ≤ q) w g w77 g77) ?_ ?_
              · refine wp_block ?_
                obtain ⟨x87, hx88, H⟩ := bind_el H
                refine c_region (fun K hK => ?_)
                obtain ⟨_, ⟨A90, cap91, A94, cap95, A98, cap99, A102, cap103, rfl, h92, h96, h100, h104⟩, hel89⟩ := El.of hp0 hx88 (by decide)
                replace hel89 : El w67 g67 C0 A0 (m0_1.toNat * 13) [.int .i64 x87.Parent, .slice A90 x87.Rails.a0.length cap91, .slice A94 x87.Rails.a1.length cap95, .slice A98 x87.Rails.a2.length cap99, .slice A102 x87.Rails.a3.length cap103, .int .i64 x87.Deepest.a0, .int .i64 x87.Deepest.a1, .int .i64 x87.Deepest.a2, .int .i64 x87.Deepest.a3, .int .i64 x87.Deepest.a4, .int .i64 x87.Deepest.a5, .int .i64 x87.WakeDevice, .int .i64 x87.WakeSystem] := hel89
                refine st_val hS rfl rfl rfl (r_index (e := 33) (sz := 13) (by_ := 168) hS rfl rfl rfl (by kernel_rfl) (RdS.some_ hp0 hx88) (idx_lo hx88) (idx_hi hx88)) fun a107 hS107 => st_val hS107 rfl rfl rfl (r_loadN (n := 13) (cs := [.int .i64 x87.Parent, .slice A90 x87.Rails.a0.length cap91, .slice A94 x87.Rails.a1.length cap95, .slice A98 x87.Rails.a2.length cap99, .slice A102 x87.Rails.a3.length cap103, .int .i64 x87.Deepest.a0, .int .i64 x87.Deepest.a1, .int .i64 x87.Deepest.a2, .int .i64 x87.Deepest.a3, .int .i64 x87.Deepest.a4, .int .i64 x87.Deepest.a5, .int .i64 x87.WakeDevice, .int .i64 x87.WakeSystem]) hS107 rfl rfl (by kernel_rfl) rfl (El.cells_off hel89 0 13)) fun a108 hS108 => ?_
                refine st_eff hS108 rfl rfl rfl (e_alloc (cs := [.int .i64 0, .slice none 0 0, .slice none 0 0, .slice none 0 0, .slice none 0 0, .int .i64 0, .int .i64 0, .int .i64 0, .int .i64 0, .int .i64 0, .int .i64 0, .int .i64 0, .int .i64 0]) (N + 9) g67 hS108 rfl (by kernel_rfl)) ?_
                rintro _ a112 w113 g113 ⟨⟨b109, rfl, h110⟩, F113⟩ hS112
                replace h100 := RdS.fr h100 F113 (by decide) (fun _ _ h => h)
                replace h104 := RdS.fr h104 F113 (by decide) (fun _ _ h => h)
                replace hel89 := hel89.fr F113 (fun _ _ h => h)
                replace h39 := h39.fr F113 (fun h => h)
                replace h43 := OwS.fr h43 F113 (fun _ _ h => h)
                replace h49 := h49.fr F113 (fun h => h)
                replace h92 := RdS.fr h92 F113 (by decide) (fun _ _ h => h)
                replace h96 := RdS.fr h96 F113 (by decide) (fun _ _ h => h)
                replace h70 := OwD.fr h70 F113 (fun h => h) (fun _ _ h => h)
                replace h73 := OwS.fr h73 F113 (fun _ _ h => h)
                replace hp0 := RdS.fr hp0 F113 (by decide) (fun _ _ h => h)
                replace hF := hF.trans F113 (fun _ h => h.elim)
                refine st_effS hS112 rfl rfl (e_storeB (n := 13) (bb := true) (cs' := [.int .i64 x87.Parent, .slice A90 x87.Rails.a0.length cap91, .slice A94 x87.Rails.a1.length cap95, .slice A98 x87.Rails.a2.length cap99, .slice A102 x87.Rails.a3.length cap103, .int .i64 x87.Deepest.a0, .int .i64 x87.Deepest.a1, .int .i64 x87.Deepest.a2, .int .i64 x87.Deepest.a3, .int .i64 x87.Deepest.a4, .int .i64 x87.Deepest.a5, .int .i64 x87.WakeDevice, .int .i64 x87.WakeSystem]) g113 hS112 rfl rfl rfl (by kernel_rfl) rfl rfl rfl h110 rfl rfl) ?_
                rintro a114 w115 g115 ⟨h110, F115⟩ hS114
                replace h100 := RdS.fr h100 F115 (by decide) (fun q (hq : C0 q) (hm : q = N + 9) => by have := hC0 q hq; omega)
                replace h104 := RdS.fr h104 F115 (by decide) (fun q (hq : C0 q) (hm : q = N + 9) => by have := hC0 q hq; omega)
                replace hel89 := hel89.fr F115 (fun q (hq : C0 q) (hm : q = N + 9) => by have := hC0 q hq; omega)
                replace h39 := h39.fr F115 (fun (hm : N + 0 = N + 9) => by omega)
                replace h43 := OwS.fr h43 F115 (fun c' hc (hm : c' = N + 9) => by omega)
                replace h49 := h49.fr F115 (fun (hm : N + 3 = N + 9) => by omega)
                replace h92 := RdS.fr h92 F115 (by decide) (fun q (hq : C0 q) (hm : q = N + 9) => by have := hC0 q hq; omega)
                replace h96 := RdS.fr h96 F115 (by decide) (fun q (hq : C0 q) (hm : q = N + 9) => by have := hC0 q hq; omega)
                replace h70 := OwD.fr h70 F115 (fun (hm : N + 13 = N + 9) => by omega) (fun q (hq : C0 q ∨ q = N + 13 + 1) (hm : q = N + 9) => by rcases hq with hq | hq; all_goals first | (have := hC0 q hq; omega; done) | (omega; done))
                replace h73 := OwS.fr h73 F115 (fun c' hc (hm : c' = N + 9) => by omega)
                replace hp0 := RdS.fr hp0 F115 (by decide) (fun q (hq : C0 q) (hm : q = N + 9) => by have := hC0 q hq; omega)
                replace hF := hF.trans F115 (fun c' (hm : c' = N + 9) => by show (r0 ≤ c' ∧ c' < r0 + 8) ∨ N ≤ c'; omega)
                refine wpList_nil (hK _ _ ?_)
                replace hS : Sl 70 _ [(9, .pointer (some ⟨b48, 0, none⟩)), (11, .pointer (some ⟨b109, 0, none⟩)), (31, .slice A0 p0.length cap0), (32, .int .i64 (p0.length : Int)), (33, .int .i64 m0_1)] := hS114.re ⟨rfl, rfl, rfl, rfl, rfl, trivial⟩
                clear hK K
                try clear hS107 hS108 hS112 hS114
                obtain ⟨a, ha⟩ : ∃ a', a' = a114 := ⟨_, rfl⟩
                rw [← ha] at hS ⊢; clear ha
                obtain ⟨v129, H, Hl131⟩ := bind_el H
                refine c_cut (fun a w116 => ∃ (g116 : Nat → Nat), ∃ (A117 : Option Addr), ∃ (cap118 : Nat), ∃ (A120 : Option Addr), ∃ (cap121 : Nat), ∃ (A123 : Option Addr), ∃ (cap124 : Nat), ∃ (A126 : Option Addr), ∃ (cap127 : Nat), Sl 70 a [(9, .pointer (some ⟨b48, 0, none⟩)), (11, .pointer (some ⟨b109, 0, none⟩)), (31, .slice A0 p0.length cap0), (32, .int .i64 (p0.length : Int)), (33, .int .i64 m0_1)] ∧ Bx w116 g116 (N + 9) b109 33 [.int .i64 v129.Parent, .slice A117 v129.Rails.a0.length cap118, .slice A120 v129.Rails.a1.length cap121, .slice A123 v129.Rails.a2.length cap124, .slice A126 v129.Rails.a3.length cap127, .int .i64 v129.Deepest.a0, .int .i64 v129.Deepest.a1, .int .i64 v129.Deepest.a2, .int .i64 v129.Deepest.a3, .int .i64 v129.Deepest.a4, .int .i64 v129.Deepest.a5, .int .i64 v129.WakeDevice, .int .i64 v129.WakeSystem] ∧ Bx w116 g116 (N + 0) b38 100 [.slice A41 st36.list.length cap42, .int .u64 st36.now] ∧ OwS kd_rails_rail 105 w116 g116 (N + 0 + 1) A41 cap42 st36.list ∧ Bx w116 g116 (N + 3) b48 90 [.slice A68 m0_0.devices.length cap69, .slice A71 m0_0.state.length cap72, .pointer (some ⟨b38, 0, none⟩), .int .u64 m0_0.now] ∧ OwD kd_api_PowerDevice 33 w116 g116 (N + 13) (fun q => C0 q ∨ q = N + 13 + 1) A68 cap69 m0_0.devices ∧ OwS (kint .i64) 3 w116 g116 (N + 19) A71 cap72 m0_0.state ∧ RdS (kint .i64) w116 g116 (fun q => C0 q ∨ q = N + 13 + 1) A117 cap118 v129.Rails.a0 ∧ RdS (kint .i64) w116 g116 (fun q => C0 q ∨ q = N + 13 + 1) A120 cap121 v129.Rails.a1 ∧ RdS (kint .i64) w116 g116 (fun q => C0 q ∨ q = N + 13 + 1) A123 cap124 v129.Rails.a2 ∧ RdS (kint .i64) w116 g116 (fun q => C0 q ∨ q = N + 13 + 1) A126 cap127 v129.Rails.a3 ∧ RdS kd_api_PowerDevice w116 g116 C0 A0 cap0 p0 ∧ Fr (fun q => (r0 ≤ q ∧ q < r0 + 8) ∨ N ≤ q) w g w116 g116) ?_ ?_
                · refine c_pure [(9, .pointer (some ⟨b48, 0, none⟩)), (11, .pointer (some ⟨b109, 0, none⟩)), (31, .slice A0 p0.length cap0), (32, .int .i64 (p0.length : Int)), (33, .int .i64 m0_1), (37, .int .i64 0)] (fun R hR => st_val hS rfl rfl rfl (r_move hS rfl rfl) fun a132 hS132 => wpList_nil (hR _ (hS132.re ⟨rfl, rfl, rfl, rfl, rfl, rfl, trivial⟩))) ?_
                  clear hS
                  clear a
                  intro a hS
                  refine wp_block ?_
                  refine wp_loop_ghost (fun kq => fun a w133 => ∃ (m1_0 : api_PowerDevice), ∃ (m1_1 : Int), ∃ (g133 : Nat → Nat), ∃ (A134 : Option Addr), ∃ (cap135 : Nat), ∃ (A137 : Option Addr), ∃ (cap138 : Nat), ∃ (A140 : Option Addr), ∃ (cap141 : Nat), ∃ (A143 : Option Addr), ∃ (cap144 : Nat), device_New.l1 kq m1_0 m1_1 = some v129 ∧ Sl 70 a [(9, .pointer (some ⟨b48, 0, none⟩)), (11, .pointer (some ⟨b109, 0, none⟩)), (31, .slice A0 p0.length cap0), (32, .int .i64 (p0.length : Int)), (33, .int .i64 m0_1), (37, .int .i64 m1_1)] ∧ Bx w133 g133 (N + 9) b109 33 [.int .i64 m1_0.Parent, .slice A134 m1_0.Rails.a0.length cap135, .slice A137 m1_0.Rails.a1.length cap138, .slice A140 m1_0.Rails.a2.length cap141, .slice A143 m1_0.Rails.a3.length cap144, .int .i64 m1_0.Deepest.a0, .int .i64 m1_0.Deepest.a1, .int .i64 m1_0.Deepest.a2, .int .i64 m1_0.Deepest.a3, .int .i64 m1_0.Deepest.a4, .int .i64 m1_0.Deepest.a5, .int .i64 m1_0.WakeDevice, .int .i64 m1_0.WakeSystem] ∧ Bx w133 g133 (N + 0) b38 100 [.slice A41 st36.list.length cap42, .int .u64 st36.now] ∧ OwS kd_rails_rail 105 w133 g133 (N + 0 + 1) A41 cap42 st36.list ∧ Bx w133 g133 (N + 3) b48 90 [.slice A68 m0_0.devices.length cap69, .slice A71 m0_0.state.length cap72, .pointer (some ⟨b38, 0, none⟩), .int .u64 m0_0.now] ∧ OwD kd_api_PowerDevice 33 w133 g133 (N + 13) (fun q => C0 q ∨ q = N + 13 + 1) A68 cap69 m0_0.devices ∧ OwS (kint .i64) 3 w133 g133 (N + 19) A71 cap72 m0_0.state ∧ RdS (kint .i64) w133 g133 (fun q => C0 q ∨ q = N + 13 + 1) A134 cap135 m1_0.Rails.a0 ∧ RdS (kint .i64) w133 g133 (fun q => C0 q ∨ q = N + 13 + 1) A137 cap138 m1_0.Rails.a1 ∧ RdS (kint .i64) w133 g133 (fun q => C0 q ∨ q = N + 13 + 1) A140 cap141 m1_0.Rails.a2 ∧ RdS (kint .i64) w133 g133 (fun q => C0 q ∨ q = N + 13 + 1) A143 cap144 m1_0.Rails.a3 ∧ RdS kd_api_PowerDevice w133 g133 C0 A0 cap0 p0 ∧ Fr (fun q => (r0 ≤ q ∧ q < r0 + 8) ∨ N ≤ q) w g w133 g133) FUEL ?_ ?_
                  · exact ⟨x87, 0, g115, A90, cap91, A94, cap95, A98, cap99, A102, cap103, H, hS.re ⟨rfl, rfl, rfl, rfl, rfl, rfl, trivial⟩, h110, h39, h43, h49, h70, h73, (RdS.weak h92 (fun _ h => (Or.inl h))), (RdS.weak h96 (fun _ h => (Or.inl h))), (RdS.weak h100 (fun _ h => (Or.inl h))), (RdS.weak h104 (fun _ h => (Or.inl h))), hp0, hF⟩
                  · clear H
                    clear hp0 h43 h39 h49 h70 h73 h92 h96 h100 h104 h110 hF
                    clear hS
                    rintro k146 a w133 ⟨m1_0, m1_1, g133, A134, cap135, A137, cap138, A140, cap141, A143, cap144, hpre0, hS, h110, h39, h43, h49, h70, h73, h136, h139, h142, h145, hp0, hF⟩
                    have H := hpre0
                    clear hpre0
                    cases k146 with
                    | zero => exact absurd H (by simp [device_New.l1])
                    | succ k146 =>
                      rw [device_New.l1] at H
                      refine c_pure [(9, .pointer (some ⟨b48, 0, none⟩)), (11, .pointer (some ⟨b109, 0, none⟩)), (31, .slice A0 p0.length cap0), (32, .int .i64 (p0.length : Int)), (33, .int .i64 m0_1), (37, .int .i64 m1_1), (38, .bool (decide (m1_1 < 4)))] (fun R hR => st_val hS rfl rfl rfl (r_bin hS rfl rfl rfl b_lss) fun a147 hS147 => wpList_nil (hR _ (hS147.re ⟨rfl, rfl, rfl, rfl, rfl, rfl, rfl, trivial⟩))) ?_
                      clear hS
                      clear a
                      intro a hS
                      refine c_if hS rfl (fun hb148 => ?_) (fun hb148 => ?_)
                      · replace H := ite_t hb148 H
                        refine wp_skip ?_
                        change Code.wp _ _ _ _ _
                        refine wp_seq ?_
                        refine wp_block ?_
                        refine c_pure [(9, .pointer (some ⟨b48, 0, none⟩)), (11, .pointer (some ⟨b109, 0, none⟩)), (12, .int .i64 m1_1), (31, .slice A0 p0.length cap0), (32, .int .i64 (p0.length : Int)), (33, .int .i64 m0_1), (37, .int .i64 m1_1)] (fun R hR => st_val hS rfl rfl rfl (r_move hS rfl rfl) fun a149 hS149 => st_val hS149 rfl rfl rfl (r_assign hS149 rfl rfl) fun a150 hS150 => wpList_nil (hR _ (hS150.re ⟨rfl, rfl, rfl, rfl, rfl, rfl, rfl, trivial⟩))) ?_
                        clear hS
                        clear a
                        intro a hS
                        obtain ⟨x154, hx155, H⟩ := bind_el H
                        obtain ⟨r164, hr165, H⟩ := bind_el H
                        obtain ⟨y174, hy175, H⟩ := bind_el H
                        refine c_region1 (fun K hK => ?_)
                        refine st_val hS rfl rfl rfl (r_move hS rfl rfl) fun a151 hS151 => st_val hS151 rfl rfl rfl (r_move hS151 rfl rfl) fun a152 hS152 => st_val hS152 rfl rfl rfl (r_fieldB (off := 1) hS152 rfl rfl (by kernel_rfl)) fun a153 hS153 => ?_
                        obtain ⟨A157, cap158, he156, h159⟩ : ∃ (A157 : Option Addr) (cap158 : Nat), (([.int .i64 m1_0.Parent, .slice A134 m1_0.Rails.a0.length cap135, .slice A137 m1_0.Rails.a1.length cap138, .slice A140 m1_0.Rails.a2.length cap141, .slice A143 m1_0.Rails.a3.length cap144, .int .i64 m1_0.Deepest.a0, .int .i64 m1_0.Deepest.a1, .int .i64 m1_0.Deepest.a2, .int .i64 m1_0.Deepest.a3, .int .i64 m1_0.Deepest.a4, .int .i64 m1_0.Deepest.a5, .int .i64 m1_0.WakeDevice, .int .i64 m1_0.WakeSystem] : List Value).drop (1 + m1_1.toNat * 1)).take 1 = [.slice A157 x154.length cap158] ∧ RdS (kint .i64) w133 g133 (fun q => C0 q ∨ q = N + 13 + 1) A157 cap158 x154 := by
                          rcases Ar4.cases hx155 with ⟨e, e2⟩ | ⟨e, e2⟩ | ⟨e, e2⟩ | ⟨e, e2⟩
                          · subst e2; exact ⟨A134, cap135, (by rw [e] <;> rfl), h136⟩
                          · subst e2; exact ⟨A137, cap138, (by rw [e] <;> rfl), h139⟩
                          · subst e2; exact ⟨A140, cap141, (by rw [e] <;> rfl), h142⟩
                          · subst e2; exact ⟨A143, cap144, (by rw [e] <;> rfl), h145⟩
                        refine st_val hS153 rfl rfl rfl (r_ixB (n := 4) (e := 29) (sz := 1) (bb := false) hS153 rfl rfl rfl (by kernel_rfl) (idx_lo hx155) (Ar4.lt hx155)) fun a162 hS162 => st_val hS162 rfl rfl rfl (r_load1 (n := 1) hS162 rfl rfl (by kernel_rfl) (Bx.at_ (j := 0) h110 he156 rfl)) fun a163 hS163 => ?_
                        refine st_enter hS163 rfl rfl rfl (r_call hS163 rfl rfl (by kernel_rfl)) (slices_Clone_int_int.calls (C0 := (fun q => C0 q ∨ q = N + 13 + 1)) (p0 := x154) (g := g133) (N + 21) (N + 11) h159 (fun q (hq : C0 q ∨ q = N + 13 + 1) => by rcases hq with hq | hq; all_goals first | (have := hC0 q hq; omega; done) | (omega; done)) (by omega) hr165) ?_
                        rintro _ a170 w171 ⟨g171, A166, cap167, rfl, h168, F171⟩ hS170
                        replace h110 := h110.fr F171 (fun (hm : (N + 11 ≤ N + 9 ∧ N + 9 < N + 11 + 2) ∨ N + 21 ≤ N + 9) => by omega)
                        replace h159 := RdS.fr h159 F171 (by decide) (fun q (hq : C0 q ∨ q = N + 13 + 1) (hm : (N + 11 ≤ q ∧ q < N + 11 + 2) ∨ N + 21 ≤ q) => by rcases hq with hq | hq; all_goals first | (have := hC0 q hq; omega; done) | (omega; done))
                        replace h39 := h39.fr F171 (fun (hm : (N + 11 ≤ N + 0 ∧ N + 0 < N + 11 + 2) ∨ N + 21 ≤ N + 0) => by omega)
                        replace h43 := OwS.fr h43 F171 (fun c' hc (hm : (N + 11 ≤ c' ∧ c' < N + 11 + 2) ∨ N + 21 ≤ c') => by omega)
                        replace h49 := h49.fr F171 (fun (hm : (N + 11 ≤ N + 3 ∧ N + 3 < N + 11 + 2) ∨ N + 21 ≤ N + 3) => by omega)
                        replace h70 := OwD.fr h70 F171 (fun (hm : (N + 11 ≤ N + 13 ∧ N + 13 < N + 11 + 2) ∨ N + 21 ≤ N + 13) => by omega) (fun q (hq : C0 q ∨ q = N + 13 + 1) (hm : (N + 11 ≤ q ∧ q < N + 11 + 2) ∨ N + 21 ≤ q) => by rcases hq with hq | hq; all_goals first | (have := hC0 q hq; omega; done) | (omega; done))
                        replace h73 := OwS.fr h73 F171 (fun c' hc (hm : (N + 11 ≤ c' ∧ c' < N + 11 + 2) ∨ N + 21 ≤ c') => by omega)
                        replace h136 := RdS.fr h136 F171 (by decide) (fun q (hq : C0 q ∨ q = N + 13 + 1) (hm : (N + 11 ≤ q ∧ q < N + 11 + 2) ∨ N + 21 ≤ q) => by rcases hq with hq | hq; all_goals first | (have := hC0 q hq; omega; done) | (omega; done))
                        replace h139 := RdS.fr h139 F171 (by decide) (fun q (hq : C0 q ∨ q = N + 13 + 1) (hm : (N + 11 ≤ q ∧ q < N + 11 + 2) ∨ N + 21 ≤ q) => by rcases hq with hq | hq; all_goals first | (have := hC0 q hq; omega; done) | (omega; done))
                        replace h142 := RdS.fr h142 F171 (by decide) (fun q (hq : C0 q ∨ q = N + 13 + 1) (hm : (N + 11 ≤ q ∧ q < N + 11 + 2) ∨ N + 21 ≤ q) => by rcases hq with hq | hq; all_goals first | (have := hC0 q hq; omega; done) | (omega; done))
                        replace h145 := RdS.fr h145 F171 (by decide) (fun q (hq : C0 q ∨ q = N + 13 + 1) (hm : (N + 11 ≤ q ∧ q < N + 11 + 2) ∨ N + 21 ≤ q) => by rcases hq with hq | hq; all_goals first | (have := hC0 q hq; omega; done) | (omega; done))
                        replace hp0 := RdS.fr hp0 F171 (by decide) (fun q (hq : C0 q) (hm : (N + 11 ≤ q ∧ q < N + 11 + 2) ∨ N + 21 ≤ q) => by have := hC0 q hq; omega)
                        replace hF := hF.trans F171 (fun c' (hm : (N + 11 ≤ c' ∧ c' < N + 11 + 2) ∨ N + 21 ≤ c') => by show (r0 ≤ c' ∧ c' < r0 + 8) ∨ N ≤ c'; omega)
                        refine st_val hS170 rfl rfl rfl (r_fieldB (off := 1) hS170 rfl rfl (by kernel_rfl)) fun a172 hS172 => st_val hS172 rfl rfl rfl (r_ixB (n := 4) (e := 29) (sz := 1) (bb := false) hS172 rfl rfl rfl (by kernel_rfl) (idx_lo hx155) (Ar4.lt hx155)) fun a173 hS173 => ?_
                        have F176 : Fr (fun q => q = N + 11) w171 g171 w171 (recol g171 (N + 11) (N + 13 + 1)) := Fr.recol w171 g171 (N + 11) (N + 13 + 1) rfl
                        replace h110 := h110.fr F176 (fun (hm : N + 9 = N + 11) => by omega)
                        replace h159 := RdS.fr h159 F176 (by decide) (fun q (hq : C0 q ∨ q = N + 13 + 1) (hm : q = N + 11) => by rcases hq with hq | hq; all_goals first | (have := hC0 q hq; omega; done) | (omega; done))
                        replace h168 : RdS (kint .i64) w171 (recol g171 (N + 11) (N + 13 + 1)) (fun q => q = N + 13 + 1) A166 cap167 r164 := RdS.recolC (OwD.rdf (fun _ _ _ _ _ _ h => h) h168) (by decide) (N + 11) (N + 13 + 1) (fun q (hq : q = N + 11) => show (fun q => q = N + 13 + 1) (if q = N + 11 then N + 13 + 1 else q) from (by rw [if_pos hq] <;> exact rfl))
                        replace h39 := h39.fr F176 (fun (hm : N + 0 = N + 11) => by omega)
                        replace h43 := OwS.fr h43 F176 (fun c' hc (hm : c' = N + 11) => by omega)
                        replace h49 := h49.fr F176 (fun (hm : N + 3 = N + 11) => by omega)
                        replace h70 := OwD.fr h70 F176 (fun (hm : N + 13 = N + 11) => by omega) (fun q (hq : C0 q ∨ q = N + 13 + 1) (hm : q = N + 11) => by rcases hq with hq | hq; all_goals first | (have := hC0 q hq; omega; done) | (omega; done))
                        replace h73 := OwS.fr h73 F176 (fun c' hc (hm : c' = N + 11) => by omega)
                        replace h136 := RdS.fr h136 F176 (by decide) (fun q (hq : C0 q ∨ q = N + 13 + 1) (hm : q = N + 11) => by rcases hq with hq | hq; all_goals first | (have := hC0 q hq; omega; done) | (omega; done))
                        replace h139 := RdS.fr h139 F176 (by decide) (fun q (hq : C0 q ∨ q = N + 13 + 1) (hm : q = N + 11) => by rcases hq with hq | hq; all_goals first | (have := hC0 q hq; omega; done) | (omega; done))
                        replace h142 := RdS.fr h142 F176 (by decide) (fun q (hq : C0 q ∨ q = N + 13 + 1) (hm : q = N + 11) => by rcases hq with hq | hq; all_goals first | (have := hC0 q hq; omega; done) | (omega; done))
                        replace h145 := RdS.fr h145 F176 (by decide) (fun q (hq : C0 q ∨ q = N + 13 + 1) (hm : q = N + 11) => by rcases hq with hq | hq; all_goals first | (have := hC0 q hq; omega; done) | (omega; done))
                        replace hp0 := RdS.fr hp0 F176 (by decide) (fun q (hq : C0 q) (hm : q = N + 11) => by have := hC0 q hq; omega)
                        replace hF := hF.trans F176 (fun c' (hm : c' = N + 11) => by show (r0 ≤ c' ∧ c' < r0 + 8) ∨ N ≤ c'; omega)
                        obtain ⟨A177, cap181, A178, cap182, A179, cap183, A180, cap184, hsp189, h185, h186, h187, h188⟩ : ∃ (A177 : Option Addr) (cap181 : Nat) (A178 : Option Addr) (cap182 : Nat) (A179 : Option Addr) (cap183 : Nat) (A180 : Option Addr) (cap184 : Nat), splice ([.int .i64 m1_0.Parent, .slice A134 m1_0.Rails.a0.length cap135, .slice A137 m1_0.Rails.a1.length cap138, .slice A140 m1_0.Rails.a2.length cap141, .slice A143 m1_0.Rails.a3.length cap144, .int .i64 m1_0.Deepest.a0, .int .i64 m1_0.Deepest.a1, .int .i64 m1_0.Deepest.a2, .int .i64 m1_0.Deepest.a3, .int .i64 m1_0.Deepest.a4, .int .i64 m1_0.Deepest.a5, .int .i64 m1_0.WakeDevice, .int .i64 m1_0.WakeSystem] : List Value) (1 + m1_1.toNat * 1) [.slice A166 r164.length cap167] = [.int .i64 m1_0.Parent, .slice A177 y174.a0.length cap181, .slice A178 y174.a1.length cap182, .slice A179 y174.a2.length cap183, .slice A180 y174.a3.length cap184, .int .i64 m1_0.Deepest.a0, .int .i64 m1_0.Deepest.a1, .int .i64 m1_0.Deepest.a2, .int .i64 m1_0.Deepest.a3, .int .i64 m1_0.Deepest.a4, .int .i64 m1_0.Deepest.a5, .int .i64 m1_0.WakeDevice, .int .i64 m1_0.WakeSystem] ∧ RdS (kint .i64) w171 (recol g171 (N + 11) (N + 13 + 1)) (fun q => C0 q ∨ q = N + 13 + 1) A177 cap181 y174.a0 ∧ RdS (kint .i64) w171 (recol g171 (N + 11) (N + 13 + 1)) (fun q => C0 q ∨ q = N + 13 + 1) A178 cap182 y174.a1 ∧ RdS (kint .i64) w171 (recol g171 (N + 11) (N + 13 + 1)) (fun q => C0 q ∨ q = N + 13 + 1) A179 cap183 y174.a2 ∧ RdS (kint .i64) w171 (recol g171 (N + 11) (N + 13 + 1)) (fun q => C0 q ∨ q = N + 13 + 1) A180 cap184 y174.a3 := by
                          rcases Ar4.put_cases hy175 with ⟨e, e2⟩ | ⟨e, e2⟩ | ⟨e, e2⟩ | ⟨e, e2⟩
                          · subst e2; exact ⟨A166, cap167, A137, cap138, A140, cap141, A143, cap144, (by rw [e] <;> rfl), (RdS.weak h168 (fun _ h => (Or.inr h))), h139, h142, h145⟩
                          · subst e2; exact ⟨A134, cap135, A166, cap167, A140, cap141, A143, cap144, (by rw [e] <;> rfl), h136, (RdS.weak h168 (fun _ h => (Or.inr h))), h142, h145⟩
                          · subst e2; exact ⟨A134, cap135, A137, cap138, A166, cap167, A143, cap144, (by rw [e] <;> rfl), h136, h139, (RdS.weak h168 (fun _ h => (Or.inr h))), h145⟩
                          · subst e2; exact ⟨A134, cap135, A137, cap138, A140, cap141, A166, cap167, (by rw [e] <;> rfl), h136, h139, h142, (RdS.weak h168 (fun _ h => (Or.inr h)))⟩
                        refine st_effS hS173 rfl rfl (e_storeB (n := 1) (bb := false) (cs' := [.int .i64 m1_0.Parent, .slice A177 y174.a0.length cap181, .slice A178 y174.a1.length cap182, .slice A179 y174.a2.length cap183, .slice A180 y174.a3.length cap184, .int .i64 m1_0.Deepest.a0, .int .i64 m1_0.Deepest.a1, .int .i64 m1_0.Deepest.a2, .int .i64 m1_0.Deepest.a3, .int .i64 m1_0.Deepest.a4, .int .i64 m1_0.Deepest.a5, .int .i64 m1_0.WakeDevice, .int .i64 m1_0.WakeSystem]) (recol g171 (N + 11) (N + 13 + 1)) hS173 rfl rfl rfl (by kernel_rfl) rfl rfl rfl h110 (by rcases Ar4.put_cases hy175 with ⟨e, e2⟩ | ⟨e, e2⟩ | ⟨e, e2⟩ | ⟨e, e2⟩ <;> (rw [e] <;> rfl)) hsp189) ?_
                        rintro a194 w195 g195 ⟨h110, F195⟩ hS194
                        replace h159 := RdS.fr h159 F195 (by decide) (fun q (hq : C0 q ∨ q = N + 13 + 1) (hm : q = N + 9) => by rcases hq with hq | hq; all_goals first | (have := hC0 q hq; omega; done) | (omega; done))
                        replace h168 := RdS.fr h168 F195 (by decide) (fun q (hq : q = N + 13 + 1) (hm : q = N + 9) => by omega)
                        replace h185 := RdS.fr h185 F195 (by decide) (fun q (hq : C0 q ∨ q = N + 13 + 1) (hm : q = N + 9) => by rcases hq with hq | hq; all_goals first | (have := hC0 q hq; omega; done) | (omega; done))
                        replace h186 := RdS.fr h186 F195 (by decide) (fun q (hq : C0 q ∨ q = N + 13 + 1) (hm : q = N + 9) => by rcases hq with hq | hq; all_goals first | (have := hC0 q hq; omega; done) | (omega; done))
                        replace h187 := RdS.fr h187 F195 (by decide) (fun q (hq : C0 q ∨ q = N + 13 + 1) (hm : q = N + 9) => by rcases hq with hq | hq; all_goals first | (have := hC0 q hq; omega; done) | (omega; done))
                        replace h188 := RdS.fr h188 F195 (by decide) (fun q (hq : C0 q ∨ q = N + 13 + 1) (hm : q = N + 9) => by rcases hq with hq | hq; all_goals first | (have := hC0 q hq; omega; done) | (omega; done))
                        replace h39 := h39.fr F195 (fun (hm : N + 0 = N + 9) => by omega)
                        replace h43 := OwS.fr h43 F195 (fun c' hc (hm : c' = N + 9) => by omega)
                        replace h49 := h49.fr F195 (fun (hm : N + 3 = N + 9) => by omega)
                        replace h70 := OwD.fr h70 F195 (fun (hm : N + 13 = N + 9) => by omega) (fun q (hq : C0 q ∨ q = N + 13 + 1) (hm : q = N + 9) => by rcases hq with hq | hq; all_goals first | (have := hC0 q hq; omega; done) | (omega; done))
                        replace h73 := OwS.fr h73 F195 (fun c' hc (hm : c' = N + 9) => by omega)
                        replace h136 := RdS.fr h136 F195 (by decide) (fun q (hq : C0 q ∨ q = N + 13 + 1) (hm : q = N + 9) => by rcases hq with hq | hq; all_goals first | (have := hC0 q hq; omega; done) | (omega; done))
                        replace h139 := RdS.fr h139 F195 (by decide) (fun q (hq : C0 q ∨ q = N + 13 + 1) (hm : q = N + 9) => by rcases hq with hq | hq; all_goals first | (have := hC0 q hq; omega; done) | (omega; done))
                        replace h142 := RdS.fr h142 F195 (by decide) (fun q (hq : C0 q ∨ q = N + 13 + 1) (hm : q = N + 9) => by rcases hq with hq | hq; all_goals first | (have := hC0 q hq; omega; done) | (omega; done))
                        replace h145 := RdS.fr h145 F195 (by decide) (fun q (hq : C0 q ∨ q = N + 13 + 1) (hm : q = N + 9) => by rcases hq with hq | hq; all_goals first | (have := hC0 q hq; omega; done) | (omega; done))
                        replace hp0 := RdS.fr hp0 F195 (by decide) (fun q (hq : C0 q) (hm : q = N + 9) => by have := hC0 q hq; omega)
                        replace hF := hF.trans F195 (fun c' (hm : c' = N + 9) => by show (r0 ≤ c' ∧ c' < r0 + 8) ∨ N ≤ c'; omega)
                        refine wpList_nil (hK _ _ ?_)
                        replace hS : Sl 70 _ [(9, .pointer (some ⟨b48, 0, none⟩)), (11, .pointer (some ⟨b109, 0, none⟩)), (31, .slice A0 p0.length cap0), (32, .int .i64 (p0.length : Int)), (33, .int .i64 m0_1), (37, .int .i64 m1_1)] := hS194.re ⟨rfl, rfl, rfl, rfl, rfl, rfl, trivial⟩
                        clear hK K
                        try clear hS151 hS152 hS153 hS162 hS163 hS170 hS172 hS173 hS194
                        obtain ⟨a, ha⟩ : ∃ a', a' = a194 := ⟨_, rfl⟩
                        rw [← ha] at hS ⊢; clear ha
                        change Code.wp _ _ _ _ _
                        refine c_pure1 [(9, .pointer (some ⟨b48, 0, none⟩)), (11, .pointer (some ⟨b109, 0, none⟩)), (31, .slice A0 p0.length cap0), (32, .int .i64 (p0.length : Int)), (33, .int .i64 m0_1), (37, .int .i64 (wi (m1_1 + 1)))] (fun R hR => st_val hS rfl rfl rfl (r_bin hS rfl rfl rfl b_add) fun a196 hS196 => st_val hS196 rfl rfl rfl (r_move hS196 rfl rfl) fun a197 hS197 => wpList_nil (hR _ (hS197.re ⟨rfl, rfl, rfl, rfl, rfl, rfl, trivial⟩))) ?_
                        clear hS
                        clear a
                        intro a hS
                        refine ⟨k146, Nat.lt_succ_self _, ?_⟩
                        exact ⟨(api_PowerDevice.mk m1_0.Parent y174 m1_0.Deepest m1_0.WakeDevice m1_0.WakeSystem), wi (m1_1 + 1), g195, A177, cap181, A178, cap182, A179, cap183, A180, cap184, H, hS.re ⟨rfl, rfl, rfl, rfl, rfl, rfl, trivial⟩, h110, h39, h43, h49, h70, h73, h185, h186, h187, h188, hp0, hF⟩
                      · replace H := ite_f hb148 H
                        refine wp_exit ?_
                        have e := Option.some.inj H
                        subst e
                        exact ⟨g133, A134, cap135, A137, cap138, A140, cap141, A143, cap144, hS.re ⟨rfl, rfl, rfl, rfl, rfl, trivial⟩, h110, h39, h43, h49, h70, h73, h136, h139, h142, h145, hp0, hF⟩
                · clear H
                  clear hp0 h43 h39 h49 h70 h73 h92 h96 h100 h104 h110 hF
                  clear hS
                  rintro a w116 ⟨g116, A117, cap118, A120, cap121, A123, cap124, A126, cap127, hS, h110, h39, h43, h49, h70, h73, h119, h122, h125, h128, hp0, hF⟩
                  have H := Hl131
                  clear Hl131
                  obtain ⟨y201, hy202, H⟩ := bind_el H
                  obtain ⟨y210, hy211, H⟩ := bind_el H
                  refine c_cut1 (fun a w313 => ∃ (g313 : Nat → Nat), ∃ (A314 : Option Addr), ∃ (cap315 : Nat), ∃ (A317 : Option Addr), ∃ (cap318 : Nat), Sl 70 a [(9, .pointer (some ⟨b48, 0, none⟩)), (31, .slice A0 p0.length cap0), (32, .int .i64 (p0.length : Int)), (33, .int .i64 m0_1)] ∧ Bx w313 g313 (N + 0) b38 100 [.slice A41 st36.list.length cap42, .int .u64 st36.now] ∧ OwS kd_rails_rail 105 w313 g313 (N + 0 + 1) A41 cap42 st36.list ∧ Bx w313 g313 (N + 3) b48 90 [.slice A314 y201.length cap315, .slice A317 y210.length cap318, .pointer (some ⟨b38, 0, none⟩), .int .u64 m0_0.now] ∧ OwD kd_api_PowerDevice 33 w313 g313 (N + 13) (fun q => C0 q ∨ q = N + 13 + 1) A314 cap315 y201 ∧ OwS (kint .i64) 3 w313 g313 (N + 19) A317 cap318 y210 ∧ RdS kd_api_PowerDevice w313 g313 C0 A0 cap0 p0 ∧ Fr (fun q => (r0 ≤ q ∧ q < r0 + 8) ∨ N ≤ q) w g w313 g313) (d_start (fun q => q = N + 13 ∨ q = N + 19) g116 [17, 20] 21 #[false, false, false, false, false, false, false, false, false, false, false, false, false, false, false, false, false, false, false, false, false] (by kernel_rfl) rfl rfl (fun w320 hw320 => ?_)) ?_
                  · have F320 : Fr (fun _ => False) w116 g116 w320 g116 := by rw [hw320]; exact Fr.drew _ _ _
                    replace h110 := h110.fr F320 (fun h => h)
                    replace h39 := h39.fr F320 (fun h => h)
                    replace h43 := OwS.fr h43 F320 (fun _ _ h => h)
                    replace h49 := h49.fr F320 (fun h => h)
                    replace h70 := OwD.fr h70 F320 (fun h => h) (fun _ _ h => h)
                    replace h73 := OwS.fr h73 F320 (fun _ _ h => h)
                    replace h119 := RdS.fr h119 F320 (by decide) (fun _ _ h => h)
                    replace h122 := RdS.fr h122 F320 (by decide) (fun _ _ h => h)
                    replace h125 := RdS.fr h125 F320 (by decide) (fun _ _ h => h)
                    replace h128 := RdS.fr h128 F320 (by decide) (fun _ _ h => h)
                    replace hp0 := RdS.fr hp0 F320 (by decide) (fun _ _ h => h)
                    replace hF := hF.trans F320 (fun _ h => h.elim)
                    have hC : Fr (fun q => q = N + 13 ∨ q = N + 19) w320 g116 w320 g116 := Fr.refl _ _ _
                    refine d_pure hS 0 #[true, false, false, false, false, false, false, false, false, false, false, false, false, false, false, false, false, false, false, false, false] rfl rfl rfl rfl (by kernel_rfl) (fun _ _ _ h => h) (fun _ => (r_move hS rfl rfl)) fun a321 hS321 => d_pure hS321 1 #[true, true, false, false, false, false, false, false, false, false, false, false, false, false, false, false, false, false, false, false, false] rfl rfl rfl rfl (by kernel_rfl) (fun _ _ _ h => h) (fun _ => (r_move hS321 rfl rfl)) fun a322 hS322 => d_pure hS322 2 #[true, true, true, false, false, false, false, false, false, false, false, false, false, false, false, false, false, false, false, false, false] rfl rfl rfl rfl (by kernel_rfl) (fun _ _ _ h => h) (fun _ => (r_move hS322 rfl rfl)) fun a323 hS323 => d_pure hS323 3 #[true, true, true, true, false, false, false, false, false, false, false, false, false, false, false, false, false, false, false, false, false] rfl rfl rfl rfl (by kernel_rfl) (fun _ _ _ h => h) (fun _ => (r_nil hS323 rfl rfl)) fun a324 hS324 => d_pure hS324 4 #[true, true, true, true, true, false, false, false, false, false, false, false, false, false, false, false, false, false, false, false, false] rfl rfl rfl rfl (by kernel_rfl) (fun _ _ _ h => h) (fun _ => (r_fieldB (off := 0) hS324 rfl rfl (by kernel_rfl))) fun a325 hS325 => d_take hS325 5 #[true, true, true, true, true, true, false, false, false, false, false, false, false, false, false, false, false, false, false, false, false] rfl rfl rfl rfl (by kernel_rfl) (fun _ _ _ h => h) ⟨_, hC⟩ (fun w' g' Fz => (r_load1 (n := 1) hS325 rfl rfl (by kernel_rfl) (Bx.cell (h49.fr Fz (fun (hm : N + 3 = N + 13 ∨ N + 3 = N + 19) => by omega)) rfl))) fun a326 hS326 => d_take hS326 6 #[true, true, true, true, true, true, true, false, false, false, false, false, false, false, false, false, false, false, false, false, false] rfl rfl rfl rfl (by kernel_rfl) (fun _ _ _ h => h) ⟨_, hC⟩ (fun w' g' Fz => (r_loadN (n := 13) (cs := [.int .i64 v129.Parent, .slice A117 v129.Rails.a0.length cap118, .slice A120 v129.Rails.a1.length cap121, .slice A123 v129.Rails.a2.length cap124, .slice A126 v129.Rails.a3.length cap127, .int .i64 v129.Deepest.a0, .int .i64 v129.Deepest.a1, .int .i64 v129.Deepest.a2, .int .i64 v129.Deepest.a3, .int .i64 v129.Deepest.a4, .int .i64 v129.Deepest.a5, .int .i64 v129.WakeDevice, .int .i64 v129.WakeSystem]) hS326 rfl rfl (by kernel_rfl) rfl (Bx.cells_off (h110.fr Fz (fun (hm : N + 9 = N + 13 ∨ N + 9 = N + 19) => by omega)) 0 13))) fun a327 hS327 => d_pure hS327 9 #[true, true, true, true, true, true, true, false, false, true, false, false, false, false, false, false, false, false, false, false, false] rfl rfl rfl rfl (by kernel_rfl) (fun _ _ _ h => h) (fun _ => (r_move hS327 rfl rfl)) fun a328 hS328 => d_pure hS328 10 #[true, true, true, true, true, true, true, false, false, true, true, false, false, false, false, false, false, false, false, false, false] rfl rfl rfl rfl (by kernel_rfl) (fun _ _ _ h => h) (fun _ => (r_nil hS328 rfl rfl)) fun a329 hS329 => d_pure hS329 11 #[true, true, true, true, true, true, true, false, false, true, true, true, false, false, false, false, false, false, false, false, false] rfl rfl rfl rfl (by kernel_rfl) (fun _ _ _ h => h) (fun _ => (r_fieldB (off := 1) hS329 rfl rfl (by kernel_rfl))) fun a330 hS330 => d_take hS330 12 #[true, true, true, true, true, true, true, false, false, true, true, true, true, false, false, false, false, false, false, false, false] rfl rfl rfl rfl (by kernel_rfl) (fun _ _ _ h => h) ⟨_, hC⟩ (fun w' g' Fz => (r_load1 (n := 1) hS330 rfl rfl (by kernel_rfl) (Bx.cell (h49.fr Fz (fun (hm : N + 3 = N + 13 ∨ N + 3 = N + 19) => by omega)) rfl))) fun a331 hS331 => ?_
                    refine d_two 7 13 #[true, true, true, true, true, true, true, true, false, true, true, true, true, false, false, false, false, false, false, false, false] #[true, true, true, true, true, true, true, false, false, true, true, true, true, true, false, false, false, false, false, false, false] rfl rfl (by kernel_rfl) (arm_eff hS331 rfl rfl rfl (e_litD (D := (fun q => C0 q ∨ q = N + 13 + 1)) (e := 33) (parts := [(0, .agg #[.int .i64 v129.Parent, .slice A117 v129.Rails.a0.length cap118, .slice A120 v129.Rails.a1.length cap121, .slice A123 v129.Rails.a2.length cap124, .slice A126 v129.Rails.a3.length cap127, .int .i64 v129.Deepest.a0, .int .i64 v129.Deepest.a1, .int .i64 v129.Deepest.a2, .int .i64 v129.Deepest.a3, .int .i64 v129.Deepest.a4, .int .i64 v129.Deepest.a5, .int .i64 v129.WakeDevice, .int .i64 v129.WakeSystem])]) (cs := [.int .i64 v129.Parent, .slice A117 v129.Rails.a0.length cap118, .slice A120 v129.Rails.a1.length cap121, .slice A123 v129.Rails.a2.length cap124, .slice A126 v129.Rails.a3.length cap127, .int .i64 v129.Deepest.a0, .int .i64 v129.Deepest.a1, .int .i64 v129.Deepest.a2, .int .i64 v129.Deepest.a3, .int .i64 v129.Deepest.a4, .int .i64 v129.Deepest.a5, .int .i64 v129.WakeDevice, .int .i64 v129.WakeSystem]) kd_api_PowerDevice [v129] (N + 15) g116 hS331 rfl rfl (fun _ => by kernel_rfl) rfl (by decide) (Rows.cons (cs := [.int .i64 v129.Parent, .slice A117 v129.Rails.a0.length cap118, .slice A120 v129.Rails.a1.length cap121, .slice A123 v129.Rails.a2.length cap124, .slice A126 v129.Rails.a3.length cap127, .int .i64 v129.Deepest.a0, .int .i64 v129.Deepest.a1, .int .i64 v129.Deepest.a2, .int .i64 v129.Deepest.a3, .int .i64 v129.Deepest.a4, .int .i64 v129.Deepest.a5, .int .i64 v129.WakeDevice, .int .i64 v129.WakeSystem]) ⟨A117, cap118, A120, cap121, A123, cap124, A126, cap127, rfl, h119, h122, h125, h128⟩ Rows.nil)) (fun _ _ g' hR _ => ⟨g', hC.trans hR.2 (fun _ h => h.elim)⟩) ?_) (arm_eff hS331 rfl rfl rfl (e_lit (e := 3) (parts := [(0, .int .i64 4)]) (cs := [.int .i64 4]) (kint .i64) [4] (N + 17) g116 hS331 rfl rfl (fun _ => by kernel_rfl) rfl (by decide) (Rows.cons (cs := [.int .i64 4]) rfl Rows.nil)) (fun _ _ g' hR _ => ⟨g', hC.trans hR.2 (fun _ h => h.elim)⟩) ?_)
                    · rintro _ a335 w336 g336 ⟨⟨A332, rfl, h333⟩, F336⟩ hS335
                      have hC336 := hC.trans F336 (fun _ h => h.elim)
                      replace h110 := h110.fr F336 (fun h => h)
                      replace h39 := h39.fr F336 (fun h => h)
                      replace h43 := OwS.fr h43 F336 (fun _ _ h => h)
                      replace h49 := h49.fr F336 (fun h => h)
                      replace h70 := OwD.fr h70 F336 (fun h => h) (fun _ _ h => h)
                      replace h73 := OwS.fr h73 F336 (fun _ _ h => h)
                      replace h119 := RdS.fr h119 F336 (by decide) (fun _ _ h => h)
                      replace h122 := RdS.fr h122 F336 (by decide) (fun _ _ h => h)
                      replace h125 := RdS.fr h125 F336 (by decide) (fun _ _ h => h)
                      replace h128 := RdS.fr h128 F336 (by decide) (fun _ _ h => h)
                      replace hp0 := RdS.fr hp0 F336 (by decide) (fun _ _ h => h)
                      replace hF := hF.trans F336 (fun _ h => h.elim)
                      refine d_two 8 13 #[true, true, true, true, true, true, true, true, true, true, true, true, true, false, false, false, false, false, false, false, false] #[true, true, true, true, true, true, true, true, false, true, true, true, true, true, false, false, false, false, false, false, false] rfl rfl (by kernel_rfl) (arm_eff hS335 rfl rfl rfl (e_appendD (D := (fun q => C0 q ∨ q = N + 13 + 1)) (e := 33) (sz := 13) (by_ := 168) (z := [.int .i64 0, .slice none 0 0, .slice none 0 0, .slice none 0 0, .slice none 0 0, .int .i64 0, .int .i64 0, .int .i64 0, .int .i64 0, .int .i64 0, .int .i64 0, .int .i64 0, .int .i64 0]) (kd := kd_api_PowerDevice) g336 hS335 rfl rfl rfl rfl (by kernel_rfl) (by kernel_rfl) rfl rfl rfl rfl h70 (fun q (hq : C0 q ∨ q = N + 13 + 1) => by rcases hq with hq | hq; all_goals first | (have := hC0 q hq; omega; done) | (omega; done)) (OwD.rdx h333) (fun _ _ _ h => Kd.re kd_api_PowerDevice (fun _ _ e => (fun _ h => h) _ e) h) hy202) (fun _ _ g' hR _ => ⟨g', hC336.trans hR.2 (fun c' (hm : c' = N + 13) => by show c' = N + 13 ∨ c' = N + 19; omega)⟩) ?_) (arm_eff hS335 rfl rfl rfl (e_lit (e := 3) (parts := [(0, .int .i64 4)]) (cs := [.int .i64 4]) (kint .i64) [4] (N + 17) g336 hS335 rfl rfl (fun _ => by kernel_rfl) rfl (by decide) (Rows.cons (cs := [.int .i64 4]) rfl Rows.nil)) (fun _ _ g' hR _ => ⟨g', hC336.trans hR.2 (fun _ h => h.elim)⟩) ?_)
                      · rintro _ a341 w342 g342 ⟨⟨A337, cap338, rfl, h339⟩, F342⟩ hS341
                        have hC342 := hC336.trans F342 (fun c' (hm : c' = N + 13) => by show c' = N + 13 ∨ c' = N + 19; omega)
                        replace h110 := h110.fr F342 (fun (hm : N + 9 = N + 13) => by omega)
                        replace h333 := OwD.fr h333 F342 (fun (hm : N + 15 = N + 13) => by omega) (fun q (hq : C0 q ∨ q = N + 13 + 1) (hm : q = N + 13) => by rcases hq with hq | hq; all_goals first | (have := hC0 q hq; omega; done) | (omega; done))
                        replace h39 := h39.fr F342 (fun (hm : N + 0 = N + 13) => by omega)
                        replace h43 := OwS.fr h43 F342 (fun c' hc (hm : c' = N + 13) => by omega)
                        replace h49 := h49.fr F342 (fun (hm : N + 3 = N + 13) => by omega)
                        replace h73 := OwS.fr h73 F342 (fun c' hc (hm : c' = N + 13) => by omega)
                        replace h119 := RdS.fr h119 F342 (by decide) (fun q (hq : C0 q ∨ q = N + 13 + 1) (hm : q = N + 13) => by rcases hq with hq | hq; all_goals first | (have := hC0 q hq; omega; done) | (omega; done))
                        replace h122 := RdS.fr h122 F342 (by decide) (fun q (hq : C0 q ∨ q = N + 13 + 1) (hm : q = N + 13) => by rcases hq with hq | hq; all_goals first | (have := hC0 q hq; omega; done) | (omega; done))
                        replace h125 := RdS.fr h125 F342 (by decide) (fun q (hq : C0 q ∨ q = N + 13 + 1) (hm : q = N + 13) => by rcases hq with hq | hq; all_goals first | (have := hC0 q hq; omega; done) | (omega; done))
                        replace h128 := RdS.fr h128 F342 (by decide) (fun q (hq : C0 q ∨ q = N + 13 + 1) (hm : q = N + 13) => by rcases hq with hq | hq; all_goals first | (have := hC0 q hq; omega; done) | (omega; done))
                        replace hp0 := RdS.fr hp0 F342 (by decide) (fun q (hq : C0 q) (hm : q = N + 13) => by have := hC0 q hq; omega)
                        replace hF := hF.trans F342 (fun c' (hm : c' = N + 13) => by show (r0 ≤ c' ∧ c' < r0 + 8) ∨ N ≤ c'; omega)
                        refine d_one 13 #[true, true, true, true, true, true, true, true, true, true, true, true, true, true, false, false, false, false, false, false, false] rfl (by kernel_rfl) (arm_eff hS341 rfl rfl rfl (e_lit (e := 3) (parts := [(0, .int .i64 4)]) (cs := [.int .i64 4]) (kint .i64) [4] (N + 17) g342 hS341 rfl rfl (fun _ => by kernel_rfl) rfl (by decide) (Rows.cons (cs := [.int .i64 4]) rfl Rows.nil)) (fun _ _ g' hR _ => ⟨g', hC342.trans hR.2 (fun _ h => h.elim)⟩) ?_)
                        rintro _ a346 w347 g347 ⟨⟨A343, rfl, h344⟩, F347⟩ hS346
                        have hC347 := hC342.trans F347 (fun _ h => h.elim)
                        replace h110 := h110.fr F347 (fun h => h)
                        replace h333 := OwD.fr h333 F347 (fun h => h) (fun _ _ h => h)
                        replace h339 := OwD.fr h339 F347 (fun h => h) (fun _ _ h => h)
                        replace h39 := h39.fr F347 (fun h => h)
                        replace h43 := OwS.fr h43 F347 (fun _ _ h => h)
                        replace h49 := h49.fr F347 (fun h => h)
                        replace h73 := OwS.fr h73 F347 (fun _ _ h => h)
                        replace h119 := RdS.fr h119 F347 (by decide) (fun _ _ h => h)
                        replace h122 := RdS.fr h122 F347 (by decide) (fun _ _ h => h)
                        replace h125 := RdS.fr h125 F347 (by decide) (fun _ _ h => h)
                        replace h128 := RdS.fr h128 F347 (by decide) (fun _ _ h => h)
                        replace hp0 := RdS.fr hp0 F347 (by decide) (fun _ _ h => h)
                        replace hF := hF.trans F347 (fun _ h => h.elim)
                        refine d_one 14 #[true, true, true, true, true, true, true, true, true, true, true, true, true, true, true, false, false, false, false, false, false] rfl (by kernel_rfl) (arm_eff hS346 rfl rfl rfl (e_append (e := 3) (sz := 1) (by_ := 8) (z := [.int .i64 0]) (kd := (kint .i64)) g347 hS346 rfl rfl rfl rfl (by kernel_rfl) (by kernel_rfl) rfl rfl rfl rfl h73 (OwD.rdx h344) (fun _ _ _ h => h) hy211) (fun _ _ g' hR _ => ⟨g', hC347.trans hR.2 (fun c' (hm : c' = N + 19) => by show c' = N + 13 ∨ c' = N + 19; omega)⟩) ?_)
                        rintro _ a352 w353 g353 ⟨⟨A348, cap349, rfl, h350⟩, F353⟩ hS352
                        have hC353 := hC347.trans F353 (fun c' (hm : c' = N + 19) => by show c' = N + 13 ∨ c' = N + 19; omega)
                        replace h110 := h110.fr F353 (fun (hm : N + 9 = N + 19) => by omega)
                        replace h333 := OwD.fr h333 F353 (fun (hm : N + 15 = N + 19) => by omega) (fun q (hq : C0 q ∨ q = N + 13 + 1) (hm : q = N + 19) => by rcases hq with hq | hq; all_goals first | (have := hC0 q hq; omega; done) | (omega; done))
                        replace h339 := OwD.fr h339 F353 (fun (hm : N + 13 = N + 19) => by omega) (fun q (hq : C0 q ∨ q = N + 13 + 1) (hm : q = N + 19) => by rcases hq with hq | hq; all_goals first | (have := hC0 q hq; omega; done) | (omega; done))
                        replace h344 := OwS.fr h344 F353 (fun c' hc (hm : c' = N + 19) => by omega)
                        replace h39 := h39.fr F353 (fun (hm : N + 0 = N + 19) => by omega)
                        replace h43 := OwS.fr h43 F353 (fun c' hc (hm : c' = N + 19) => by omega)
                        replace h49 := h49.fr F353 (fun (hm : N + 3 = N + 19) => by omega)
                        replace h119 := RdS.fr h119 F353 (by decide) (fun q (hq : C0 q ∨ q = N + 13 + 1) (hm : q = N + 19) => by rcases hq with hq | hq; all_goals first | (have := hC0 q hq; omega; done) | (omega; done))
                        replace h122 := RdS.fr h122 F353 (by decide) (fun q (hq : C0 q ∨ q = N + 13 + 1) (hm : q = N + 19) => by rcases hq with hq | hq; all_goals first | (have := hC0 q hq; omega; done) | (omega; done))
                        replace h125 := RdS.fr h125 F353 (by decide) (fun q (hq : C0 q ∨ q = N + 13 + 1) (hm : q = N + 19) => by rcases hq with hq | hq; all_goals first | (have := hC0 q hq; omega; done) | (omega; done))
                        replace h128 := RdS.fr h128 F353 (by decide) (fun q (hq : C0 q ∨ q = N + 13 + 1) (hm : q = N + 19) => by rcases hq with hq | hq; all_goals first | (have := hC0 q hq; omega; done) | (omega; done))
                        replace hp0 := RdS.fr hp0 F353 (by decide) (fun q (hq : C0 q) (hm : q = N + 19) => by have := hC0 q hq; omega)
                        replace hF := hF.trans F353 (fun c' (hm : c' = N + 19) => by show (r0 ≤ c' ∧ c' < r0 + 8) ∨ N ≤ c'; omega)
                        refine d_pure hS352 15 #[true, true, true, true, true, true, true, true, true, true, true, true, true, true, true, true, false, false, false, false, false] rfl rfl rfl rfl (by kernel_rfl) (fun _ _ _ h => h) (fun _ => (r_nil hS352 rfl rfl)) fun a354 hS354 => d_pure hS354 16 #[true, true, true, true, true, true, true, true, true, true, true, true, true, true, true, true, true, false, false, false, false] rfl rfl rfl rfl (by kernel_rfl) (fun _ _ _ h => h) (fun _ => (r_fieldB (off := 0) hS354 rfl rfl (by kernel_rfl))) fun a355 hS355 => ?_
                        refine d_one 17 #[true, true, true, true, true, true, true, true, true, true, true, true, true, true, true, true, true, true, false, false, false] rfl (by kernel_rfl) (arm_effS hS355 rfl rfl (e_storeB (n := 1) (bb := false) (cs' := [.slice A337 y201.length cap338, .slice A71 m0_0.state.length cap72, .pointer (some ⟨b38, 0, none⟩), .int .u64 m0_0.now]) g353 hS355 rfl rfl rfl (by kernel_rfl) rfl rfl rfl h49 rfl rfl) (.inl (by decide)) ?_)
                        rintro a356 w357 g357 ⟨h49, F357⟩ hS356
                        replace h110 := h110.fr F357 (fun (hm : N + 9 = N + 3) => by omega)
                        replace h333 := OwD.fr h333 F357 (fun (hm : N + 15 = N + 3) => by omega) (fun q (hq : C0 q ∨ q = N + 13 + 1) (hm : q = N + 3) => by rcases hq with hq | hq; all_goals first | (have := hC0 q hq; omega; done) | (omega; done))
                        replace h339 := OwD.fr h339 F357 (fun (hm : N + 13 = N + 3) => by omega) (fun q (hq : C0 q ∨ q = N + 13 + 1) (hm : q = N + 3) => by rcases hq with hq | hq; all_goals first | (have := hC0 q hq; omega; done) | (omega; done))
                        replace h344 := OwS.fr h344 F357 (fun c' hc (hm : c' = N + 3) => by omega)
                        replace h350 := OwS.fr h350 F357 (fun c' hc (hm : c' = N + 3) => by omega)
                        replace h39 := h39.fr F357 (fun (hm : N + 0 = N + 3) => by omega)
                        replace h43 := OwS.fr h43 F357 (fun c' hc (hm : c' = N + 3) => by omega)
                        replace h119 := RdS.fr h119 F357 (by decide) (fun q (hq : C0 q ∨ q = N + 13 + 1) (hm : q = N + 3) => by rcases hq with hq | hq; all_goals first | (have := hC0 q hq; omega; done) | (omega; done))
                        replace h122 := RdS.fr h122 F357 (by decide) (fun q (hq : C0 q ∨ q = N + 13 + 1) (hm : q = N + 3) => by rcases hq with hq | hq; all_goals first | (have := hC0 q hq; omega; done) | (omega; done))
                        replace h125 := RdS.fr h125 F357 (by decide) (fun q (hq : C0 q ∨ q = N + 13 + 1) (hm : q = N + 3) => by rcases hq with hq | hq; all_goals first | (have := hC0 q hq; omega; done) | (omega; done))
                        replace h128 := RdS.fr h128 F357 (by decide) (fun q (hq : C0 q ∨ q = N + 13 + 1) (hm : q = N + 3) => by rcases hq with hq | hq; all_goals first | (have := hC0 q hq; omega; done) | (omega; done))
                        replace hp0 := RdS.fr hp0 F357 (by decide) (fun q (hq : C0 q) (hm : q = N + 3) => by have := hC0 q hq; omega)
                        replace hF := hF.trans F357 (fun c' (hm : c' = N + 3) => by show (r0 ≤ c' ∧ c' < r0 + 8) ∨ N ≤ c'; omega)
                        refine d_pure hS356 18 #[true, true, true, true, true, true, true, true, true, true, true, true, true, true, true, true, true, true, true, false, false] rfl rfl rfl rfl (by kernel_rfl) (fun _ _ _ h => h) (fun _ => (r_nil hS356 rfl rfl)) fun a358 hS358 => d_pure hS358 19 #[true, true, true, true, true, true, true, true, true, true, true, true, true, true, true, true, true, true, true, true, false] rfl rfl rfl rfl (by kernel_rfl) (fun _ _ _ h => h) (fun _ => (r_fieldB (off := 1) hS358 rfl rfl (by kernel_rfl))) fun a359 hS359 => ?_
                        refine d_one 20 #[true, true, true, true, true, true, true, true, true, true, true, true, true, true, true, true, true, true, true, true, true] rfl (by kernel_rfl) (arm_effS hS359 rfl rfl (e_storeB (n := 1) (bb := false) (cs' := [.slice A337 y201.length cap338, .slice A348 y210.length cap349, .pointer (some ⟨b38, 0, none⟩), .int .u64 m0_0.now]) g357 hS359 rfl rfl rfl (by kernel_rfl) rfl rfl rfl h49 rfl rfl) (.inl (by decide)) ?_)
                        rintro a360 w361 g361 ⟨h49, F361⟩ hS360
                        replace h110 := h110.fr F361 (fun (hm : N + 9 = N + 3) => by omega)
                        replace h333 := OwD.fr h333 F361 (fun (hm : N + 15 = N + 3) => by omega) (fun q (hq : C0 q ∨ q = N + 13 + 1) (hm : q = N + 3) => by rcases hq with hq | hq; all_goals first | (have := hC0 q hq; omega; done) | (omega; done))
                        replace h339 := OwD.fr h339 F361 (fun (hm : N + 13 = N + 3) => by omega) (fun q (hq : C0 q ∨ q = N + 13 + 1) (hm : q = N + 3) => by rcases hq with hq | hq; all_goals first | (have := hC0 q hq; omega; done) | (omega; done))
                        replace h344 := OwS.fr h344 F361 (fun c' hc (hm : c' = N + 3) => by omega)
                        replace h350 := OwS.fr h350 F361 (fun c' hc (hm : c' = N + 3) => by omega)
                        replace h39 := h39.fr F361 (fun (hm : N + 0 = N + 3) => by omega)
                        replace h43 := OwS.fr h43 F361 (fun c' hc (hm : c' = N + 3) => by omega)
                        replace h119 := RdS.fr h119 F361 (by decide) (fun q (hq : C0 q ∨ q = N + 13 + 1) (hm : q = N + 3) => by rcases hq with hq | hq; all_goals first | (have := hC0 q hq; omega; done) | (omega; done))
                        replace h122 := RdS.fr h122 F361 (by decide) (fun q (hq : C0 q ∨ q = N + 13 + 1) (hm : q = N + 3) => by rcases hq with hq | hq; all_goals first | (have := hC0 q hq; omega; done) | (omega; done))
                        replace h125 := RdS.fr h125 F361 (by decide) (fun q (hq : C0 q ∨ q = N + 13 + 1) (hm : q = N + 3) => by rcases hq with hq | hq; all_goals first | (have := hC0 q hq; omega; done) | (omega; done))
                        replace h128 := RdS.fr h128 F361 (by decide) (fun q (hq : C0 q ∨ q = N + 13 + 1) (hm : q = N + 3) => by rcases hq with hq | hq; all_goals first | (have := hC0 q hq; omega; done) | (omega; done))
                        replace hp0 := RdS.fr hp0 F361 (by decide) (fun q (hq : C0 q) (hm : q = N + 3) => by have := hC0 q hq; omega)
                        replace hF := hF.trans F361 (fun c' (hm : c' = N + 3) => by show (r0 ≤ c' ∧ c' < r0 + 8) ∨ N ≤ c'; omega)
                        refine d_done (by kernel_rfl) ?_
                        exact ⟨g361, A337, cap338, A348, cap349, hS360.re ⟨rfl, rfl, rfl, rfl, trivial⟩, h39, h43, h49, h339, h350, hp0, hF⟩
                      · rintro _ a365 w366 g366 ⟨⟨A362, rfl, h363⟩, F366⟩ hS365
                        have hC366 := hC336.trans F366 (fun _ h => h.elim)
                        replace h110 := h110.fr F366 (fun h => h)
                        replace h333 := OwD.fr h333 F366 (fun h => h) (fun _ _ h => h)
                        replace h39 := h39.fr F366 (fun h => h)
                        replace h43 := OwS.fr h43 F366 (fun _ _ h => h)
                        replace h49 := h49.fr F366 (fun h => h)
                        replace h70 := OwD.fr h70 F366 (fun h => h) (fun _ _ h => h)
                        replace h73 := OwS.fr h73 F366 (fun _ _ h => h)
                        replace h119 := RdS.fr h119 F366 (by decide) (fun _ _ h => h)
                        replace h122 := RdS.fr h122 F366 (by decide) (fun _ _ h => h)
                        replace h125 := RdS.fr h125 F366 (by decide) (fun _ _ h => h)
                        replace h128 := RdS.fr h128 F366 (by decide) (fun _ _ h => h)
                        replace hp0 := RdS.fr hp0 F366 (by decide) (fun _ _ h => h)
                        replace hF := hF.trans F366 (fun _ h => h.elim)
                        refine d_one 8 #[true, true, true, true, true, true, true, true, true, true, true, true, true, true, false, false, false, false, false, false, false] rfl (by kernel_rfl) (arm_eff hS365 rfl rfl rfl (e_appendD (D := (fun q => C0 q ∨ q = N + 13 + 1)) (e := 33) (sz := 13) (by_ := 168) (z := [.int .i64 0, .slice none 0 0, .slice none 0 0, .slice none 0 0, .slice none 0 0, .int .i64 0, .int .i64 0, .int .i64 0, .int .i64 0, .int .i64 0, .int .i64 0, .int .i64 0, .int .i64 0]) (kd := kd_api_PowerDevice) g366 hS365 rfl rfl rfl rfl (by kernel_rfl) (by kernel_rfl) rfl rfl rfl rfl h70 (fun q (hq : C0 q ∨ q = N + 13 + 1) => by rcases hq with hq | hq; all_goals first | (have := hC0 q hq; omega; done) | (omega; done)) (OwD.rdx h333) (fun _ _ _ h => Kd.re kd_api_PowerDevice (fun _ _ e => (fun _ h => h) _ e) h) hy202) (fun _ _ g' hR _ => ⟨g', hC366.trans hR.2 (fun c' (hm : c' = N + 13) => by show c' = N + 13 ∨ c' = N + 19; omega)⟩) ?_)
                        rintro _ a371 w372 g372 ⟨⟨A367, cap368, rfl, h369⟩, F372⟩ hS371
                        have hC372 := hC366.trans F372 (fun c' (hm : c' = N + 13) => by show c' = N + 13 ∨ c' = N + 19; omega)
                        replace h110 := h110.fr F372 (fun (hm : N + 9 = N + 13) => by omega)
                        replace h333 := OwD.fr h333 F372 (fun (hm : N + 15 = N + 13) => by omega) (fun q (hq : C0 q ∨ q = N + 13 + 1) (hm : q = N + 13) => by rcases hq with hq | hq; all_goals first | (have := hC0 q hq; omega; done) | (omega; done))
                        replace h363 := OwS.fr h363 F372 (fun c' hc (hm : c' = N + 13) => by omega)
                        replace h39 := h39.fr F372 (fun (hm : N + 0 = N + 13) => by omega)
                        replace h43 := OwS.fr h43 F372 (fun c' hc (hm : c' = N + 13) => by omega)
                        replace h49 := h49.fr F372 (fun (hm : N + 3 = N + 13) => by omega)
                        replace h73 := OwS.fr h73 F372 (fun c' hc (hm : c' = N + 13) => by omega)
                        replace h119 := RdS.fr h119 F372 (by decide) (fun q (hq : C0 q ∨ q = N + 13 + 1) (hm : q = N + 13) => by rcases hq with hq | hq; all_goals first | (have := hC0 q hq; omega; done) | (omega; done))
                        replace h122 := RdS.fr h122 F372 (by decide) (fun q (hq : C0 q ∨ q = N + 13 + 1) (hm : q = N + 13) => by rcases hq with hq | hq; all_goals first | (have := hC0 q hq; omega; done) | (omega; done))
                        replace h125 := RdS.fr h125 F372 (by decide) (fun q (hq : C0 q ∨ q = N + 13 + 1) (hm : q = N + 13) => by rcases hq with hq | hq; all_goals first | (have := hC0 q hq; omega; done) | (omega; done))
                        replace h128 := RdS.fr h128 F372 (by decide) (fun q (hq : C0 q ∨ q = N + 13 + 1) (hm : q = N + 13) => by rcases hq with hq | hq; all_goals first | (have := hC0 q hq; omega; done) | (omega; done))
                        replace hp0 := RdS.fr hp0 F372 (by decide) (fun q (hq : C0 q) (hm : q = N + 13) => by have := hC0 q hq; omega)
                        replace hF := hF.trans F372 (fun c' (hm : c' = N + 13) => by show (r0 ≤ c' ∧ c' < r0 + 8) ∨ N ≤ c'; omega)
                        refine d_one 14 #[true, true, true, true, true, true, true, true, true, true, true, true, true, true, true, false, false, false, false, false, false] rfl (by kernel_rfl) (arm_eff hS371 rfl rfl rfl (e_append (e := 3) (sz := 1) (by_ := 8) (z := [.int .i64 0]) (kd := (kint .i64)) g372 hS371 rfl rfl rfl rfl (by kernel_rfl) (by kernel_rfl) rfl rfl rfl rfl h73 (OwD.rdx h363) (fun _ _ _ h => h) hy211) (fun _ _ g' hR _ => ⟨g', hC372.trans hR.2 (fun c' (hm : c' = N + 19) => by show c' = N + 13 ∨ c' = N + 19; omega)⟩) ?_)
                        rintro _ a377 w378 g378 ⟨⟨A373, cap374, rfl, h375⟩, F378⟩ hS377
                        have hC378 := hC372.trans F378 (fun c' (hm : c' = N + 19) => by show c' = N + 13 ∨ c' = N + 19; omega)
                        replace h110 := h110.fr F378 (fun (hm : N + 9 = N + 19) => by omega)
                        replace h333 := OwD.fr h333 F378 (fun (hm : N + 15 = N + 19) => by omega) (fun q (hq : C0 q ∨ q = N + 13 + 1) (hm : q = N + 19) => by rcases hq with hq | hq; all_goals first | (have := hC0 q hq; omega; done) | (omega; done))
                        replace h363 := OwS.fr h363 F378 (fun c' hc (hm : c' = N + 19) => by omega)
                        replace h369 := OwD.fr h369 F378 (fun (hm : N + 13 = N + 19) => by omega) (fun q (hq : C0 q ∨ q = N + 13 + 1) (hm : q = N + 19) => by rcases hq with hq | hq; all_goals first | (have := hC0 q hq; omega; done) | (omega; done))
                        replace h39 := h39.fr F378 (fun (hm : N + 0 = N + 19) => by omega)
                        replace h43 := OwS.fr h43 F378 (fun c' hc (hm : c' = N + 19) => by omega)
                        replace h49 := h49.fr F378 (fun (hm : N + 3 = N + 19) => by omega)
                        replace h119 := RdS.fr h119 F378 (by decide) (fun q (hq : C0 q ∨ q = N + 13 + 1) (hm : q = N + 19) => by rcases hq with hq | hq; all_goals first | (have := hC0 q hq; omega; done) | (omega; done))
                        replace h122 := RdS.fr h122 F378 (by decide) (fun q (hq : C0 q ∨ q = N + 13 + 1) (hm : q = N + 19) => by rcases hq with hq | hq; all_goals first | (have := hC0 q hq; omega; done) | (omega; done))
                        replace h125 := RdS.fr h125 F378 (by decide) (fun q (hq : C0 q ∨ q = N + 13 + 1) (hm : q = N + 19) => by rcases hq with hq | hq; all_goals first | (have := hC0 q hq; omega; done) | (omega; done))
                        replace h128 := RdS.fr h128 F378 (by decide) (fun q (hq : C0 q ∨ q = N + 13 + 1) (hm : q = N + 19) => by rcases hq with hq | hq; all_goals first | (have := hC0 q hq; omega; done) | (omega; done))
                        replace hp0 := RdS.fr hp0 F378 (by decide) (fun q (hq : C0 q) (hm : q = N + 19) => by have := hC0 q hq; omega)
                        replace hF := hF.trans F378 (fun c' (hm : c' = N + 19) => by show (r0 ≤ c' ∧ c' < r0 + 8) ∨ N ≤ c'; omega)
                        refine d_pure hS377 15 #[true, true, true, true, true, true, true, true, true, true, true, true, true, true, true, true, false, false, false, false, false] rfl rfl rfl rfl (by kernel_rfl) (fun _ _ _ h => h) (fun _ => (r_nil hS377 rfl rfl)) fun a379 hS379 => d_pure hS379 16 #[true, true, true, true, true, true, true, true, true, true, true, true, true, true, true, true, true, false, false, false, false] rfl rfl rfl rfl (by kernel_rfl) (fun _ _ _ h => h) (fun _ => (r_fieldB (off := 0) hS379 rfl rfl (by kernel_rfl))) fun a380 hS380 => ?_
                        refine d_one 17 #[true, true, true, true, true, true, true, true, true, true, true, true, true, true, true, true, true, true, false, false, false] rfl (by kernel_rfl) (arm_effS hS380 rfl rfl (e_storeB (n := 1) (bb := false) (cs' := [.slice A367 y201.length cap368, .slice A71 m0_0.state.length cap72, .pointer (some ⟨b38, 0, none⟩), .int .u64 m0_0.now]) g378 hS380 rfl rfl rfl (by kernel_rfl) rfl rfl rfl h49 rfl rfl) (.inl (by decide)) ?_)
                        rintro a381 w382 g382 ⟨h49, F382⟩ hS381
                        replace h110 := h110.fr F382 (fun (hm : N + 9 = N + 3) => by omega)
                        replace h333 := OwD.fr h333 F382 (fun (hm : N + 15 = N + 3) => by omega) (fun q (hq : C0 q ∨ q = N + 13 + 1) (hm : q = N + 3) => by rcases hq with hq | hq; all_goals first | (have := hC0 q hq; omega; done) | (omega; done))
                        replace h363 := OwS.fr h363 F382 (fun c' hc (hm : c' = N + 3) => by omega)
                        replace h369 := OwD.fr h369 F382 (fun (hm : N + 13 = N + 3) => by omega) (fun q (hq : C0 q ∨ q = N + 13 + 1) (hm : q = N + 3) => by rcases hq with hq | hq; all_goals first | (have := hC0 q hq; omega; done) | (omega; done))
                        replace h375 := OwS.fr h375 F382 (fun c' hc (hm : c' = N + 3) => by omega)
                        replace h39 := h39.fr F382 (fun (hm : N + 0 = N + 3) => by omega)
                        replace h43 := OwS.fr h43 F382 (fun c' hc (hm : c' = N + 3) => by omega)
                        replace h119 := RdS.fr h119 F382 (by decide) (fun q (hq : C0 q ∨ q = N + 13 + 1) (hm : q = N + 3) => by rcases hq with hq | hq; all_goals first | (have := hC0 q hq; omega; done) | (omega; done))
                        replace h122 := RdS.fr h122 F382 (by decide) (fun q (hq : C0 q ∨ q = N + 13 + 1) (hm : q = N + 3) => by rcases hq with hq | hq; all_goals first | (have := hC0 q hq; omega; done) | (omega; done))
                        replace h125 := RdS.fr h125 F382 (by decide) (fun q (hq : C0 q ∨ q = N + 13 + 1) (hm : q = N + 3) => by rcases hq with hq | hq; all_goals first | (have := hC0 q hq; omega; done) | (omega; done))
                        replace h128 := RdS.fr h128 F382 (by decide) (fun q (hq : C0 q ∨ q = N + 13 + 1) (hm : q = N + 3) => by rcases hq with hq | hq; all_goals first | (have := hC0 q hq; omega; done) | (omega; done))
                        replace hp0 := RdS.fr hp0 F382 (by decide) (fun q (hq : C0 q) (hm : q = N + 3) => by have := hC0 q hq; omega)
                        replace hF := hF.trans F382 (fun c' (hm : c' = N + 3) => by show (r0 ≤ c' ∧ c' < r0 + 8) ∨ N ≤ c'; omega)
                        refine d_pure hS381 18 #[true, true, true, true, true, true, true, true, true, true, true, true, true, true, true, true, true, true, true, false, false] rfl rfl rfl rfl (by kernel_rfl) (fun _ _ _ h => h) (fun _ => (r_nil hS381 rfl rfl)) fun a383 hS383 => d_pure hS383 19 #[true, true, true, true, true, true, true, true, true, true, true, true, true, true, true, true, true, true, true, true, false] rfl rfl rfl rfl (by kernel_rfl) (fun _ _ _ h => h) (fun _ => (r_fieldB (off := 1) hS383 rfl rfl (by kernel_rfl))) fun a384 hS384 => ?_
                        refine d_one 20 #[true, true, true, true, true, true, true, true, true, true, true, true, true, true, true, true, true, true, true, true, true] rfl (by kernel_rfl) (arm_effS hS384 rfl rfl (e_storeB (n := 1) (bb := false) (cs' := [.slice A367 y201.length cap368, .slice A373 y210.length cap374, .pointer (some ⟨b38, 0, none⟩), .int .u64 m0_0.now]) g382 hS384 rfl rfl rfl (by kernel_rfl) rfl rfl rfl h49 rfl rfl) (.inl (by decide)) ?_)
                        rintro a385 w386 g386 ⟨h49, F386⟩ hS385
                        replace h110 := h110.fr F386 (fun (hm : N + 9 = N + 3) => by omega)
                        replace h333 := OwD.fr h333 F386 (fun (hm : N + 15 = N + 3) => by omega) (fun q (hq : C0 q ∨ q = N + 13 + 1) (hm : q = N + 3) => by rcases hq with hq | hq; all_goals first | (have := hC0 q hq; omega; done) | (omega; done))
                        replace h363 := OwS.fr h363 F386 (fun c' hc (hm : c' = N + 3) => by omega)
                        replace h369 := OwD.fr h369 F386 (fun (hm : N + 13 = N + 3) => by omega) (fun q (hq : C0 q ∨ q = N + 13 + 1) (hm : q = N + 3) => by rcases hq with hq | hq; all_goals first | (have := hC0 q hq; omega; done) | (omega; done))
                        replace h375 := OwS.fr h375 F386 (fun c' hc (hm : c' = N + 3) => by omega)
                        replace h39 := h39.fr F386 (fun (hm : N + 0 = N + 3) => by omega)
                        replace h43 := OwS.fr h43 F386 (fun c' hc (hm : c' = N + 3) => by omega)
                        replace h119 := RdS.fr h119 F386 (by decide) (fun q (hq : C0 q ∨ q = N + 13 + 1) (hm : q = N + 3) => by rcases hq with hq | hq; all_goals first | (have := hC0 q hq; omega; done) | (omega; done))
                        replace h122 := RdS.fr h122 F386 (by decide) (fun q (hq : C0 q ∨ q = N + 13 + 1) (hm : q = N + 3) => by rcases hq with hq | hq; all_goals first | (have := hC0 q hq; omega; done) | (omega; done))
                        replace h125 := RdS.fr h125 F386 (by decide) (fun q (hq : C0 q ∨ q = N + 13 + 1) (hm : q = N + 3) => by rcases hq with hq | hq; all_goals first | (have := hC0 q hq; omega; done) | (omega; done))
                        replace h128 := RdS.fr h128 F386 (by decide) (fun q (hq : C0 q ∨ q = N + 13 + 1) (hm : q = N + 3) => by rcases hq with hq | hq; all_goals first | (have := hC0 q hq; omega; done) | (omega; done))
                        replace hp0 := RdS.fr hp0 F386 (by decide) (fun q (hq : C0 q) (hm : q = N + 3) => by have := hC0 q hq; omega)
                        replace hF := hF.trans F386 (fun c' (hm : c' = N + 3) => by show (r0 ≤ c' ∧ c' < r0 + 8) ∨ N ≤ c'; omega)
                        refine d_done (by kernel_rfl) ?_
                        exact ⟨g386, A367, cap368, A373, cap374, hS385.re ⟨rfl, rfl, rfl, rfl, trivial⟩, h39, h43, h49, h369, h375, hp0, hF⟩
                    · rintro _ a390 w391 g391 ⟨⟨A387, rfl, h388⟩, F391⟩ hS390
                      have hC391 := hC.trans F391 (fun _ h => h.elim)
                      replace h110 := h110.fr F391 (fun h => h)
                      replace h39 := h39.fr F391 (fun h => h)
                      replace h43 := OwS.fr h43 F391 (fun _ _ h => h)
                      replace h49 := h49.fr F391 (fun h => h)
                      replace h70 := OwD.fr h70 F391 (fun h => h) (fun _ _ h => h)
                      replace h73 := OwS.fr h73 F391 (fun _ _ h => h)
                      replace h119 := RdS.fr h119 F391 (by decide) (fun _ _ h => h)
                      replace h122 := RdS.fr h122 F391 (by decide) (fun _ _ h => h)
                      replace h125 := RdS.fr h125 F391 (by decide) (fun _ _ h => h)
                      replace h128 := RdS.fr h128 F391 (by decide) (fun _ _ h => h)
                      replace hp0 := RdS.fr hp0 F391 (by decide) (fun _ _ h => h)
                      replace hF := hF.trans F391 (fun _ h => h.elim)
                      refine d_one 7 #[true, true, true, true, true, true, true, true, false, true, true, true, true, true, false, false, false, false, false, false, false] rfl (by kernel_rfl) (arm_eff hS390 rfl rfl rfl (e_litD (D := (fun q => C0 q ∨ q = N + 13 + 1)) (e := 33) (parts := [(0, .agg #[.int .i64 v129.Parent, .slice A117 v129.Rails.a0.length cap118, .slice A120 v129.Rails.a1.length cap121, .slice A123 v129.Rails.a2.length cap124, .slice A126 v129.Rails.a3.length cap127, .int .i64 v129.Deepest.a0, .int .i64 v129.Deepest.a1, .int .i64 v129.Deepest.a2, .int .i64 v129.Deepest.a3, .int .i64 v129.Deepest.a4, .int .i64 v129.Deepest.a5, .int .i64 v129.WakeDevice, .int .i64 v129.WakeSystem])]) (cs := [.int .i64 v129.Parent, .slice A117 v129.Rails.a0.length cap118, .slice A120 v129.Rails.a1.length cap121, .slice A123 v129.Rails.a2.length cap124, .slice A126 v129.Rails.a3.length cap127, .int .i64 v129.Deepest.a0, .int .i64 v129.Deepest.a1, .int .i64 v129.Deepest.a2, .int .i64 v129.Deepest.a3, .int .i64 v129.Deepest.a4, .int .i64 v129.Deepest.a5, .int .i64 v129.WakeDevice, .int .i64 v129.WakeSystem]) kd_api_PowerDevice [v129] (N + 15) g391 hS390 rfl rfl (fun _ => by kernel_rfl) rfl (by decide) (Rows.cons (cs := [.int .i64 v129.Parent, .slice A117 v129.Rails.a0.length cap118, .slice A120 v129.Rails.a1.length cap121, .slice A123 v129.Rails.a2.length cap124, .slice A126 v129.Rails.a3.length cap127, .int .i64 v129.Deepest.a0, .int .i64 v129.Deepest.a1, .int .i64 v129.Deepest.a2, .int .i64 v129.Deepest.a3, .int .i64 v129.Deepest.a4, .int .i64 v129.Deepest.a5, .int .i64 v129.WakeDevice, .int .i64 v129.WakeSystem]) ⟨A117, cap118, A120, cap121, A123, cap124, A126, cap127, rfl, h119, h122, h125, h128⟩ Rows.nil)) (fun _ _ g' hR _ => ⟨g', hC391.trans hR.2 (fun _ h => h.elim)⟩) ?_)
                      rintro _ a395 w396 g396 ⟨⟨A392, rfl, h393⟩, F396⟩ hS395
                      have hC396 := hC391.trans F396 (fun _ h => h.elim)
                      replace h110 := h110.fr F396 (fun h => h)
                      replace h388 := OwS.fr h388 F396 (fun _ _ h => h)
                      replace h39 := h39.fr F396 (fun h => h)
                      replace h43 := OwS.fr h43 F396 (fun _ _ h => h)
                      replace h49 := h49.fr F396 (fun h => h)
                      replace h70 := OwD.fr h70 F396 (fun h => h) (fun _ _ h => h)
                      replace h73 := OwS.fr h73 F396 (fun _ _ h => h)
                      replace h119 := RdS.fr h119 F396 (by decide) (fun _ _ h => h)
                      replace h122 := RdS.fr h122 F396 (by decide) (fun _ _ h => h)
                      replace h125 := RdS.fr h125 F396 (by decide) (fun _ _ h => h)
                      replace h128 := RdS.fr h128 F396 (by decide) (fun _ _ h => h)
                      replace hp0 := RdS.fr hp0 F396 (by decide) (fun _ _ h => h)
                      replace hF := hF.trans F396 (fun _ h => h.elim)
                      refine d_one 8 #[true, true, true, true, true, true, true, true, true, true, true, true, true, true, false, false, false, false, false, false, false] rfl (by kernel_rfl) (arm_eff hS395 rfl rfl rfl (e_appendD (D := (fun q => C0 q ∨ q = N + 13 + 1)) (e := 33) (sz := 13) (by_ := 168) (z := [.int .i64 0, .slice none 0 0, .slice none 0 0, .slice none 0 0, .slice none 0 0, .int .i64 0, .int .i64 0, .int .i64 0, .int .i64 0, .int .i64 0, .int .i64 0, .int .i64 0, .int .i64 0]) (kd := kd_api_PowerDevice) g396 hS395 rfl rfl rfl rfl (by kernel_rfl) (by kernel_rfl) rfl rfl rfl rfl h70 (fun q (hq : C0 q ∨ q = N + 13 + 1) => by rcases hq with hq | hq; all_goals first | (have := hC0 q hq; omega; done) | (omega; done)) (OwD.rdx h393) (fun _ _ _ h => Kd.re kd_api_PowerDevice (fun _ _ e => (fun _ h => h) _ e) h) hy202) (fun _ _ g' hR _ => ⟨g', hC396.trans hR.2 (fun c' (hm : c' = N + 13) => by show c' = N + 13 ∨ c' = N + 19; omega)⟩) ?_)
                      rintro _ a401 w402 g402 ⟨⟨A397, cap398, rfl, h399⟩, F402⟩ hS401
                      have hC402 := hC396.trans F402 (fun c' (hm : c' = N + 13) => by show c' = N + 13 ∨ c' = N + 19; omega)
                      replace h110 := h110.fr F402 (fun (hm : N + 9 = N + 13) => by omega)
                      replace h388 := OwS.fr h388 F402 (fun c' hc (hm : c' = N + 13) => by omega)
                      replace h393 := OwD.fr h393 F402 (fun (hm : N + 15 = N + 13) => by omega) (fun q (hq : C0 q ∨ q = N + 13 + 1) (hm : q = N + 13) => by rcases hq with hq | hq; all_goals first | (have := hC0 q hq; omega; done) | (omega; done))
                      replace h39 := h39.fr F402 (fun (hm : N + 0 = N + 13) => by omega)
                      replace h43 := OwS.fr h43 F402 (fun c' hc (hm : c' = N + 13) => by omega)
                      replace h49 := h49.fr F402 (fun (hm : N + 3 = N + 13) => by omega)
                      replace h73 := OwS.fr h73 F402 (fun c' hc (hm : c' = N + 13) => by omega)
                      replace h119 := RdS.fr h119 F402 (by decide) (fun q (hq : C0 q ∨ q = N + 13 + 1) (hm : q = N + 13) => by rcases hq with hq | hq; all_goals first | (have := hC0 q hq; omega; done) | (omega; done))
                      replace h122 := RdS.fr h122 F402 (by decide) (fun q (hq : C0 q ∨ q = N + 13 + 1) (hm : q = N + 13) => by rcases hq with hq | hq; all_goals first | (have := hC0 q hq; omega; done) | (omega; done))
                      replace h125 := RdS.fr h125 F402 (by decide) (fun q (hq : C0 q ∨ q = N + 13 + 1) (hm : q = N + 13) => by rcases hq with hq | hq; all_goals first | (have := hC0 q hq; omega; done) | (omega; done))
                      replace h128 := RdS.fr h128 F402 (by decide) (fun q (hq : C0 q ∨ q = N + 13 + 1) (hm : q = N + 13) => by rcases hq with hq | hq; all_goals first | (have := hC0 q hq; omega; done) | (omega; done))
                      replace hp0 := RdS.fr hp0 F402 (by decide) (fun q (hq : C0 q) (hm : q = N + 13) => by have := hC0 q hq; omega)
                      replace hF := hF.trans F402 (fun c' (hm : c' = N + 13) => by show (r0 ≤ c' ∧ c' < r0 + 8) ∨ N ≤ c'; omega)
                      refine d_one 14 #[true, true, true, true, true, true, true, true, true, true, true, true, true, true, true, false, false, false, false, false, false] rfl (by kernel_rfl) (arm_eff hS401 rfl rfl rfl (e_append (e := 3) (sz := 1) (by_ := 8) (z := [.int .i64 0]) (kd := (kint .i64)) g402 hS401 rfl rfl rfl rfl (by kernel_rfl) (by kernel_rfl) rfl rfl rfl rfl h73 (OwD.rdx h388) (fun _ _ _ h => h) hy211) (fun _ _ g' hR _ => ⟨g', hC402.trans hR.2 (fun c' (hm : c' = N + 19) => by show c' = N + 13 ∨ c' = N + 19; omega)⟩) ?_)
                      rintro _ a407 w408 g408 ⟨⟨A403, cap404, rfl, h405⟩, F408⟩ hS407
                      have hC408 := hC402.trans F408 (fun c' (hm : c' = N + 19) => by show c' = N + 13 ∨ c' = N + 19; omega)
                      replace h110 := h110.fr F408 (fun (hm : N + 9 = N + 19) => by omega)
                      replace h388 := OwS.fr h388 F408 (fun c' hc (hm : c' = N + 19) => by omega)
                      replace h393 := OwD.fr h393 F408 (fun (hm : N + 15 = N + 19) => by omega) (fun q (hq : C0 q ∨ q = N + 13 + 1) (hm : q = N + 19) => by rcases hq with hq | hq; all_goals first | (have := hC0 q hq; omega; done) | (omega; done))
                      replace h39 := h39.fr F408 (fun (hm : N + 0 = N + 19) => by omega)
                      replace h399 := OwD.fr h399 F408 (fun (hm : N + 13 = N + 19) => by omega) (fun q (hq : C0 q ∨ q = N + 13 + 1) (hm : q = N + 19) => by rcases hq with hq | hq; all_goals first | (have := hC0 q hq; omega; done) | (omega; done))
                      replace h43 := OwS.fr h43 F408 (fun c' hc (hm : c' = N + 19) => by omega)
                      replace h49 := h49.fr F408 (fun (hm : N + 3 = N + 19) => by omega)
                      replace h119 := RdS.fr h119 F408 (by decide) (fun q (hq : C0 q ∨ q = N + 13 + 1) (hm : q = N + 19) => by rcases hq with hq | hq; all_goals first | (have := hC0 q hq; omega; done) | (omega; done))
                      replace h122 := RdS.fr h122 F408 (by decide) (fun q (hq : C0 q ∨ q = N + 13 + 1) (hm : q = N + 19) => by rcases hq with hq | hq; all_goals first | (have := hC0 q hq; omega; done) | (omega; done))
                      replace h125 := RdS.fr h125 F408 (by decide) (fun q (hq : C0 q ∨ q = N + 13 + 1) (hm : q = N + 19) => by rcases hq with hq | hq; all_goals first | (have := hC0 q hq; omega; done) | (omega; done))
                      replace h128 := RdS.fr h128 F408 (by decide) (fun q (hq : C0 q ∨ q = N + 13 + 1) (hm : q = N + 19) => by rcases hq with hq | hq; all_goals first | (have := hC0 q hq; omega; done) | (omega; done))
                      replace hp0 := RdS.fr hp0 F408 (by decide) (fun q (hq : C0 q) (hm : q = N + 19) => by have := hC0 q hq; omega)
                      replace hF := hF.trans F408 (fun c' (hm : c' = N + 19) => by show (r0 ≤ c' ∧ c' < r0 + 8) ∨ N ≤ c'; omega)
                      refine d_pure hS407 15 #[true, true, true, true, true, true, true, true, true, true, true, true, true, true, true, true, false, false, false, false, false] rfl rfl rfl rfl (by kernel_rfl) (fun _ _ _ h => h) (fun _ => (r_nil hS407 rfl rfl)) fun a409 hS409 => d_pure hS409 16 #[true, true, true, true, true, true, true, true, true, true, true, true, true, true, true, true, true, false, false, false, false] rfl rfl rfl rfl (by kernel_rfl) (fun _ _ _ h => h) (fun _ => (r_fieldB (off := 0) hS409 rfl rfl (by kernel_rfl))) fun a410 hS410 => ?_
                      refine d_one 17 #[true, true, true, true, true, true, true, true, true, true, true, true, true, true, true, true, true, true, false, false, false] rfl (by kernel_rfl) (arm_effS hS410 rfl rfl (e_storeB (n := 1) (bb := false) (cs' := [.slice A397 y201.length cap398, .slice A71 m0_0.state.length cap72, .pointer (some ⟨b38, 0, none⟩), .int .u64 m0_0.now]) g408 hS410 rfl rfl rfl (by kernel_rfl) rfl rfl rfl h49 rfl rfl) (.inl (by decide)) ?_)
                      rintro a411 w412 g412 ⟨h49, F412⟩ hS411
                      replace h110 := h110.fr F412 (fun (hm : N + 9 = N + 3) => by omega)
                      replace h388 := OwS.fr h388 F412 (fun c' hc (hm : c' = N + 3) => by omega)
                      replace h393 := OwD.fr h393 F412 (fun (hm : N + 15 = N + 3) => by omega) (fun q (hq : C0 q ∨ q = N + 13 + 1) (hm : q = N + 3) => by rcases hq with hq | hq; all_goals first | (have := hC0 q hq; omega; done) | (omega; done))
                      replace h39 := h39.fr F412 (fun (hm : N + 0 = N + 3) => by omega)
                      replace h399 := OwD.fr h399 F412 (fun (hm : N + 13 = N + 3) => by omega) (fun q (hq : C0 q ∨ q = N + 13 + 1) (hm : q = N + 3) => by rcases hq with hq | hq; all_goals first | (have := hC0 q hq; omega; done) | (omega; done))
                      replace h405 := OwS.fr h405 F412 (fun c' hc (hm : c' = N + 3) => by omega)
                      replace h43 := OwS.fr h43 F412 (fun c' hc (hm : c' = N + 3) => by omega)
                      replace h119 := RdS.fr h119 F412 (by decide) (fun q (hq : C0 q ∨ q = N + 13 + 1) (hm : q = N + 3) => by rcases hq with hq | hq; all_goals first | (have := hC0 q hq; omega; done) | (omega; done))
                      replace h122 := RdS.fr h122 F412 (by decide) (fun q (hq : C0 q ∨ q = N + 13 + 1) (hm : q = N + 3) => by rcases hq with hq | hq; all_goals first | (have := hC0 q hq; omega; done) | (omega; done))
                      replace h125 := RdS.fr h125 F412 (by decide) (fun q (hq : C0 q ∨ q = N + 13 + 1) (hm : q = N + 3) => by rcases hq with hq | hq; all_goals first | (have := hC0 q hq; omega; done) | (omega; done))
                      replace h128 := RdS.fr h128 F412 (by decide) (fun q (hq : C0 q ∨ q = N + 13 + 1) (hm : q = N + 3) => by rcases hq with hq | hq; all_goals first | (have := hC0 q hq; omega; done) | (omega; done))
                      replace hp0 := RdS.fr hp0 F412 (by decide) (fun q (hq : C0 q) (hm : q = N + 3) => by have := hC0 q hq; omega)
                      replace hF := hF.trans F412 (fun c' (hm : c' = N + 3) => by show (r0 ≤ c' ∧ c' < r0 + 8) ∨ N ≤ c'; omega)
                      refine d_pure hS411 18 #[true, true, true, true, true, true, true, true, true, true, true, true, true, true, true, true, true, true, true, false, false] rfl rfl rfl rfl (by kernel_rfl) (fun _ _ _ h => h) (fun _ => (r_nil hS411 rfl rfl)) fun a413 hS413 => d_pure hS413 19 #[true, true, true, true, true, true, true, true, true, true, true, true, true, true, true, true, true, true, true, true, false] rfl rfl rfl rfl (by kernel_rfl) (fun _ _ _ h => h) (fun _ => (r_fieldB (off := 1) hS413 rfl rfl (by kernel_rfl))) fun a414 hS414 => ?_
                      refine d_one 20 #[true, true, true, true, true, true, true, true, true, true, true, true, true, true, true, true, true, true, true, true, true] rfl (by kernel_rfl) (arm_effS hS414 rfl rfl (e_storeB (n := 1) (bb := false) (cs' := [.slice A397 y201.length cap398, .slice A403 y210.length cap404, .pointer (some ⟨b38, 0, none⟩), .int .u64 m0_0.now]) g412 hS414 rfl rfl rfl (by kernel_rfl) rfl rfl rfl h49 rfl rfl) (.inl (by decide)) ?_)
                      rintro a415 w416 g416 ⟨h49, F416⟩ hS415
                      replace h110 := h110.fr F416 (fun (hm : N + 9 = N + 3) => by omega)
                      replace h388 := OwS.fr h388 F416 (fun c' hc (hm : c' = N + 3) => by omega)
                      replace h393 := OwD.fr h393 F416 (fun (hm : N + 15 = N + 3) => by omega) (fun q (hq : C0 q ∨ q = N + 13 + 1) (hm : q = N + 3) => by rcases hq with hq | hq; all_goals first | (have := hC0 q hq; omega; done) | (omega; done))
                      replace h39 := h39.fr F416 (fun (hm : N + 0 = N + 3) => by omega)
                      replace h399 := OwD.fr h399 F416 (fun (hm : N + 13 = N + 3) => by omega) (fun q (hq : C0 q ∨ q = N + 13 + 1) (hm : q = N + 3) => by rcases hq with hq | hq; all_goals first | (have := hC0 q hq; omega; done) | (omega; done))
                      replace h405 := OwS.fr h405 F416 (fun c' hc (hm : c' = N + 3) => by omega)
                      replace h43 := OwS.fr h43 F416 (fun c' hc (hm : c' = N + 3) => by omega)
                      replace h119 := RdS.fr h119 F416 (by decide) (fun q (hq : C0 q ∨ q = N + 13 + 1) (hm : q = N + 3) => by rcases hq with hq | hq; all_goals first | (have := hC0 q hq; omega; done) | (omega; done))
                      replace h122 := RdS.fr h122 F416 (by decide) (fun q (hq : C0 q ∨ q = N + 13 + 1) (hm : q = N + 3) => by rcases hq with hq | hq; all_goals first | (have := hC0 q hq; omega; done) | (omega; done))
                      replace h125 := RdS.fr h125 F416 (by decide) (fun q (hq : C0 q ∨ q = N + 13 + 1) (hm : q = N + 3) => by rcases hq with hq | hq; all_goals first | (have := hC0 q hq; omega; done) | (omega; done))
                      replace h128 := RdS.fr h128 F416 (by decide) (fun q (hq : C0 q ∨ q = N + 13 + 1) (hm : q = N + 3) => by rcases hq with hq | hq; all_goals first | (have := hC0 q hq; omega; done) | (omega; done))
                      replace hp0 := RdS.fr hp0 F416 (by decide) (fun q (hq : C0 q) (hm : q = N + 3) => by have := hC0 q hq; omega)
                      replace hF := hF.trans F416 (fun c' (hm : c' = N + 3) => by show (r0 ≤ c' ∧ c' < r0 + 8) ∨ N ≤ c'; omega)
                      refine d_done (by kernel_rfl) ?_
                      exact ⟨g416, A397, cap398, A403, cap404, hS415.re ⟨rfl, rfl, rfl, rfl, trivial⟩, h39, h43, h49, h399, h405, hp0, hF⟩
                  clear hp0 h43 h39 h49 h70 h73 h110 h119 h122 h125 h128 hF
                  clear hS
                  rintro a w313 ⟨g313, A314, cap315, A317, cap318, hS, h39, h43, h49, h316, h319, hp0, hF⟩
                  have e := Option.some.inj H
                  subst e
                  exact ⟨g313, A314, cap315, A317, cap318, hS.re ⟨rfl, rfl, rfl, rfl, trivial⟩, h39, h43, h49, h316, h319, hp0, hF⟩
              · clear H
                clear hp0 h43 h39 h49 h70 h73 hF
                clear hS
                rintro a w77 ⟨g77, A78, cap79, A81, cap82, hS, h39, h43, h49, h80, h83, hp0, hF⟩
                have H := Hl86
                clear Hl86
                refine c_pure1 [(9, .pointer (some ⟨b48, 0, none⟩)), (31, .slice A0 p0.length cap0), (32, .int .i64 (p0.length : Int)), (33, .int .i64 (wi (m0_1 + 1)))] (fun R hR => st_val hS rfl rfl rfl (r_bin hS rfl rfl rfl b_add) fun a417 hS417 => st_val hS417 rfl rfl rfl (r_move hS417 rfl rfl) fun a418 hS418 => wpList_nil (hR _ (hS418.re ⟨rfl, rfl, rfl, rfl, trivial⟩))) ?_
                clear hS
                clear a
                intro a hS
                refine ⟨k74, Nat.lt_succ_self _, ?_⟩
                exact ⟨(device_Tree.mk v84.devices v84.state st36 v84.now), wi (m0_1 + 1), g77, A78, cap79, A81, cap82, H, hS.re ⟨rfl, rfl, rfl, rfl, trivial⟩, h39, h43, h49, h80, h83, hp0, hF⟩
            · replace H := ite_f hb76 H
              refine wp_exit ?_
              have e := Option.some.inj H
              subst e
              exact ⟨g67, A68, cap69, A71, cap72, hS.re ⟨rfl, trivial⟩, h39, h43, h49, h70, h73, hF⟩
      · clear H
        clear hp0 h43 h39 h49 hF
        clear hS
        rintro a w54 ⟨g54, A55, cap56, A58, cap59, hS, h39, h43, h49, h57, h60, hF⟩
        have H := Hl63
        clear Hl63
        refine c_pure [(4, .pointer (some ⟨b48, 0, none⟩)), (5, .int .i64 0)] (fun R hR => st_val hS rfl rfl rfl (r_move hS rfl rfl) fun a419 hS419 => st_val hS419 rfl rfl rfl (r_assign hS419 rfl rfl) fun a420 hS420 => st_val hS420 rfl rfl rfl (r_assign hS420 rfl rfl) fun a421 hS421 => wpList_nil (hR _ (hS421.re ⟨rfl, rfl, trivial⟩))) ?_
        clear hS
        clear a
        intro a hS
        refine wp_ret ?_
        have e := Option.some.inj H
        subst e
        have F422 : Fr (fun q => q = N + 3) w54 g54 w54 (recol g54 (N + 3) r0) := Fr.recol w54 g54 (N + 3) r0 rfl
        replace h49 := Bx.recol h49 r0
        replace h39 := h39.fr F422 (fun (hm : N + 0 = N + 3) => by omega)
        replace h43 := OwS.fr h43 F422 (fun c' hc (hm : c' = N + 3) => by omega)
        replace h57 := OwD.fr h57 F422 (fun (hm : N + 13 = N + 3) => by omega) (fun q (hq : C0 q ∨ q = N + 13 + 1) (hm : q = N + 3) => by rcases hq with hq | hq; all_goals first | (have := hC0 q hq; omega; done) | (omega; done))
        replace h60 := OwS.fr h60 F422 (fun c' hc (hm : c' = N + 3) => by omega)
        replace hF := hF.trans F422 (fun c' (hm : c' = N + 3) => by show (r0 ≤ c' ∧ c' < r0 + 8) ∨ N ≤ c'; omega)
        have F423 := Fr.recol2 w54 (recol g54 (N + 3) r0) (N + 19) (r0 + 1)
        replace h60 := h60.recol2 (r0 + 1)
        replace h39 := h39.fr F423 (fun (hm : N + 0 = N + 19 ∨ N + 0 = N + 19 + 1) => by omega)
        replace h43 := OwS.fr h43 F423 (fun c' hc (hm : c' = N + 19 ∨ c' = N + 19 + 1) => by omega)
        replace h49 := h49.fr F423 (fun (hm : r0 = N + 19 ∨ r0 = N + 19 + 1) => by omega)
        replace h57 := OwD.fr h57 F423 (fun (hm : N + 13 = N + 19 ∨ N + 13 = N + 19 + 1) => by omega) (fun q (hq : C0 q ∨ q = N + 13 + 1) (hm : q = N + 19 ∨ q = N + 19 + 1) => by rcases hq with hq | hq; all_goals first | (have := hC0 q hq; omega; done) | (omega; done))
        replace hF := hF.trans F423 (fun c' (hm : c' = N + 19 ∨ c' = N + 19 + 1) => by show (r0 ≤ c' ∧ c' < r0 + 8) ∨ N ≤ c'; omega)
        have F424 : Fr (fun q => q = N + 0) w54 (recol2 (recol g54 (N + 3) r0) (N + 19) (r0 + 1)) w54 (recol (recol2 (recol g54 (N + 3) r0) (N + 19) (r0 + 1)) (N + 0) (r0 + 3)) := Fr.recol w54 (recol2 (recol g54 (N + 3) r0) (N + 19) (r0 + 1)) (N + 0) (r0 + 3) rfl
        replace h39 := Bx.recol h39 (r0 + 3)
        replace h43 := OwS.fr h43 F424 (fun c' hc (hm : c' = N + 0) => by omega)
        replace h49 := h49.fr F424 (fun (hm : r0 = N + 0) => by omega)
        replace h57 := OwD.fr h57 F424 (fun (hm : N + 13 = N + 0) => by omega) (fun q (hq : C0 q ∨ q = N + 13 + 1) (hm : q = N + 0) => by rcases hq with hq | hq; all_goals first | (have := hC0 q hq; omega; done) | (omega; done))
        replace h60 := OwS.fr h60 F424 (fun c' hc (hm : c' = N + 0) => by omega)
        replace hF := hF.trans F424 (fun c' (hm : c' = N + 0) => by show (r0 ≤ c' ∧ c' < r0 + 8) ∨ N ≤ c'; omega)
        have F425 := Fr.recol2 w54 (recol (recol2 (recol g54 (N + 3) r0) (N + 19) (r0 + 1)) (N + 0) (r0 + 3)) (N + 0 + 1) (r0 + 3 + 1)
        replace h43 := h43.recol2 (r0 + 3 + 1)
        replace h39 := h39.fr F425 (fun (hm : r0 + 3 = N + 0 + 1 ∨ r0 + 3 = N + 0 + 1 + 1) => by omega)
        replace h49 := h49.fr F425 (fun (hm : r0 = N + 0 + 1 ∨ r0 = N + 0 + 1 + 1) => by omega)
        replace h57 := OwD.fr h57 F425 (fun (hm : N + 13 = N + 0 + 1 ∨ N + 13 = N + 0 + 1 + 1) => by omega) (fun q (hq : C0 q ∨ q = N + 13 + 1) (hm : q = N + 0 + 1 ∨ q = N + 0 + 1 + 1) => by rcases hq with hq | hq; all_goals first | (have := hC0 q hq; omega; done) | (omega; done))
        replace h60 := OwS.fr h60 F425 (fun c' hc (hm : c' = N + 0 + 1 ∨ c' = N + 0 + 1 + 1) => by omega)
        replace hF := hF.trans F425 (fun c' (hm : c' = N + 0 + 1 ∨ c' = N + 0 + 1 + 1) => by show (r0 ≤ c' ∧ c' < r0 + 8) ∨ N ≤ c'; omega)
        have h426 : RdS kd_api_PowerDevice w54 (recol2 (recol (recol2 (recol g54 (N + 3) r0) (N + 19) (r0 + 1)) (N + 0) (r0 + 3)) (N + 0 + 1) (r0 + 3 + 1)) (fun q => q = N + 13 ∨ C0 q ∨ q = N + 13 + 1) A55 cap56 v61.devices := RdS.weak (OwD.rd h57) (fun _ h => Or.elim h (fun h => (Or.inl h)) (fun h => ((fun _ h => (Or.elim h (fun h => (Or.inr (Or.inl h))) (fun h => (Or.inr (Or.inr h)))))) _ h))
        have F427 : Fr (fun q => q = N + 13) w54 (recol2 (recol (recol2 (recol g54 (N + 3) r0) (N + 19) (r0 + 1)) (N + 0) (r0 + 3)) (N + 0 + 1) (r0 + 3 + 1)) w54 (recol (recol2 (recol (recol2 (recol g54 (N + 3) r0) (N + 19) (r0 + 1)) (N + 0) (r0 + 3)) (N + 0 + 1) (r0 + 3 + 1)) (N + 13) (r0 + 6)) := Fr.recol w54 (recol2 (recol (recol2 (recol g54 (N + 3) r0) (N + 19) (r0 + 1)) (N + 0) (r0 + 3)) (N + 0 + 1) (r0 + 3 + 1)) (N + 13) (r0 + 6) rfl
        replace h39 := h39.fr F427 (fun (hm : r0 + 3 = N + 13) => by omega)
        replace h43 := OwS.fr h43 F427 (fun c' hc (hm : c' = N + 13) => by omega)
        replace h49 := h49.fr F427 (fun (hm : r0 = N + 13) => by omega)
        replace h426 : RdS kd_api_PowerDevice w54 (recol (recol2 (recol (recol2 (recol g54 (N + 3) r0) (N + 19) (r0 + 1)) (N + 0) (r0 + 3)) (N + 0 + 1) (r0 + 3 + 1)) (N + 13) (r0 + 6)) (fun q => q = r0 + 6 ∨ C0 q ∨ q = N + 13 + 1) A55 cap56 v61.devices := RdS.recolC h426 (by decide) (N + 13) (r0 + 6) (fun q (hq : q = N + 13 ∨ C0 q ∨ q = N + 13 + 1) => show (fun q => q = r0 + 6 ∨ C0 q ∨ q = N + 13 + 1) (if q = N + 13 then r0 + 6 else q) from (Or.elim hq (fun hq => (by rw [if_pos hq] <;> exact (Or.inl rfl))) (fun hq => (Or.elim hq (fun hq => (by rw [if_neg (by have := hC0 q hq;  omega)] <;> exact (Or.inr (Or.inl hq)))) (fun hq => (by rw [if_neg (by omega)] <;> exact (Or.inr (Or.inr hq))))))))
        replace h60 := OwS.fr h60 F427 (fun c' hc (hm : c' = N + 13) => by omega)
        replace hF := hF.trans F427 (fun c' (hm : c' = N + 13) => by show (r0 ≤ c' ∧ c' < r0 + 8) ∨ N ≤ c'; omega)
        have F428 : Fr (fun q => q = N + 13 + 1) w54 (recol (recol2 (recol (recol2 (recol g54 (N + 3) r0) (N + 19) (r0 + 1)) (N + 0) (r0 + 3)) (N + 0 + 1) (r0 + 3 + 1)) (N + 13) (r0 + 6)) w54 (recol (recol (recol2 (recol (recol2 (recol g54 (N + 3) r0) (N + 19) (r0 + 1)) (N + 0) (r0 + 3)) (N + 0 + 1) (r0 + 3 + 1)) (N + 13) (r0 + 6)) (N + 13 + 1) (r0 + 6 + 1)) := Fr.recol w54 (recol (recol2 (recol (recol2 (recol g54 (N + 3) r0) (N + 19) (r0 + 1)) (N + 0) (r0 + 3)) (N + 0 + 1) (r0 + 3 + 1)) (N + 13) (r0 + 6)) (N + 13 + 1) (r0 + 6 + 1) rfl
        replace h39 := h39.fr F428 (fun (hm : r0 + 3 = N + 13 + 1) => by omega)
        replace h43 := OwS.fr h43 F428 (fun c' hc (hm : c' = N + 13 + 1) => by omega)
        replace h49 := h49.fr F428 (fun (hm : r0 = N + 13 + 1) => by omega)
        replace h426 : RdS kd_api_PowerDevice w54 (recol (recol (recol2 (recol (recol2 (recol g54 (N + 3) r0) (N + 19) (r0 + 1)) (N + 0) (r0 + 3)) (N + 0 + 1) (r0 + 3 + 1)) (N + 13) (r0 + 6)) (N + 13 + 1) (r0 + 6 + 1)) (fun q => q = r0 + 6 ∨ C0 q ∨ q = r0 + 6 + 1) A55 cap56 v61.devices := RdS.recolC h426 (by decide) (N + 13 + 1) (r0 + 6 + 1) (fun q (hq : q = r0 + 6 ∨ C0 q ∨ q = N + 13 + 1) => show (fun q => q = r0 + 6 ∨ C0 q ∨ q = r0 + 6 + 1) (if q = N + 13 + 1 then r0 + 6 + 1 else q) from (Or.elim hq (fun hq => (by rw [if_neg (by omega)] <;> exact (Or.inl hq))) (fun hq => (Or.elim hq (fun hq => (by rw [if_neg (by have := hC0 q hq;  omega)] <;> exact (Or.inr (Or.inl hq)))) (fun hq => (by rw [if_pos hq] <;> exact (Or.inr (Or.inr rfl))))))))
        replace h60 := OwS.fr h60 F428 (fun c' hc (hm : c' = N + 13 + 1) => by omega)
        replace hF := hF.trans F428 (fun c' (hm : c' = N + 13 + 1) => by show (r0 ≤ c' ∧ c' < r0 + 8) ∨ N ≤ c'; omega)
        repeat (with_reducible first | refine then_ret ?_ | refine inBlock_ret ?_)
        exact c_ret2 hS Try.results26 rfl rfl ⟨_, rfl, (recol (recol (recol2 (recol (recol2 (recol g54 (N + 3) r0) (N + 19) (r0 + 1)) (N + 0) (r0 + 3)) (N + 0 + 1) (r0 + 3 + 1)) (N + 13) (r0 + 6)) (N + 13 + 1) (r0 + 6 + 1)), (some ⟨b48, 0, none⟩), rfl, ⟨b48, A55, cap56, A58, cap59, b38, A41, cap42, rfl, h49, (RdS.weak h426 (fun _ h => (Or.elim h (fun h => (Or.inr (Or.inl h))) (fun h => (Or.elim h (fun h => (Or.inl h)) (fun h => (Or.inr (Or.inr h)))))))), h60, ⟨h39, h43⟩⟩, hF⟩


end Go.Proofs.Ytfhhklkmbcnhnaa.Sim

namespace Go.Proofs.Ytfhhklkmbcnhnaa.Sim
open Go
set_option linter.unusedVariables false
set_option linter.unusedSimpArgs false

/-! ### device_needs: function 43 -/
def device_needs.f (p0 : api_PowerDevice) (p1 : Int) : Option ((List Int)) := if (p1 == 4) = true then (some []) else ((idx (Ar4.l p0.Rails) p1).bind fun x13 => some x13)
set_option maxRecDepth 100000 in
set_option maxHeartbeats 4000000 in
theorem device_needs.calls {p0 : api_PowerDevice} {C0 : Nat → Prop} {A0_0 : Option Addr} {cap0_0 : Nat} {A0_1 : Option Addr} {cap0_1 : Nat} {A0_2 : Option Addr} {cap0_2 : Nat} {A0_3 : Option Addr} {cap0_3 : Nat} {p1 : Int} {w : World} {g : Nat → Nat} {out : (List Int)} (N : Nat) (hp0_0 : RdS (kint .i64) w g C0 A0_0 cap0_0 p0.Rails.a0) (hp0_1 : RdS (kint .i64) w g C0 A0_1 cap0_1 p0.Rails.a1) (hp0_2 : RdS (kint .i64) w g C0 A0_2 cap0_2 p0.Rails.a2) (hp0_3 : RdS (kint .i64) w g C0 A0_3 cap0_3 p0.Rails.a3) (hC0 : ∀ c, C0 c → c < N) (H : device_needs.f p0 p1 = some out) :
    Calls Try.prog 43 #[.agg #[.int .i64 p0.Parent, .slice A0_0 p0.Rails.a0.length cap0_0, .slice A0_1 p0.Rails.a1.length cap0_1, .slice A0_2 p0.Rails.a2.length cap0_2, .slice A0_3 p0.Rails.a3.length cap0_3, .int .i64 p0.Deepest.a0, .int .i64 p0.Deepest.a1, .int .i64 p0.Deepest.a2, .int .i64 p0.Deepest.a3, .int .i64 p0.Deepest.a4, .int .i64 p0.Deepest.a5, .int .i64 p0.WakeDevice, .int .i64 p0.WakeSystem], .int .i64 p1] w (fun e w' => ∃ v, e = .returned v ∧ ∃ (g' : Nat → Nat) (A_r0 : Option Addr) (cap_r0 : Nat), v = .slice A_r0 out.length cap_r0 ∧ RdS (kint .i64) w' g' C0 A_r0 cap_r0 out ∧ Fr (fun q => N ≤ q) w g w' g') := by
  unfold device_needs.f at H
  refine calls_enter Try.func43 rfl Try.ntmps43 rfl (fun a hS => ?_)
  replace hS : Sl 11 a [(0, .agg #[.int .i64 p0.Parent, .slice A0_0 p0.Rails.a0.length cap0_0, .slice A0_1 p0.Rails.a1.length cap0_1, .slice A0_2 p0.Rails.a2.length cap0_2, .slice A0_3 p0.Rails.a3.length cap0_3, .int .i64 p0.Deepest.a0, .int .i64 p0.Deepest.a1, .int .i64 p0.Deepest.a2, .int .i64 p0.Deepest.a3, .int .i64 p0.Deepest.a4, .int .i64 p0.Deepest.a5, .int .i64 p0.WakeDevice, .int .i64 p0.WakeSystem]), (1, .int .i64 p1)] := hS
  have hF : Fr (fun q => N ≤ q) w g w g := Fr.refl _ _ _
  refine c_region (fun K hK => ?_)
  refine st_eff hS rfl rfl rfl (e_box (cs := [.int .i64 p0.Parent, .slice A0_0 p0.Rails.a0.length cap0_0, .slice A0_1 p0.Rails.a1.length cap0_1, .slice A0_2 p0.Rails.a2.length cap0_2, .slice A0_3 p0.Rails.a3.length cap0_3, .int .i64 p0.Deepest.a0, .int .i64 p0.Deepest.a1, .int .i64 p0.Deepest.a2, .int .i64 p0.Deepest.a3, .int .i64 p0.Deepest.a4, .int .i64 p0.Deepest.a5, .int .i64 p0.WakeDevice, .int .i64 p0.WakeSystem]) (N + 0) g hS rfl rfl rfl) ?_
  rintro _ a4 w5 g5 ⟨⟨b1, rfl, h2⟩, F5⟩ hS4
  replace hp0_0 := RdS.fr hp0_0 F5 (by decide) (fun _ _ h => h)
  replace hp0_1 := RdS.fr hp0_1 F5 (by decide) (fun _ _ h => h)
  replace hp0_2 := RdS.fr hp0_2 F5 (by decide) (fun _ _ h => h)
  replace hp0_3 := RdS.fr hp0_3 F5 (by decide) (fun _ _ h => h)
  replace hF := hF.trans F5 (fun _ h => h.elim)
  refine st_val hS4 rfl rfl rfl (r_assign hS4 rfl rfl) fun a6 hS6 => wpList_nil (hK _ _ ?_)
  replace hS : Sl 11 _ [(1, .int .i64 p1), (2, .pointer (some ⟨b1, 0, none⟩))] := hS6.re ⟨rfl, rfl, trivial⟩
  clear hK K
  try clear hS4 hS6
  obtain ⟨a, ha⟩ : ∃ a', a' = a6 := ⟨_, rfl⟩
  rw [← ha] at hS ⊢; clear ha
  refine wp_seq ?_
  refine c_pure [(1, .int .i64 p1), (2, .pointer (some ⟨b1, 0, none⟩)), (6, .bool (p1 == 4))] (fun R hR => st_val hS rfl rfl rfl (r_move hS rfl rfl) fun a7 hS7 => st_val hS7 rfl rfl rfl (r_bin hS7 rfl rfl rfl b_eql) fun a8 hS8 => wpList_nil (hR _ (hS8.re ⟨rfl, rfl, rfl, trivial⟩))) ?_
  clear hS
  clear a
  intro a hS
  refine c_cond hS rfl (fun hb9 => ?_) (fun hb9 => ?_)
  · replace H := ite_t hb9 H
    refine c_pure [(4, .slice none 0 0)] (fun R hR => st_val hS rfl rfl rfl (r_assign hS rfl rfl) fun a10 hS10 => wpList_nil (hR _ (hS10.re ⟨rfl, trivial⟩))) ?_
    clear hS
    clear a
    intro a hS
    refine wp_ret ?_
    have e := Option.some.inj H
    subst e
    repeat (with_reducible first | refine then_ret ?_ | refine inBlock_ret ?_)
    exact c_ret1 hS Try.results43 rfl ⟨_, rfl, g5, none, 0, rfl, RdS.nil (kint .i64) w5 g5 C0, hF⟩
  · replace H := ite_f hb9 H
    refine wp_skip ?_
    change Code.wp _ _ _ _ _
    obtain ⟨x13, hx14, H⟩ := bind_el H
    refine c_region (fun K hK => ?_)
    refine st_val hS rfl rfl rfl (r_move hS rfl rfl) fun a11 hS11 => st_val hS11 rfl rfl rfl (r_fieldB (off := 1) hS11 rfl rfl (by kernel_rfl)) fun a12 hS12 => ?_
    obtain ⟨A16, cap17, he15, h18⟩ : ∃ (A16 : Option Addr) (cap17 : Nat), (([.int .i64 p0.Parent, .slice A0_0 p0.Rails.a0.length cap0_0, .slice A0_1 p0.Rails.a1.length cap0_1, .slice A0_2 p0.Rails.a2.length cap0_2, .slice A0_3 p0.Rails.a3.length cap0_3, .int .i64 p0.Deepest.a0, .int .i64 p0.Deepest.a1, .int .i64 p0.Deepest.a2, .int .i64 p0.Deepest.a3, .int .i64 p0.Deepest.a4, .int .i64 p0.Deepest.a5, .int .i64 p0.WakeDevice, .int .i64 p0.WakeSystem] : List Value).drop (1 + p1.toNat * 1)).take 1 = [.slice A16 x13.length cap17] ∧ RdS (kint .i64) w5 g5 C0 A16 cap17 x13 := by
      rcases Ar4.cases hx14 with ⟨e, e2⟩ | ⟨e, e2⟩ | ⟨e, e2⟩ | ⟨e, e2⟩
      · subst e2; exact ⟨A0_0, cap0_0, (by rw [e] <;> rfl), hp0_0⟩
      · subst e2; exact ⟨A0_1, cap0_1, (by rw [e] <;> rfl), hp0_1⟩
      · subst e2; exact ⟨A0_2, cap0_2, (by rw [e] <;> rfl), hp0_2⟩
      · subst e2; exact ⟨A0_3, cap0_3, (by rw [e] <;> rfl), hp0_3⟩
    refine st_val hS12 rfl rfl rfl (r_ixB (n := 4) (e := 29) (sz := 1) (bb := false) hS12 rfl rfl rfl (by kernel_rfl) (idx_lo hx14) (Ar4.lt hx14)) fun a21 hS21 => st_val hS21 rfl rfl rfl (r_load1 (n := 1) hS21 rfl rfl (by kernel_rfl) (Bx.at_ (j := 0) h2 he15 rfl)) fun a22 hS22 => st_val hS22 rfl rfl rfl (r_assign hS22 rfl rfl) fun a23 hS23 => wpList_nil (hK _ _ ?_)
    replace hS : Sl 11 _ [(4, .slice A16 x13.length cap17)] := hS23.re ⟨rfl, trivial⟩
    clear hK K
    try clear hS11 hS12 hS21 hS22 hS23
    obtain ⟨a, ha⟩ : ∃ a', a' = a23 := ⟨_, rfl⟩
    rw [← ha] at hS ⊢; clear ha
    refine wp_ret ?_
    have e := Option.some.inj H
    subst e
    repeat (with_reducible first | refine then_ret ?_ | refine inBlock_ret ?_)
    exact c_ret1 hS Try.results43 rfl ⟨_, rfl, g5, A16, cap17, rfl, h18, hF⟩


end Go.Proofs.Ytfhhklkmbcnhnaa.Sim

namespace Go.Proofs.Ytfhhklkmbcnhnaa.Sim
open Go
set_option linter.unusedVariables false
set_option linter.unusedSimpArgs false

/-! ### slices_Index_int_int: function 73 -/
def slices_Index_int_int.l0 (p0 : List Int) (p1 : Int) : Nat → Int → Option (Fl (Int) (Unit))
  | 0, _ => none
  | k8 + 1, m0_0 => if decide (m0_0 < (p0.length : Int)) = true then ((idx p0 m0_0).bind fun x16 => if (p1 == x16) = true then (some (.out m0_0)) else (slices_Index_int_int.l0 p0 p1 k8 (wi (m0_0 + 1)))) else (some (.nxt ()))
def slices_Index_int_int.f (p0 : List Int) (p1 : Int) : Option (Int) := (slices_Index_int_int.l0 p0 p1 FUEL 0 : Option (Fl (Int) (Unit))).bind fun o3 => o3.go fun _ => some (-1)
set_option maxRecDepth 100000 in
set_option maxHeartbeats 4000000 in
theorem slices_Index_int_int.calls {p0 : List Int} {A0 : Option Addr} {cap0 : Nat} {C0 : Nat → Prop} {p1 : Int} {w : World} {g : Nat → Nat} {out : Int} (N : Nat) (hp0 : RdS (kint .i64) w g C0 A0 cap0 p0) (hC0 : ∀ c, C0 c → c < N) (H : slices_Index_int_int.f p0 p1 = some out) :
    Calls Try.prog 73 #[.slice A0 p0.length cap0, .int .i64 p1] w (fun e w' => ∃ v, e = .returned v ∧ ∃ (g' : Nat → Nat), v = .int .i64 out ∧ Fr (fun q => N ≤ q) w g w' g') := by
  unfold slices_Index_int_int.f at H
  refine calls_enter Try.func73 rfl Try.ntmps73 rfl (fun a hS => ?_)
  replace hS : Sl 19 a [(0, .slice A0 p0.length cap0), (1, .int .i64 p1)] := hS
  have hF : Fr (fun q => N ≤ q) w g w g := Fr.refl _ _ _
  refine c_pure [(0, .slice A0 p0.length cap0), (1, .int .i64 p1)] (fun R hR => st_val hS rfl rfl rfl (r_assign hS rfl rfl) fun a1 hS1 => wpList_nil (hR _ (hS1.re ⟨rfl, rfl, trivial⟩))) ?_
  clear hS
  clear a
  intro a hS
  obtain ⟨o3, H, Hl4⟩ := bind_el H
  refine c_cut (fun a w' => o3 = .nxt () ∧ w = w' ∧ Sl 19 a []) ?_ ?_
  · refine c_pure [(0, .slice A0 p0.length cap0), (1, .int .i64 p1), (7, .int .i64 (p0.length : Int)), (8, .int .i64 0)] (fun R hR => st_val hS rfl rfl rfl (r_move hS rfl rfl) fun a5 hS5 => st_val hS5 rfl rfl rfl (r_len (e := 3) (sz := 1) (by_ := 8) hS5 rfl rfl (by kernel_rfl)) fun a6 hS6 => st_val hS6 rfl rfl rfl (r_move hS6 rfl rfl) fun a7 hS7 => wpList_nil (hR _ (hS7.re ⟨rfl, rfl, rfl, rfl, trivial⟩))) ?_
    clear hS
    clear a
    intro a hS
    refine wp_block ?_
    refine wp_loop_ghost (fun kq => fun a w' => ∃ (m0_0 : Int), slices_Index_int_int.l0 p0 p1 kq m0_0 = some o3 ∧ w = w' ∧ Sl 19 a [(0, .slice A0 p0.length cap0), (1, .int .i64 p1), (7, .int .i64 (p0.length : Int)), (8, .int .i64 m0_0)]) FUEL ?_ ?_
    · exact ⟨0, H, rfl, hS.re ⟨rfl, rfl, rfl, rfl, trivial⟩⟩
    · clear H
      clear hS
      rintro k8 a w' ⟨m0_0, hpre0, hw, hS⟩
      subst hw
      have H := hpre0
      clear hpre0
      cases k8 with
      | zero => exact absurd H (by simp [slices_Index_int_int.l0])
      | succ k8 =>
        rw [slices_Index_int_int.l0] at H
        refine c_pure [(0, .slice A0 p0.length cap0), (1, .int .i64 p1), (7, .int .i64 (p0.length : Int)), (8, .int .i64 m0_0), (9, .bool (decide (m0_0 < (p0.length : Int))))] (fun R hR => st_val hS rfl rfl rfl (r_bin hS rfl rfl rfl b_lss) fun a9 hS9 => wpList_nil (hR _ (hS9.re ⟨rfl, rfl, rfl, rfl, rfl, trivial⟩))) ?_
        clear hS
        clear a
        intro a hS
        refine c_if hS rfl (fun hb10 => ?_) (fun hb10 => ?_)
        · replace H := ite_t hb10 H
          refine wp_skip ?_
          change Code.wp _ _ _ _ _
          refine wp_seq ?_
          refine wp_block ?_
          refine c_pure [(0, .slice A0 p0.length cap0), (1, .int .i64 p1), (5, .int .i64 m0_0), (7, .int .i64 (p0.length : Int)), (8, .int .i64 m0_0)] (fun R hR => st_val hS rfl rfl rfl (r_move hS rfl rfl) fun a11 hS11 => st_val hS11 rfl rfl rfl (r_assign hS11 rfl rfl) fun a12 hS12 => wpList_nil (hR _ (hS12.re ⟨rfl, rfl, rfl, rfl, rfl, trivial⟩))) ?_
          clear hS
          clear a
          intro a hS
          obtain ⟨x16, hx17, H⟩ := bind_el H
          refine c_pure [(0, .slice A0 p0.length cap0), (1, .int .i64 p1), (5, .int .i64 m0_0), (7, .int .i64 (p0.length : Int)), (8, .int .i64 m0_0), (16, .bool (p1 == x16))] (fun R hR => st_val hS rfl rfl rfl (r_move hS rfl rfl) fun a13 hS13 => st_val hS13 rfl rfl rfl (r_move hS13 rfl rfl) fun a14 hS14 => st_val hS14 rfl rfl rfl (r_move hS14 rfl rfl) fun a15 hS15 => st_val hS15 rfl rfl rfl (r_index (e := 3) (sz := 1) (by_ := 8) hS15 rfl rfl rfl (by kernel_rfl) (RdS.some_ hp0 hx17) (idx_lo hx17) (idx_hi hx17)) fun a18 hS18 => st_val hS18 rfl rfl rfl (r_load1 (n := 1) hS18 rfl rfl (by kernel_rfl) (RdS.cell (i := m0_0) (sz := 1) (j := 0) hp0 hx17 rfl)) fun a19 hS19 => st_val hS19 rfl rfl rfl (r_bin hS19 rfl rfl rfl b_eql) fun a20 hS20 => wpList_nil (hR _ (hS20.re ⟨rfl, rfl, rfl, rfl, rfl, rfl, trivial⟩))) ?_
          clear hS
          clear a
          intro a hS
          refine c_cond hS rfl (fun hb21 => ?_) (fun hb21 => ?_)
          · replace H := ite_t hb21 H
            refine c_pure [(4, .int .i64 m0_0)] (fun R hR => st_val hS rfl rfl rfl (r_move hS rfl rfl) fun a22 hS22 => st_val hS22 rfl rfl rfl (r_assign hS22 rfl rfl) fun a23 hS23 => wpList_nil (hR _ (hS23.re ⟨rfl, trivial⟩))) ?_
            clear hS
            clear a
            intro a hS
            refine wp_ret ?_
            have e := Option.some.inj H
            subst e
            replace H := Fl.go_out Hl4
            have e := Option.some.inj H
            subst e
            repeat (with_reducible first | refine then_ret ?_ | refine inBlock_ret ?_)
            exact c_ret1 hS Try.results73 rfl ⟨_, rfl, g, rfl, hF⟩
          · replace H := ite_f hb21 H
            refine wp_skip ?_
            change Code.wp _ _ _ _ _
            refine c_pure1 [(0, .slice A0 p0.length cap0), (1, .int .i64 p1), (7, .int .i64 (p0.length : Int)), (8, .int .i64 (wi (m0_0 + 1)))] (fun R hR => st_val hS rfl rfl rfl (r_bin hS rfl rfl rfl b_add) fun a24 hS24 => st_val hS24 rfl rfl rfl (r_move hS24 rfl rfl) fun a25 hS25 => wpList_nil (hR _ (hS25.re ⟨rfl, rfl, rfl, rfl, trivial⟩))) ?_
            clear hS
            clear a
            intro a hS
            refine ⟨k8, Nat.lt_succ_self _, ?_⟩
            exact ⟨wi (m0_0 + 1), H, rfl, hS.re ⟨rfl, rfl, rfl, rfl, trivial⟩⟩
        · replace H := ite_f hb10 H
          refine wp_exit ?_
          have e := Option.some.inj H
          exact ⟨e.symm, rfl, hS.re trivial⟩
  · clear H
    clear hS
    rintro a w' ⟨hpre0, hw, hS⟩
    subst hpre0
    subst hw
    have H := Fl.go_nxt Hl4
    clear Hl4
    refine c_pure [(4, .int .i64 (-1))] (fun R hR => st_val hS rfl rfl rfl (r_assign hS rfl rfl) fun a26 hS26 => wpList_nil (hR _ (hS26.re ⟨rfl, trivial⟩))) ?_
    clear hS
    clear a
    intro a hS
    refine wp_ret ?_
    have e := Option.some.inj H
    subst e
    repeat (with_reducible first | refine then_ret ?_ | refine inBlock_ret ?_)
    exact c_ret1 hS Try.results73 rfl ⟨_, rfl, g, rfl, hF⟩


end Go.Proofs.Ytfhhklkmbcnhnaa.Sim

namespace Go.Proofs.Ytfhhklkmbcnhnaa.Sim
open Go
set_option linter.unusedVariables false
set_option linter.unusedSimpArgs false

/-! ### slices_Contains_int_int: function 61 -/
def slices_Contains_int_int.f (p0 : List Int) (p1 : Int) : Option (Bool) := (slices_Index_int_int.f p0 p1).bind fun r4 => some (decide (0 ≤ r4))
set_option maxRecDepth 100000 in
set_option maxHeartbeats 4000000 in
theorem slices_Contains_int_int.calls {p0 : List Int} {A0 : Option Addr} {cap0 : Nat} {C0 : Nat → Prop} {p1 : Int} {w : World} {g : Nat → Nat} {out : Bool} (N : Nat) (hp0 : RdS (kint .i64) w g C0 A0 cap0 p0) (hC0 : ∀ c, C0 c → c < N) (H : slices_Contains_int_int.f p0 p1 = some out) :
    Calls Try.prog 61 #[.slice A0 p0.length cap0, .int .i64 p1] w (fun e w' => ∃ v, e = .returned v ∧ ∃ (g' : Nat → Nat), v = .bool out ∧ Fr (fun q => N ≤ q) w g w' g') := by
  unfold slices_Contains_int_int.f at H
  refine calls_enter Try.func61 rfl Try.ntmps61 rfl (fun a hS => ?_)
  replace hS : Sl 9 a [(0, .slice A0 p0.length cap0), (1, .int .i64 p1)] := hS
  have hF : Fr (fun q => N ≤ q) w g w g := Fr.refl _ _ _
  refine c_pure [(0, .slice A0 p0.length cap0), (1, .int .i64 p1)] (fun R hR => st_val hS rfl rfl rfl (r_assign hS rfl rfl) fun a1 hS1 => wpList_nil (hR _ (hS1.re ⟨rfl, rfl, trivial⟩))) ?_
  clear hS
  clear a
  intro a hS
  obtain ⟨r4, hr5, H⟩ := bind_el H
  refine c_region (fun K hK => ?_)
  refine st_val hS rfl rfl rfl (r_move hS rfl rfl) fun a2 hS2 => st_val hS2 rfl rfl rfl (r_move hS2 rfl rfl) fun a3 hS3 => ?_
  refine st_enter hS3 rfl rfl rfl (r_call hS3 rfl rfl (by kernel_rfl)) (slices_Index_int_int.calls (C0 := C0) (p0 := p0) (p1 := p1) (g := g) (N + 0)  hp0 (fun q (hq : C0 q) => by have := hC0 q hq; omega) hr5) ?_
  rintro _ a6 w7 ⟨g7, rfl, F7⟩ hS6
  replace hp0 := RdS.fr hp0 F7 (by decide) (fun q (hq : C0 q) (hm : N + 0 ≤ q) => by have := hC0 q hq; omega)
  replace hF := hF.trans F7 (fun c' (hm : N + 0 ≤ c') => by show N ≤ c'; omega)
  refine st_val hS6 rfl rfl rfl (r_bin hS6 rfl rfl rfl b_geq) fun a8 hS8 => st_val hS8 rfl rfl rfl (r_assign hS8 rfl rfl) fun a9 hS9 => wpList_nil (hK _ _ ?_)
  replace hS : Sl 9 _ [(4, .bool (decide (0 ≤ r4)))] := hS9.re ⟨rfl, trivial⟩
  clear hK K
  try clear hS2 hS3 hS6 hS8 hS9
  obtain ⟨a, ha⟩ : ∃ a', a' = a9 := ⟨_, rfl⟩
  rw [← ha] at hS ⊢; clear ha
  refine wp_ret ?_
  have e := Option.some.inj H
  subst e
  repeat (with_reducible first | refine then_ret ?_ | refine inBlock_ret ?_)
  exact c_ret1 hS Try.results61 rfl ⟨_, rfl, g7, rfl, hF⟩


end Go.Proofs.Ytfhhklkmbcnhnaa.Sim

namespace Go.Proofs.Ytfhhklkmbcnhnaa.Sim
open Go
set_option linter.unusedVariables false
set_option linter.unusedSimpArgs false

/-! ### device_without: function 44 -/
def device_without.l0 (p0 : List Int) (p1 : List Int) : Nat → (List Int) → Int → Option ((List Int))
  | 0, _, _ => none
  | k17 + 1, m0_0, m0_1 => if decide (m0_1 < (p0.length : Int)) = true then (((idx p0 m0_1).bind fun x27 => (slices_Contains_int_int.f p1 x27).bind fun r34 => if (!r34) = true then ((app m0_0 [x27]).bind fun y47 => some y47) else (some m0_0) : Option ((List Int))).bind fun v24 => device_without.l0 p0 p1 k17 v24 (wi (m0_1 + 1))) else (some m0_0)
def device_without.f (p0 : List Int) (p1 : List Int) : Option ((List Int)) := (device_without.l0 p0 p1 FUEL [] 0 : Option ((List Int))).bind fun v7 => some v7
set_option maxRecDepth 100000 in
set_option maxHeartbeats 4000000 in
theorem device_without.calls {p0 : List Int} {A0 : Option Addr} {cap0 : Nat} {C0 : Nat → Prop} {p1 : List Int} {A1 : Option Addr} {cap1 : Nat} {C1 : Nat → Prop} {w : World} {g : Nat → Nat} {out : (List Int)} (N : Nat) (r0 : Nat) (hp0 : RdS (kint .i64) w g C0 A0 cap0 p0) (hC0 : ∀ c, C0 c → c < N) (hp1 : RdS (kint .i64) w g C1 A1 cap1 p1) (hC1 : ∀ c, C1 c → c < N) (hr0 : r0 + 2 ≤ N) (H : device_without.f p0 p1 = some out) :
    Calls Try.prog 44 #[.slice A0 p0.length cap0, .slice A1 p1.length cap1] w (fun e w' => ∃ v, e = .returned v ∧ ∃ (g' : Nat → Nat) (A_r0 : Option Addr) (cap_r0 : Nat), v = .slice A_r0 out.length cap_r0 ∧ OwS (kint .i64) 3 w' g' r0 A_r0 cap_r0 out ∧ Fr (fun q => (r0 ≤ q ∧ q < r0 + 2) ∨ N ≤ q) w g w' g') := by
  unfold device_without.f at H
  refine calls_enter Try.func44 rfl Try.ntmps44 rfl (fun a hS => ?_)
  replace hS : Sl 24 a [(0, .slice A0 p0.length cap0), (1, .slice A1 p1.length cap1)] := hS
  have hF : Fr (fun q => (r0 ≤ q ∧ q < r0 + 2) ∨ N ≤ q) w g w g := Fr.refl _ _ _
  refine c_pure [(0, .slice A0 p0.length cap0), (1, .slice A1 p1.length cap1)] (fun R hR => st_val hS rfl rfl rfl (r_assign hS rfl rfl) fun a1 hS1 => wpList_nil (hR _ (hS1.re ⟨rfl, rfl, trivial⟩))) ?_
  clear hS
  clear a
  intro a hS
  refine c_pure [(0, .slice A0 p0.length cap0), (1, .slice A1 p1.length cap1), (5, .slice none 0 0)] (fun R hR => st_val hS rfl rfl rfl (r_assign hS rfl rfl) fun a2 hS2 => wpList_nil (hR _ (hS2.re ⟨rfl, rfl, rfl, trivial⟩))) ?_
  clear hS
  clear a
  intro a hS
  obtain ⟨v7, H, Hl9⟩ := bind_el H
  refine c_cut (fun a w3 => ∃ (g3 : Nat → Nat), ∃ (A4 : Option Addr), ∃ (cap5 : Nat), Sl 24 a [(5, .slice A4 v7.length cap5)] ∧ OwS (kint .i64) 3 w3 g3 (N + 2) A4 cap5 v7 ∧ Fr (fun q => (r0 ≤ q ∧ q < r0 + 2) ∨ N ≤ q) w g w3 g3) ?_ ?_
  · refine c_pure [(1, .slice A1 p1.length cap1), (5, .slice none 0 0), (8, .slice A0 p0.length cap0), (9, .int .i64 (p0.length : Int)), (10, .int .i64 0)] (fun R hR => st_val hS rfl rfl rfl (r_move hS rfl rfl) fun a10 hS10 => st_val hS10 rfl rfl rfl (r_len (e := 3) (sz := 1) (by_ := 8) hS10 rfl rfl (by kernel_rfl)) fun a11 hS11 => st_val hS11 rfl rfl rfl (r_move hS11 rfl rfl) fun a12 hS12 => wpList_nil (hR _ (hS12.re ⟨rfl, rfl, rfl, rfl, rfl, trivial⟩))) ?_
    clear hS
    clear a
    intro a hS
    refine wp_block ?_
    refine wp_loop_ghost (fun kq => fun a w13 => ∃ (m0_0 : List Int), ∃ (m0_1 : Int), ∃ (g13 : Nat → Nat), ∃ (A14 : Option Addr), ∃ (cap15 : Nat), device_without.l0 p0 p1 kq m0_0 m0_1 = some v7 ∧ Sl 24 a [(1, .slice A1 p1.length cap1), (5, .slice A14 m0_0.length cap15), (8, .slice A0 p0.length cap0), (9, .int .i64 (p0.length : Int)), (10, .int .i64 m0_1)] ∧ OwS (kint .i64) 3 w13 g13 (N + 2) A14 cap15 m0_0 ∧ RdS (kint .i64) w13 g13 C0 A0 cap0 p0 ∧ RdS (kint .i64) w13 g13 C1 A1 cap1 p1 ∧ Fr (fun q => (r0 ≤ q ∧ q < r0 + 2) ∨ N ≤ q) w g w13 g13) FUEL ?_ ?_
    · exact ⟨[], 0, g, none, 0, H, hS.re ⟨rfl, rfl, rfl, rfl, rfl, trivial⟩, OwS.nil (kint .i64) 3 w g (N + 2), hp0, hp1, hF⟩
    · clear H
      clear hp0 hp1 hF
      clear hS
      rintro k17 a w13 ⟨m0_0, m0_1, g13, A14, cap15, hpre0, hS, h16, hp0, hp1, hF⟩
      have H := hpre0
      clear hpre0
      cases k17 with
      | zero => exact absurd H (by simp [device_without.l0])
      | succ k17 =>
        rw [device_without.l0] at H
        refine c_pure [(1, .slice A1 p1.length cap1), (5, .slice A14 m0_0.length cap15), (8, .slice A0 p0.length cap0), (9, .int .i64 (p0.length : Int)), (10, .int .i64 m0_1), (11, .bool (decide (m0_1 < (p0.length : Int))))] (fun R hR => st_val hS rfl rfl rfl (r_bin hS rfl rfl rfl b_lss) fun a18 hS18 => wpList_nil (hR _ (hS18.re ⟨rfl, rfl, rfl, rfl, rfl, rfl, trivial⟩))) ?_
        clear hS
        clear a
        intro a hS
        refine c_if hS rfl (fun hb19 => ?_) (fun hb19 => ?_)
        · replace H := ite_t hb19 H
          refine wp_skip ?_
          change Code.wp _ _ _ _ _
          obtain ⟨v24, H, Hl26⟩ := bind_el H
          refine c_cut (fun a w20 => ∃ (g20 : Nat → Nat), ∃ (A21 : Option Addr), ∃ (cap22 : Nat), Sl 24 a [(1, .slice A1 p1.length cap1), (5, .slice A21 v24.length cap22), (8, .slice A0 p0.length cap0), (9, .int .i64 (p0.length : Int)), (10, .int .i64 m0_1)] ∧ OwS (kint .i64) 3 w20 g20 (N + 2) A21 cap22 v24 ∧ RdS (kint .i64) w20 g20 C0 A0 cap0 p0 ∧ RdS (kint .i64) w20 g20 C1 A1 cap1 p1 ∧ Fr (fun q => (r0 ≤ q ∧ q < r0 + 2) ∨ N ≤ q) w g w20 g20) ?_ ?_
          · refine wp_block ?_
            obtain ⟨x27, hx28, H⟩ := bind_el H
            refine c_pure [(1, .slice A1 p1.length cap1), (5, .slice A14 m0_0.length cap15), (7, .int .i64 x27), (8, .slice A0 p0.length cap0), (9, .int .i64 (p0.length : Int)), (10, .int .i64 m0_1)] (fun R hR => st_val hS rfl rfl rfl (r_index (e := 3) (sz := 1) (by_ := 8) hS rfl rfl rfl (by kernel_rfl) (RdS.some_ hp0 hx28) (idx_lo hx28) (idx_hi hx28)) fun a29 hS29 => st_val hS29 rfl rfl rfl (r_load1 (n := 1) hS29 rfl rfl (by kernel_rfl) (RdS.cell (i := m0_1) (sz := 1) (j := 0) hp0 hx28 rfl)) fun a30 hS30 => st_val hS30 rfl rfl rfl (r_assign hS30 rfl rfl) fun a31 hS31 => wpList_nil (hR _ (hS31.re ⟨rfl, rfl, rfl, rfl, rfl, rfl, trivial⟩))) ?_
            clear hS
            clear a
            intro a hS
            obtain ⟨r34, hr35, H⟩ := bind_el H
            refine c_region (fun K hK => ?_)
            refine st_val hS rfl rfl rfl (r_move hS rfl rfl) fun a32 hS32 => st_val hS32 rfl rfl rfl (r_move hS32 rfl rfl) fun a33 hS33 => ?_
            refine st_enter hS33 rfl rfl rfl (r_call hS33 rfl rfl (by kernel_rfl)) (slices_Contains_int_int.calls (C0 := C1) (p0 := p1) (p1 := x27) (g := g13) (N + 4)  hp1 (fun q (hq : C1 q) => by have := hC1 q hq; omega) hr35) ?_
            rintro _ a36 w37 ⟨g37, rfl, F37⟩ hS36
            replace h16 := OwS.fr h16 F37 (fun c' hc (hm : N + 4 ≤ c') => by omega)
            replace hp0 := RdS.fr hp0 F37 (by decide) (fun q (hq : C0 q) (hm : N + 4 ≤ q) => by have := hC0 q hq; omega)
            replace hp1 := RdS.fr hp1 F37 (by decide) (fun q (hq : C1 q) (hm : N + 4 ≤ q) => by have := hC1 q hq; omega)
            replace hF := hF.trans F37 (fun c' (hm : N + 4 ≤ c') => by show (r0 ≤ c' ∧ c' < r0 + 2) ∨ N ≤ c'; omega)
            refine st_val hS36 rfl rfl rfl (r_not hS36 rfl rfl) fun a38 hS38 => wpList_nil (hK _ _ ?_)
            replace hS : Sl 24 _ [(1, .slice A1 p1.length cap1), (5, .slice A14 m0_0.length cap15), (7, .int .i64 x27), (8, .slice A0 p0.length cap0), (9, .int .i64 (p0.length : Int)), (10, .int .i64 m0_1), (17, .bool (!r34))] := hS38.re ⟨rfl, rfl, rfl, rfl, rfl, rfl, rfl, trivial⟩
            clear hK K
            try clear hS32 hS33 hS36 hS38
            obtain ⟨a, ha⟩ : ∃ a', a' = a38 := ⟨_, rfl⟩
            rw [← ha] at hS ⊢; clear ha
            refine c_cond hS rfl (fun hb39 => ?_) (fun hb39 => ?_)
            · replace H := ite_t hb39 H
              obtain ⟨y47, hy48, H⟩ := bind_el H
              refine c_region1 (fun K hK => ?_)
              refine st_val hS rfl rfl rfl (r_move hS rfl rfl) fun a40 hS40 => st_val hS40 rfl rfl rfl (r_move hS40 rfl rfl) fun a41 hS41 => ?_
              refine st_eff hS41 rfl rfl rfl (e_lit (e := 3) (parts := [(0, .int .i64 x27)]) (cs := [.int .i64 x27]) (kint .i64) [x27] (N + 0) g37 hS41 rfl rfl (fun _ => by kernel_rfl) rfl (by decide) (Rows.cons (cs := [.int .i64 x27]) rfl Rows.nil)) ?_
              rintro _ a45 w46 g46 ⟨⟨A42, rfl, h43⟩, F46⟩ hS45
              replace h16 := OwS.fr h16 F46 (fun _ _ h => h)
              replace hp0 := RdS.fr hp0 F46 (by decide) (fun _ _ h => h)
              replace hp1 := RdS.fr hp1 F46 (by decide) (fun _ _ h => h)
              replace hF := hF.trans F46 (fun _ h => h.elim)
              refine st_eff hS45 rfl rfl rfl (e_append (e := 3) (sz := 1) (by_ := 8) (z := [.int .i64 0]) (kd := (kint .i64)) g46 hS45 rfl rfl rfl rfl (by kernel_rfl) (by kernel_rfl) rfl rfl rfl rfl h16 (OwD.rdx h43) (fun _ _ _ h => h) hy48) ?_
              rintro _ a53 w54 g54 ⟨⟨A49, cap50, rfl, h51⟩, F54⟩ hS53
              replace h43 := OwS.fr h43 F54 (fun c' hc (hm : c' = N + 2) => by omega)
              replace hp0 := RdS.fr hp0 F54 (by decide) (fun q (hq : C0 q) (hm : q = N + 2) => by have := hC0 q hq; omega)
              replace hp1 := RdS.fr hp1 F54 (by decide) (fun q (hq : C1 q) (hm : q = N + 2) => by have := hC1 q hq; omega)
              replace hF := hF.trans F54 (fun c' (hm : c' = N + 2) => by show (r0 ≤ c' ∧ c' < r0 + 2) ∨ N ≤ c'; omega)
              refine st_val hS53 rfl rfl rfl (r_assign hS53 rfl rfl) fun a55 hS55 => wpList_nil (hK _ _ ?_)
              replace hS : Sl 24 _ [(1, .slice A1 p1.length cap1), (5, .slice A49 y47.length cap50), (8, .slice A0 p0.length cap0), (9, .int .i64 (p0.length : Int)), (10, .int .i64 m0_1)] := hS55.re ⟨rfl, rfl, rfl, rfl, rfl, trivial⟩
              clear hK K
              try clear hS40 hS41 hS45 hS53 hS55
              obtain ⟨a, ha⟩ : ∃ a', a' = a55 := ⟨_, rfl⟩
              rw [← ha] at hS ⊢; clear ha
              have e := Option.some.inj H
              subst e
              exact ⟨g54, A49, cap50, hS.re ⟨rfl, rfl, rfl, rfl, rfl, trivial⟩, h51, hp0, hp1, hF⟩
            · replace H := ite_f hb39 H
              refine wp_skip ?_
              have e := Option.some.inj H
              subst e
              exact ⟨g37, A14, cap15, hS.re ⟨rfl, rfl, rfl, rfl, rfl, trivial⟩, h16, hp0, hp1, hF⟩
          · clear H
            clear hp0 hp1 h16 hF
            clear hS
            rintro a w20 ⟨g20, A21, cap22, hS, h23, hp0, hp1, hF⟩
            have H := Hl26
            clear Hl26
            refine c_pure1 [(1, .slice A1 p1.length cap1), (5, .slice A21 v24.length cap22), (8, .slice A0 p0.length cap0), (9, .int .i64 (p0.length : Int)), (10, .int .i64 (wi (m0_1 + 1)))] (fun R hR => st_val hS rfl rfl rfl (r_bin hS rfl rfl rfl b_add) fun a56 hS56 => st_val hS56 rfl rfl rfl (r_move hS56 rfl rfl) fun a57 hS57 => wpList_nil (hR _ (hS57.re ⟨rfl, rfl, rfl, rfl, rfl, trivial⟩))) ?_
            clear hS
            clear a
            intro a hS
            refine ⟨k17, Nat.lt_succ_self _, ?_⟩
            exact ⟨v24, wi (m0_1 + 1), g20, A21, cap22, H, hS.re ⟨rfl, rfl, rfl, rfl, rfl, trivial⟩, h23, hp0, hp1, hF⟩
        · replace H := ite_f hb19 H
          refine wp_exit ?_
          have e := Option.some.inj H
          subst e
          exact ⟨g13, A14, cap15, hS.re ⟨rfl, trivial⟩, h16, hF⟩
  · clear H
    clear hp0 hp1 hF
    clear hS
    rintro a w3 ⟨g3, A4, cap5, hS, h6, hF⟩
    have H := Hl9
    clear Hl9
    refine c_pure [(4, .slice A4 v7.length cap5)] (fun R hR => st_val hS rfl rfl rfl (r_move hS rfl rfl) fun a58 hS58 => st_val hS58 rfl rfl rfl (r_assign hS58 rfl rfl) fun a59 hS59 => wpList_nil (hR _ (hS59.re ⟨rfl, trivial⟩))) ?_
    clear hS
    clear a
    intro a hS
    refine wp_ret ?_
    have e := Option.some.inj H
    subst e
    have F60 := Fr.recol2 w3 g3 (N + 2) r0
    replace h6 := h6.recol2 r0
    replace hF := hF.trans F60 (fun c' (hm : c' = N + 2 ∨ c' = N + 2 + 1) => by show (r0 ≤ c' ∧ c' < r0 + 2) ∨ N ≤ c'; omega)
    repeat (with_reducible first | refine then_ret ?_ | refine inBlock_ret ?_)
    exact c_ret1 hS Try.results44 rfl ⟨_, rfl, (recol2 g3 (N + 2) r0), A4, cap5, rfl, h6, hF⟩


end Go.Proofs.Ytfhhklkmbcnhnaa.Sim

namespace Go.Proofs.Ytfhhklkmbcnhnaa.Sim
open Go
set_option linter.unusedVariables false
set_option linter.unusedSimpArgs false

/-! ### slices_Reverse_int_int: function 45 -/
def slices_Reverse_int_int.l0 : Nat → (List Int) → Int → Int → Option ((List Int))
  | 0, _, _, _ => none
  | k7 + 1, m0_0, m0_1, m0_2 => if decide (m0_1 < m0_2) = true then ((idx m0_0 m0_2).bind fun x12 => (idx m0_0 m0_1).bind fun x14 => (idx (upd m0_0 m0_1 x12) m0_2).bind fun x16 => slices_Reverse_int_int.l0 k7 (upd (upd m0_0 m0_1 x12) m0_2 x14) (wi (m0_1 + 1)) (wi (m0_2 - 1))) else (some m0_0)
def slices_Reverse_int_int.f (p0 : List Int) : Option ((List Int)) := slices_Reverse_int_int.l0 FUEL p0 0 (wi ((p0.length : Int) - 1))
set_option maxRecDepth 100000 in
set_option maxHeartbeats 4000000 in
theorem slices_Reverse_int_int.calls {p0 : List Int} {A0 : Option Addr} {cap0 : Nat} {c0 : Nat} {w : World} {g : Nat → Nat} {out : (List Int)} (N : Nat) (hp0 : OwS (kint .i64) 3 w g c0 A0 cap0 p0) (hc0 : c0 + 2 ≤ N) (H : slices_Reverse_int_int.f p0 = some out) :
    Calls Try.prog 45 #[.slice A0 p0.length cap0] w (fun e w' => ∃ v, e = .returned v ∧ ∃ (g' : Nat → Nat), v = .tuple #[] ∧ OwS (kint .i64) 3 w' g' c0 A0 cap0 out ∧ out.length = p0.length ∧ Fr (fun q => (c0 ≤ q ∧ q < c0 + 2) ∨ N ≤ q) w g w' g') := by
  unfold slices_Reverse_int_int.f at H
  refine calls_enter Try.func45 rfl Try.ntmps45 rfl (fun a hS => ?_)
  replace hS : Sl 28 a [(0, .slice A0 p0.length cap0)] := hS
  have hF : Fr (fun q => (c0 ≤ q ∧ q < c0 + 2) ∨ N ≤ q) w g w g := Fr.refl _ _ _
  have hl0 : p0.length = p0.length := rfl
  refine c_pure [(0, .slice A0 p0.length cap0), (2, .int .i64 0), (3, .int .i64 (wi ((p0.length : Int) - 1)))] (fun R hR => st_val hS rfl rfl rfl (r_move hS rfl rfl) fun a1 hS1 => st_val hS1 rfl rfl rfl (r_len (e := 3) (sz := 1) (by_ := 8) hS1 rfl rfl (by kernel_rfl)) fun a2 hS2 => st_val hS2 rfl rfl rfl (r_bin hS2 rfl rfl rfl b_sub) fun a3 hS3 => st_val hS3 rfl rfl rfl (r_assign hS3 rfl rfl) fun a4 hS4 => st_val hS4 rfl rfl rfl (r_assign hS4 rfl rfl) fun a5 hS5 => wpList_nil (hR _ (hS5.re ⟨rfl, rfl, rfl, trivial⟩))) ?_
  clear hS
  clear a
  intro a hS
  refine wp_block ?_
  refine wp_loop_ghost (fun kq => fun a w6 => ∃ (m0_0 : List Int), ∃ (m0_1 : Int), ∃ (m0_2 : Int), ∃ (g6 : Nat → Nat), slices_Reverse_int_int.l0 kq m0_0 m0_1 m0_2 = some out ∧ Sl 28 a [(0, .slice A0 m0_0.length cap0), (2, .int .i64 m0_1), (3, .int .i64 m0_2)] ∧ OwS (kint .i64) 3 w6 g6 (c0) A0 cap0 m0_0 ∧ m0_0.length = p0.length ∧ Fr (fun q => (c0 ≤ q ∧ q < c0 + 2) ∨ N ≤ q) w g w6 g6) FUEL ?_ ?_
  · exact ⟨p0, 0, wi ((p0.length : Int) - 1), g, H, hS.re ⟨rfl, rfl, rfl, trivial⟩, hp0, (by first | exact hl0 | (simp only [upd_length] <;> exact hl0)), hF⟩
  · clear H
    clear hp0 hl0 hF
    clear hS
    rintro k7 a w6 ⟨m0_0, m0_1, m0_2, g6, hpre0, hS, hp0, hl0, hF⟩
    have H := hpre0
    clear hpre0
    cases k7 with
    | zero => exact absurd H (by simp [slices_Reverse_int_int.l0])
    | succ k7 =>
      rw [slices_Reverse_int_int.l0] at H
      refine wp_seq ?_
      refine c_pure [(0, .slice A0 m0_0.length cap0), (2, .int .i64 m0_1), (3, .int .i64 m0_2), (9, .bool (decide (m0_1 < m0_2)))] (fun R hR => st_val hS rfl rfl rfl (r_move hS rfl rfl) fun a8 hS8 => st_val hS8 rfl rfl rfl (r_move hS8 rfl rfl) fun a9 hS9 => st_val hS9 rfl rfl rfl (r_bin hS9 rfl rfl rfl b_lss) fun a10 hS10 => wpList_nil (hR _ (hS10.re ⟨rfl, rfl, rfl, rfl, trivial⟩))) ?_
      clear hS
      clear a
      intro a hS
      refine c_cond hS rfl (fun hb11 => ?_) (fun hb11 => ?_)
      · replace H := ite_t hb11 H
        refine wp_skip ?_
        change Code.wp _ _ _ _ _
        refine wp_seq ?_
        refine wp_block ?_
        obtain ⟨x12, hx13, H⟩ := bind_el H
        obtain ⟨x14, hx15, H⟩ := bind_el H
        obtain ⟨x16, hx17, H⟩ := bind_el H
        refine c_draw1 (fun K hK => d_start (fun q => False) g6 [13, 15] 16 #[false, false, false, false, false, false, false, false, false, false, false, false, false, false, false, false] (by kernel_rfl) rfl rfl (fun w18 hw18 => ?_))
        have F18 : Fr (fun _ => False) w6 g6 w18 g6 := by rw [hw18]; exact Fr.drew _ _ _
        replace hp0 := OwS.fr hp0 F18 (fun _ _ h => h)
        replace hF := hF.trans F18 (fun _ h => h.elim)
        have hC : Fr (fun q => False) w18 g6 w18 g6 := Fr.refl _ _ _
        refine d_pure hS 0 #[true, false, false, false, false, false, false, false, false, false, false, false, false, false, false, false] rfl rfl rfl rfl (by kernel_rfl) (fun _ _ _ h => h) (fun _ => (r_move hS rfl rfl)) fun a19 hS19 => d_pure hS19 1 #[true, true, false, false, false, false, false, false, false, false, false, false, false, false, false, false] rfl rfl rfl rfl (by kernel_rfl) (fun _ _ _ h => h) (fun _ => (r_move hS19 rfl rfl)) fun a20 hS20 => d_pure hS20 2 #[true, true, true, false, false, false, false, false, false, false, false, false, false, false, false, false] rfl rfl rfl rfl (by kernel_rfl) (fun _ _ _ h => h) (fun _ => (r_move hS20 rfl rfl)) fun a21 hS21 => d_pure hS21 3 #[true, true, true, true, false, false, false, false, false, false, false, false, false, false, false, false] rfl rfl rfl rfl (by kernel_rfl) (fun _ _ _ h => h) (fun _ => (r_move hS21 rfl rfl)) fun a22 hS22 => d_pure hS22 4 #[true, true, true, true, true, false, false, false, false, false, false, false, false, false, false, false] rfl rfl rfl rfl (by kernel_rfl) (fun _ _ _ h => h) (fun _ => (r_move hS22 rfl rfl)) fun a23 hS23 => d_pure hS23 5 #[true, true, true, true, true, true, false, false, false, false, false, false, false, false, false, false] rfl rfl rfl rfl (by kernel_rfl) (fun _ _ _ h => h) (fun _ => (r_move hS23 rfl rfl)) fun a24 hS24 => d_pure hS24 6 #[true, true, true, true, true, true, true, false, false, false, false, false, false, false, false, false] rfl rfl rfl rfl (by kernel_rfl) (fun _ _ _ h => h) (fun _ => (r_index (e := 3) (sz := 1) (by_ := 8) hS24 rfl rfl rfl (by kernel_rfl) (RdS.some_ (OwS.rd hp0) hx13) (idx_lo hx13) (idx_hi hx13))) fun a25 hS25 => d_take hS25 7 #[true, true, true, true, true, true, true, true, false, false, false, false, false, false, false, false] rfl rfl rfl rfl (by kernel_rfl) (fun _ _ _ h => h) ⟨_, hC⟩ (fun w' g' Fz => (r_load1 (n := 1) hS25 rfl rfl (by kernel_rfl) (RdS.cell (i := m0_2) (sz := 1) (j := 0) (OwS.rd (OwS.fr hp0 Fz (fun _ _ h => h))) hx13 rfl))) fun a26 hS26 => d_pure hS26 8 #[true, true, true, true, true, true, true, true, true, false, false, false, false, false, false, false] rfl rfl rfl rfl (by kernel_rfl) (fun _ _ _ h => h) (fun _ => (r_move hS26 rfl rfl)) fun a27 hS27 => d_pure hS27 9 #[true, true, true, true, true, true, true, true, true, true, false, false, false, false, false, false] rfl rfl rfl rfl (by kernel_rfl) (fun _ _ _ h => h) (fun _ => (r_move hS27 rfl rfl)) fun a28 hS28 => d_pure hS28 10 #[true, true, true, true, true, true, true, true, true, true, true, false, false, false, false, false] rfl rfl rfl rfl (by kernel_rfl) (fun _ _ _ h => h) (fun _ => (r_index (e := 3) (sz := 1) (by_ := 8) hS28 rfl rfl rfl (by kernel_rfl) (RdS.some_ (OwS.rd hp0) hx15) (idx_lo hx15) (idx_hi hx15))) fun a29 hS29 => d_take hS29 11 #[true, true, true, true, true, true, true, true, true, true, true, true, false, false, false, false] rfl rfl rfl rfl (by kernel_rfl) (fun _ _ _ h => h) ⟨_, hC⟩ (fun w' g' Fz => (r_load1 (n := 1) hS29 rfl rfl (by kernel_rfl) (RdS.cell (i := m0_1) (sz := 1) (j := 0) (OwS.rd (OwS.fr hp0 Fz (fun _ _ h => h))) hx15 rfl))) fun a30 hS30 => d_pure hS30 12 #[true, true, true, true, true, true, true, true, true, true, true, true, true, false, false, false] rfl rfl rfl rfl (by kernel_rfl) (fun _ _ _ h => h) (fun _ => (r_index (e := 3) (sz := 1) (by_ := 8) hS30 rfl rfl rfl (by kernel_rfl) (RdS.some_ (OwS.rd hp0) hx15) (idx_lo hx15) (idx_hi hx15))) fun a31 hS31 => ?_
        refine d_one 13 #[true, true, true, true, true, true, true, true, true, true, true, true, true, true, false, false] rfl (by kernel_rfl) (arm_effS hS31 rfl rfl (e_storeE (n := 1) (bb := false) (kd := (kint .i64)) (j := 0) (x' := x12) (us := [.int .i64 x12]) g6 hS31 rfl rfl rfl rfl (by kernel_rfl) rfl rfl (by intro v hv; simp only [List.mem_cons, List.not_mem_nil, or_false] at hv; rcases hv with rfl <;> rfl) hp0 hx15 rfl (fun _ _ cs hR => by rw [show cs = _ from hR]; rfl)) (.inl (by decide)) ?_)
        rintro a32 w33 g33 ⟨hp0, F33⟩ hS32
        replace hF := hF.trans F33 (fun c' (hm : c' = c0) => by show (c0 ≤ c' ∧ c' < c0 + 2) ∨ N ≤ c'; omega)
        have hT : Sl 28 a32 [(0, .slice A0 m0_0.length cap0), (2, .int .i64 m0_1), (3, .int .i64 m0_2), (16, .slice A0 m0_0.length cap0), (17, .int .i64 m0_2), (25, .int .i64 x14)] := hS32.re ⟨rfl, rfl, rfl, rfl, rfl, rfl, trivial⟩
        replace hS32 : Sl 28 a32 [(0, .slice A0 (upd m0_0 m0_1 x12).length cap0), (2, .int .i64 m0_1), (3, .int .i64 m0_2), (16, .slice A0 (upd m0_0 m0_1 x12).length cap0), (17, .int .i64 m0_2), (25, .int .i64 x14)] := by simpa only [upd_length] using hT
        clear hT
        refine d_pure hS32 14 #[true, true, true, true, true, true, true, true, true, true, true, true, true, true, true, false] rfl rfl rfl rfl (by kernel_rfl) (fun _ _ _ h => h) (fun _ => (r_index (e := 3) (sz := 1) (by_ := 8) hS32 rfl rfl rfl (by kernel_rfl) (RdS.some_ (OwS.rd hp0) hx17) (idx_lo hx17) (idx_hi hx17))) fun a34 hS34 => ?_
        refine d_one 15 #[true, true, true, true, true, true, true, true, true, true, true, true, true, true, true, true] rfl (by kernel_rfl) (arm_effS hS34 rfl rfl (e_storeE (n := 1) (bb := false) (kd := (kint .i64)) (j := 0) (x' := x14) (us := [.int .i64 x14]) g33 hS34 rfl rfl rfl rfl (by kernel_rfl) rfl rfl (by intro v hv; simp only [List.mem_cons, List.not_mem_nil, or_false] at hv; rcases hv with rfl <;> rfl) hp0 hx17 rfl (fun _ _ cs hR => by rw [show cs = _ from hR]; rfl)) (.inl (by decide)) ?_)
        rintro a35 w36 g36 ⟨hp0, F36⟩ hS35
        replace hF := hF.trans F36 (fun c' (hm : c' = c0) => by show (c0 ≤ c' ∧ c' < c0 + 2) ∨ N ≤ c'; omega)
        have hT : Sl 28 a35 [(0, .slice A0 (upd m0_0 m0_1 x12).length cap0), (2, .int .i64 m0_1), (3, .int .i64 m0_2)] := hS35.re ⟨rfl, rfl, rfl, trivial⟩
        replace hS35 : Sl 28 a35 [(0, .slice A0 (upd (upd m0_0 m0_1 x12) m0_2 x14).length cap0), (2, .int .i64 m0_1), (3, .int .i64 m0_2)] := by simpa only [upd_length] using hT
        clear hT
        refine d_done (by kernel_rfl) (hK _ _ ?_)
        replace hS : Sl 28 _ [(0, .slice A0 (upd (upd m0_0 m0_1 x12) m0_2 x14).length cap0), (2, .int .i64 m0_1), (3, .int .i64 m0_2)] := hS35.re ⟨rfl, rfl, rfl, trivial⟩
        clear hK K hC
        try clear hS19 hS20 hS21 hS22 hS23 hS24 hS25 hS26 hS27 hS28 hS29 hS30 hS31 hS32 hS34 hS35
        obtain ⟨a, ha⟩ : ∃ a', a' = a35 := ⟨_, rfl⟩
        rw [← ha] at hS ⊢; clear ha
        change Code.wp _ _ _ _ _
        refine c_pure1 [(0, .slice A0 (upd (upd m0_0 m0_1 x12) m0_2 x14).length cap0), (2, .int .i64 (wi (m0_1 + 1))), (3, .int .i64 (wi (m0_2 - 1)))] (fun R hR => st_val hS rfl rfl rfl (r_move hS rfl rfl) fun a37 hS37 => st_val hS37 rfl rfl rfl (r_bin hS37 rfl rfl rfl b_add) fun a38 hS38 => st_val hS38 rfl rfl rfl (r_move hS38 rfl rfl) fun a39 hS39 => st_val hS39 rfl rfl rfl (r_bin hS39 rfl rfl rfl b_sub) fun a40 hS40 => st_val hS40 rfl rfl rfl (r_assign hS40 rfl rfl) fun a41 hS41 => st_val hS41 rfl rfl rfl (r_assign hS41 rfl rfl) fun a42 hS42 => wpList_nil (hR _ (hS42.re ⟨rfl, rfl, rfl, trivial⟩))) ?_
        clear hS
        clear a
        intro a hS
        refine ⟨k7, Nat.lt_succ_self _, ?_⟩
        exact ⟨(upd (upd m0_0 m0_1 x12) m0_2 x14), wi (m0_1 + 1), wi (m0_2 - 1), g36, H, hS.re ⟨rfl, rfl, rfl, trivial⟩, hp0, (by first | exact hl0 | (simp only [upd_length] <;> exact hl0)), hF⟩
      · replace H := ite_f hb11 H
        refine wp_exit ?_
        have e := Option.some.inj H
        subst e
        repeat (with_reducible first | refine inBlock_exit ?_ | refine then_exit ?_ | refine inBlock_out (by decide) ?_ | refine inBlock_normal ?_)
        exact c_end0 hS Try.results45 ⟨_, rfl, g6, rfl, hp0, (by first | exact hl0 | (simp only [upd_length] <;> exact hl0)), hF⟩


end Go.Proofs.Ytfhhklkmbcnhnaa.Sim

namespace Go.Proofs.Ytfhhklkmbcnhnaa.Sim
open Go
set_option linter.unusedVariables false
set_option linter.unusedSimpArgs false

/-! ### device_Change: function 21 -/
def device_Change.f (p0 : api_PowerDevice) (p1 : Int) (p2 : Int) : Option ((List Int) × (List Int) × Int) := (device_isState.f p1).bind fun r10 => (if (!r10) = true then some true else (device_isState.f p2).bind fun r18 => some (!r18)).bind fun t23 => (if t23 = true then some true else (device_needs.f p0 p1).bind fun r44 => (device_ascending.f r44).bind fun r52 => some (!r52)).bind fun t57 => (if t57 = true then some true else (device_needs.f p0 p2).bind fun r89 => (device_ascending.f r89).bind fun r97 => some (!r97)).bind fun t102 => if t102 = true then (some ([], [], 1)) else ((device_needs.f p0 p2).bind fun r134 => (device_needs.f p0 p1).bind fun r140 => (device_without.f r134 r140).bind fun r146 => (device_needs.f p0 p1).bind fun r176 => (device_needs.f p0 p2).bind fun r182 => (device_without.f r176 r182).bind fun r188 => (slices_Reverse_int_int.f r188).bind fun r219 => some (r146, r219, 0))
set_option maxRecDepth 100000 in
set_option maxHeartbeats 4000000 in
theorem device_Change.calls {p0 : api_PowerDevice} {C0 : Nat → Prop} {A0_0 : Option Addr} {cap0_0 : Nat} {A0_1 : Option Addr} {cap0_1 : Nat} {A0_2 : Option Addr} {cap0_2 : Nat} {A0_3 : Option Addr} {cap0_3 : Nat} {p1 : Int} {p2 : Int} {w : World} {g : Nat → Nat} {out : (List Int) × (List Int) × Int} (N : Nat) (r0 : Nat) (r1 : Nat) (hp0_0 : RdS (kint .i64) w g C0 A0_0 cap0_0 p0.Rails.a0) (hp0_1 : RdS (kint .i64) w g C0 A0_1 cap0_1 p0.Rails.a1) (hp0_2 : RdS (kint .i64) w g C0 A0_2 cap0_2 p0.Rails.a2) (hp0_3 : RdS (kint .i64) w g C0 A0_3 cap0_3 p0.Rails.a3) (hC0 : ∀ c, C0 c → c < N) (hr0 : r0 + 2 ≤ N) (hr1 : r1 + 2 ≤ N) (ht1_0 : r1 + 2 ≤ r0 ∨ r0 + 2 ≤ r1) (H : device_Change.f p0 p1 p2 = some out) :
    Calls Try.prog 21 #[.agg #[.int .i64 p0.Parent, .slice A0_0 p0.Rails.a0.length cap0_0, .slice A0_1 p0.Rails.a1.length cap0_1, .slice A0_2 p0.Rails.a2.length cap0_2, .slice A0_3 p0.Rails.a3.length cap0_3, .int .i64 p0.Deepest.a0, .int .i64 p0.Deepest.a1, .int .i64 p0.Deepest.a2, .int .i64 p0.Deepest.a3, .int .i64 p0.Deepest.a4, .int .i64 p0.Deepest.a5, .int .i64 p0.WakeDevice, .int .i64 p0.WakeSystem], .int .i64 p1, .int .i64 p2] w (fun e w' => ∃ v, e = .returned v ∧ ∃ (g' : Nat → Nat) (A_r0 : Option Addr) (cap_r0 : Nat) (A_r1 : Option Addr) (cap_r1 : Nat), v = .tuple #[.slice A_r0 out.1.length cap_r0, .slice A_r1 out.2.1.length cap_r1, .int .i64 out.2.2] ∧ OwS (kint .i64) 3 w' g' r0 A_r0 cap_r0 out.1 ∧ OwS (kint .i64) 3 w' g' r1 A_r1 cap_r1 out.2.1 ∧ Fr (fun q => (r0 ≤ q ∧ q < r0 + 2) ∨ (r1 ≤ q ∧ q < r1 + 2) ∨ N ≤ q) w g w' g') := by
  unfold device_Change.f at H
  refine calls_enter Try.func21 rfl Try.ntmps21 rfl (fun a hS => ?_)
  replace hS : Sl 49 a [(0, .agg #[.int .i64 p0.Parent, .slice A0_0 p0.Rails.a0.length cap0_0, .slice A0_1 p0.Rails.a1.length cap0_1, .slice A0_2 p0.Rails.a2.length cap0_2, .slice A0_3 p0.Rails.a3.length cap0_3, .int .i64 p0.Deepest.a0, .int .i64 p0.Deepest.a1, .int .i64 p0.Deepest.a2, .int .i64 p0.Deepest.a3, .int .i64 p0.Deepest.a4, .int .i64 p0.Deepest.a5, .int .i64 p0.WakeDevice, .int .i64 p0.WakeSystem]), (1, .int .i64 p1), (2, .int .i64 p2)] := hS
  have hF : Fr (fun q => (r0 ≤ q ∧ q < r0 + 2) ∨ (r1 ≤ q ∧ q < r1 + 2) ∨ N ≤ q) w g w g := Fr.refl _ _ _
  refine c_region (fun K hK => ?_)
  refine st_eff hS rfl rfl rfl (e_box (cs := [.int .i64 p0.Parent, .slice A0_0 p0.Rails.a0.length cap0_0, .slice A0_1 p0.Rails.a1.length cap0_1, .slice A0_2 p0.Rails.a2.length cap0_2, .slice A0_3 p0.Rails.a3.length cap0_3, .int .i64 p0.Deepest.a0, .int .i64 p0.Deepest.a1, .int .i64 p0.Deepest.a2, .int .i64 p0.Deepest.a3, .int .i64 p0.Deepest.a4, .int .i64 p0.Deepest.a5, .int .i64 p0.WakeDevice, .int .i64 p0.WakeSystem]) (N + 0) g hS rfl rfl rfl) ?_
  rintro _ a4 w5 g5 ⟨⟨b1, rfl, h2⟩, F5⟩ hS4
  replace hp0_0 := RdS.fr hp0_0 F5 (by decide) (fun _ _ h => h)
  replace hp0_1 := RdS.fr hp0_1 F5 (by decide) (fun _ _ h => h)
  replace hp0_2 := RdS.fr hp0_2 F5 (by decide) (fun _ _ h => h)
  replace hp0_3 := RdS.fr hp0_3 F5 (by decide) (fun _ _ h => h)
  replace hF := hF.trans F5 (fun _ h => h.elim)
  refine st_val hS4 rfl rfl rfl (r_assign hS4 rfl rfl) fun a6 hS6 => st_val hS6 rfl rfl rfl (r_assign hS6 rfl rfl) fun a7 hS7 => st_val hS7 rfl rfl rfl (r_assign hS7 rfl rfl) fun a8 hS8 => wpList_nil (hK _ _ ?_)
  replace hS : Sl 49 _ [(1, .int .i64 p1), (2, .int .i64 p2), (3, .pointer (some ⟨b1, 0, none⟩))] := hS8.re ⟨rfl, rfl, rfl, trivial⟩
  clear hK K
  try clear hS4 hS6 hS7 hS8
  obtain ⟨a, ha⟩ : ∃ a', a' = a8 := ⟨_, rfl⟩
  rw [← ha] at hS ⊢; clear ha
  refine wp_seq ?_
  obtain ⟨r10, hr11, H⟩ := bind_el H
  obtain ⟨t23, ht24, H⟩ := bind_el H
  obtain ⟨t57, ht58, H⟩ := bind_el H
  obtain ⟨t102, ht103, H⟩ := bind_el H
  refine c_region (fun K hK => ?_)
  refine st_val hS rfl rfl rfl (r_move hS rfl rfl) fun a9 hS9 => ?_
  refine st_enter hS9 rfl rfl rfl (r_call hS9 rfl rfl (by kernel_rfl)) (device_isState.calls (p0 := p1) (g := g5) (N + 6)   hr11) ?_
  rintro _ a12 w13 ⟨g13, rfl, F13⟩ hS12
  replace h2 := h2.fr F13 (fun (hm : N + 6 ≤ N + 0) => by omega)
  replace hp0_0 := RdS.fr hp0_0 F13 (by decide) (fun q (hq : C0 q) (hm : N + 6 ≤ q) => by have := hC0 q hq; omega)
  replace hp0_1 := RdS.fr hp0_1 F13 (by decide) (fun q (hq : C0 q) (hm : N + 6 ≤ q) => by have := hC0 q hq; omega)
  replace hp0_2 := RdS.fr hp0_2 F13 (by decide) (fun q (hq : C0 q) (hm : N + 6 ≤ q) => by have := hC0 q hq; omega)
  replace hp0_3 := RdS.fr hp0_3 F13 (by decide) (fun q (hq : C0 q) (hm : N + 6 ≤ q) => by have := hC0 q hq; omega)
  replace hF := hF.trans F13 (fun c' (hm : N + 6 ≤ c') => by show (r0 ≤ c' ∧ c' < r0 + 2) ∨ (r1 ≤ c' ∧ c' < r1 + 2) ∨ N ≤ c'; omega)
  refine st_val hS12 rfl rfl rfl (r_not hS12 rfl rfl) fun a14 hS14 => st_val hS14 rfl rfl rfl (r_move hS14 rfl rfl) fun a15 hS15 => ?_
  refine g_joinR 4 (fun a w25 => ∃ (g25 : Nat → Nat), Sl 49 a [(1, .int .i64 p1), (2, .int .i64 p2), (3, .pointer (some ⟨b1, 0, none⟩)), (16, .bool t23)] ∧ Bx w25 g25 (N + 0) b1 33 [.int .i64 p0.Parent, .slice A0_0 p0.Rails.a0.length cap0_0, .slice A0_1 p0.Rails.a1.length cap0_1, .slice A0_2 p0.Rails.a2.length cap0_2, .slice A0_3 p0.Rails.a3.length cap0_3, .int .i64 p0.Deepest.a0, .int .i64 p0.Deepest.a1, .int .i64 p0.Deepest.a2, .int .i64 p0.Deepest.a3, .int .i64 p0.Deepest.a4, .int .i64 p0.Deepest.a5, .int .i64 p0.WakeDevice, .int .i64 p0.WakeSystem] ∧ RdS (kint .i64) w25 g25 C0 A0_0 cap0_0 p0.Rails.a0 ∧ RdS (kint .i64) w25 g25 C0 A0_1 cap0_1 p0.Rails.a1 ∧ RdS (kint .i64) w25 g25 C0 A0_2 cap0_2 p0.Rails.a2 ∧ RdS (kint .i64) w25 g25 C0 A0_3 cap0_3 p0.Rails.a3 ∧ Fr (fun q => (r0 ≤ q ∧ q < r0 + 2) ∨ (r1 ≤ q ∧ q < r1 + 2) ∨ N ≤ q) w g w25 g25) ?_ (fun hk => ?_)
  rotate_left
  · rcases Bool.eq_false_or_eq_true ((!r10)) with hb16 | hb16
    · have H := ite_t hb16 ht24
      have e26 := Option.some.inj H
      refine st_off hS15 (want_off hS15 rfl rfl rfl hb16) rfl rfl fun a27 hS27 => st_off hS27 (want_off hS27 rfl rfl rfl hb16) rfl rfl fun a28 hS28 => st_off hS28 (want_off hS28 rfl rfl rfl hb16) rfl rfl fun a29 hS29 => st_val hS29 rfl rfl rfl (r_pickT hS29 rfl rfl rfl hb16) fun a30 hS30 => hk _ _ ?_
      exact ⟨g13, hS30.re ⟨rfl, rfl, rfl, (by rw [← e26]; rfl), trivial⟩, h2, hp0_0, hp0_1, hp0_2, hp0_3, hF⟩
    · have H := ite_f hb16 ht24
      obtain ⟨r32, hr33, H⟩ := bind_el H
      have e37 := Option.some.inj H
      refine st_valW hS15 (want_on hS15 rfl rfl rfl hb16) rfl rfl (r_move hS15 rfl rfl) fun a31 hS31 => ?_
      refine st_enterW hS31 (want_on hS31 rfl rfl rfl hb16) rfl rfl (r_call hS31 rfl rfl (by kernel_rfl)) (device_isState.calls (p0 := p2) (g := g13) (N + 6)   hr33) ?_
      rintro _ a34 w35 ⟨g35, rfl, F35⟩ hS34
      replace h2 := h2.fr F35 (fun (hm : N + 6 ≤ N + 0) => by omega)
      replace hp0_0 := RdS.fr hp0_0 F35 (by decide) (fun q (hq : C0 q) (hm : N + 6 ≤ q) => by have := hC0 q hq; omega)
      replace hp0_1 := RdS.fr hp0_1 F35 (by decide) (fun q (hq : C0 q) (hm : N + 6 ≤ q) => by have := hC0 q hq; omega)
      replace hp0_2 := RdS.fr hp0_2 F35 (by decide) (fun q (hq : C0 q) (hm : N + 6 ≤ q) => by have := hC0 q hq; omega)
      replace hp0_3 := RdS.fr hp0_3 F35 (by decide) (fun q (hq : C0 q) (hm : N + 6 ≤ q) => by have := hC0 q hq; omega)
      replace hF := hF.trans F35 (fun c' (hm : N + 6 ≤ c') => by show (r0 ≤ c' ∧ c' < r0 + 2) ∨ (r1 ≤ c' ∧ c' < r1 + 2) ∨ N ≤ c'; omega)
      refine st_valW hS34 (want_on hS34 rfl rfl rfl hb16) rfl rfl (r_not hS34 rfl rfl) fun a36 hS36 => ?_
      refine st_val hS36 rfl rfl rfl (r_pickF hS36 rfl rfl rfl hb16) fun a38 hS38 => hk _ _ ?_
      exact ⟨g35, hS38.re ⟨rfl, rfl, rfl, (by rw [← e37]; rfl), trivial⟩, h2, hp0_0, hp0_1, hp0_2, hp0_3, hF⟩
  rintro a39 w25 ⟨g25, hS39, h2, hp0_0, hp0_1, hp0_2, hp0_3, hF⟩
  refine st_val hS39 rfl rfl rfl (r_move hS39 rfl rfl) fun a40 hS40 => ?_
  refine g_joinR 6 (fun a w59 => ∃ (g59 : Nat → Nat), Sl 49 a [(1, .int .i64 p1), (2, .int .i64 p2), (3, .pointer (some ⟨b1, 0, none⟩)), (23, .bool t57)] ∧ Bx w59 g59 (N + 0) b1 33 [.int .i64 p0.Parent, .slice A0_0 p0.Rails.a0.length cap0_0, .slice A0_1 p0.Rails.a1.length cap0_1, .slice A0_2 p0.Rails.a2.length cap0_2, .slice A0_3 p0.Rails.a3.length cap0_3, .int .i64 p0.Deepest.a0, .int .i64 p0.Deepest.a1, .int .i64 p0.Deepest.a2, .int .i64 p0.Deepest.a3, .int .i64 p0.Deepest.a4, .int .i64 p0.Deepest.a5, .int .i64 p0.WakeDevice, .int .i64 p0.WakeSystem] ∧ RdS (kint .i64) w59 g59 C0 A0_0 cap0_0 p0.Rails.a0 ∧ RdS (kint .i64) w59 g59 C0 A0_1 cap0_1 p0.Rails.a1 ∧ RdS (kint .i64) w59 g59 C0 A0_2 cap0_2 p0.Rails.a2 ∧ RdS (kint .i64) w59 g59 C0 A0_3 cap0_3 p0.Rails.a3 ∧ Fr (fun q => (r0 ≤ q ∧ q < r0 + 2) ∨ (r1 ≤ q ∧ q < r1 + 2) ∨ N ≤ q) w g w59 g59) ?_ (fun hk => ?_)
  rotate_left
  · rcases Bool.eq_false_or_eq_true (t23) with hb41 | hb41
    · have H := ite_t hb41 ht58
      have e60 := Option.some.inj H
      refine st_off hS40 (want_off hS40 rfl rfl rfl hb41) rfl rfl fun a61 hS61 => st_off hS61 (want_off hS61 rfl rfl rfl hb41) rfl rfl fun a62 hS62 => st_off hS62 (want_off hS62 rfl rfl rfl hb41) rfl rfl fun a63 hS63 => st_off hS63 (want_off hS63 rfl rfl rfl hb41) rfl rfl fun a64 hS64 => st_off hS64 (want_off hS64 rfl rfl rfl hb41) rfl rfl fun a65 hS65 => st_val hS65 rfl rfl rfl (r_pickT hS65 rfl rfl rfl hb41) fun a66 hS66 => hk _ _ ?_
      exact ⟨g25, hS66.re ⟨rfl, rfl, rfl, (by rw [← e60]; rfl), trivial⟩, h2, hp0_0, hp0_1, hp0_2, hp0_3, hF⟩
    · have H := ite_f hb41 ht58
      obtain ⟨r69, hr70, H⟩ := bind_el H
      obtain ⟨r77, hr78, H⟩ := bind_el H
      have e82 := Option.some.inj H
      refine st_valW hS40 (want_on hS40 rfl rfl rfl hb41) rfl rfl (r_loadN (n := 13) (cs := [.int .i64 p0.Parent, .slice A0_0 p0.Rails.a0.length cap0_0, .slice A0_1 p0.Rails.a1.length cap0_1, .slice A0_2 p0.Rails.a2.length cap0_2, .slice A0_3 p0.Rails.a3.length cap0_3, .int .i64 p0.Deepest.a0, .int .i64 p0.Deepest.a1, .int .i64 p0.Deepest.a2, .int .i64 p0.Deepest.a3, .int .i64 p0.Deepest.a4, .int .i64 p0.Deepest.a5, .int .i64 p0.WakeDevice, .int .i64 p0.WakeSystem]) hS40 rfl rfl (by kernel_rfl) rfl (Bx.cells_off h2 0 13)) fun a67 hS67 => st_valW hS67 (want_on hS67 rfl rfl rfl hb41) rfl rfl (r_move hS67 rfl rfl) fun a68 hS68 => ?_
      refine st_enterW hS68 (want_on hS68 rfl rfl rfl hb41) rfl rfl (r_call hS68 rfl rfl (by kernel_rfl)) (device_needs.calls (C0 := C0) (p0 := p0) (p1 := p1) (g := g25) (N + 6)  hp0_0 hp0_1 hp0_2 hp0_3 (fun q (hq : C0 q) => by have := hC0 q hq; omega) hr70) ?_
      rintro _ a75 w76 ⟨g76, A71, cap72, rfl, h73, F76⟩ hS75
      replace h2 := h2.fr F76 (fun (hm : N + 6 ≤ N + 0) => by omega)
      replace hp0_0 := RdS.fr hp0_0 F76 (by decide) (fun q (hq : C0 q) (hm : N + 6 ≤ q) => by have := hC0 q hq; omega)
      replace hp0_1 := RdS.fr hp0_1 F76 (by decide) (fun q (hq : C0 q) (hm : N + 6 ≤ q) => by have := hC0 q hq; omega)
      replace hp0_2 := RdS.fr hp0_2 F76 (by decide) (fun q (hq : C0 q) (hm : N + 6 ≤ q) => by have := hC0 q hq; omega)
      replace hp0_3 := RdS.fr hp0_3 F76 (by decide) (fun q (hq : C0 q) (hm : N + 6 ≤ q) => by have := hC0 q hq; omega)
      replace hF := hF.trans F76 (fun c' (hm : N + 6 ≤ c') => by show (r0 ≤ c' ∧ c' < r0 + 2) ∨ (r1 ≤ c' ∧ c' < r1 + 2) ∨ N ≤ c'; omega)
      refine st_enterW hS75 (want_on hS75 rfl rfl rfl hb41) rfl rfl (r_call hS75 rfl rfl (by kernel_rfl)) (device_ascending.calls (C0 := C0) (p0 := r69) (g := g76) (N + 6)  h73 (fun q (hq : C0 q) => by have := hC0 q hq; omega) hr78) ?_
      rintro _ a79 w80 ⟨g80, rfl, F80⟩ hS79
      replace h2 := h2.fr F80 (fun (hm : N + 6 ≤ N + 0) => by omega)
      replace h73 := RdS.fr h73 F80 (by decide) (fun q (hq : C0 q) (hm : N + 6 ≤ q) => by have := hC0 q hq; omega)
      replace hp0_0 := RdS.fr hp0_0 F80 (by decide) (fun q (hq : C0 q) (hm : N + 6 ≤ q) => by have := hC0 q hq; omega)
      replace hp0_1 := RdS.fr hp0_1 F80 (by decide) (fun q (hq : C0 q) (hm : N + 6 ≤ q) => by have := hC0 q hq; omega)
      replace hp0_2 := RdS.fr hp0_2 F80 (by decide) (fun q (hq : C0 q) (hm : N + 6 ≤ q) => by have := hC0 q hq; omega)
      replace hp0_3 := RdS.fr hp0_3 F80 (by decide) (fun q (hq : C0 q) (hm : N + 6 ≤ q) => by have := hC0 q hq; omega)
      replace hF := hF.trans F80 (fun c' (hm : N + 6 ≤ c') => by show (r0 ≤ c' ∧ c' < r0 + 2) ∨ (r1 ≤ c' ∧ c' < r1 + 2) ∨ N ≤ c'; omega)
      refine st_valW hS79 (want_on hS79 rfl rfl rfl hb41) rfl rfl (r_not hS79 rfl rfl) fun a81 hS81 => ?_
      refine st_val hS81 rfl rfl rfl (r_pickF hS81 rfl rfl rfl hb41) fun a83 hS83 => hk _ _ ?_
      exact ⟨g80, hS83.re ⟨rfl, rfl, rfl, (by rw [← e82]; rfl), trivial⟩, h2, hp0_0, hp0_1, hp0_2, hp0_3, hF⟩
  rintro a84 w59 ⟨g59, hS84, h2, hp0_0, hp0_1, hp0_2, hp0_3, hF⟩
  refine st_val hS84 rfl rfl rfl (r_move hS84 rfl rfl) fun a85 hS85 => ?_
  refine g_joinR 6 (fun a w104 => ∃ (g104 : Nat → Nat), Sl 49 a [(1, .int .i64 p1), (2, .int .i64 p2), (3, .pointer (some ⟨b1, 0, none⟩)), (30, .bool t102)] ∧ Bx w104 g104 (N + 0) b1 33 [.int .i64 p0.Parent, .slice A0_0 p0.Rails.a0.length cap0_0, .slice A0_1 p0.Rails.a1.length cap0_1, .slice A0_2 p0.Rails.a2.length cap0_2, .slice A0_3 p0.Rails.a3.length cap0_3, .int .i64 p0.Deepest.a0, .int .i64 p0.Deepest.a1, .int .i64 p0.Deepest.a2, .int .i64 p0.Deepest.a3, .int .i64 p0.Deepest.a4, .int .i64 p0.Deepest.a5, .int .i64 p0.WakeDevice, .int .i64 p0.WakeSystem] ∧ RdS (kint .i64) w104 g104 C0 A0_0 cap0_0 p0.Rails.a0 ∧ RdS (kint .i64) w104 g104 C0 A0_1 cap0_1 p0.Rails.a1 ∧ RdS (kint .i64) w104 g104 C0 A0_2 cap0_2 p0.Rails.a2 ∧ RdS (kint .i64) w104 g104 C0 A0_3 cap0_3 p0.Rails.a3 ∧ Fr (fun q => (r0 ≤ q ∧ q < r0 + 2) ∨ (r1 ≤ q ∧ q < r1 + 2) ∨ N ≤ q) w g w104 g104) ?_ (fun hk => ?_)
  rotate_left
  · rcases Bool.eq_false_or_eq_true (t57) with hb86 | hb86
    · have H := ite_t hb86 ht103
      have e105 := Option.some.inj H
      refine st_off hS85 (want_off hS85 rfl rfl rfl hb86) rfl rfl fun a106 hS106 => st_off hS106 (want_off hS106 rfl rfl rfl hb86) rfl rfl fun a107 hS107 => st_off hS107 (want_off hS107 rfl rfl rfl hb86) rfl rfl fun a108 hS108 => st_off hS108 (want_off hS108 rfl rfl rfl hb86) rfl rfl fun a109 hS109 => st_off hS109 (want_off hS109 rfl rfl rfl hb86) rfl rfl fun a110 hS110 => st_val hS110 rfl rfl rfl (r_pickT hS110 rfl rfl rfl hb86) fun a111 hS111 => hk _ _ ?_
      exact ⟨g59, hS111.re ⟨rfl, rfl, rfl, (by rw [← e105]; rfl), trivial⟩, h2, hp0_0, hp0_1, hp0_2, hp0_3, hF⟩
    · have H := ite_f hb86 ht103
      obtain ⟨r114, hr115, H⟩ := bind_el H
      obtain ⟨r122, hr123, H⟩ := bind_el H
      have e127 := Option.some.inj H
      refine st_valW hS85 (want_on hS85 rfl rfl rfl hb86) rfl rfl (r_loadN (n := 13) (cs := [.int .i64 p0.Parent, .slice A0_0 p0.Rails.a0.length cap0_0, .slice A0_1 p0.Rails.a1.length cap0_1, .slice A0_2 p0.Rails.a2.length cap0_2, .slice A0_3 p0.Rails.a3.length cap0_3, .int .i64 p0.Deepest.a0, .int .i64 p0.Deepest.a1, .int .i64 p0.Deepest.a2, .int .i64 p0.Deepest.a3, .int .i64 p0.Deepest.a4, .int .i64 p0.Deepest.a5, .int .i64 p0.WakeDevice, .int .i64 p0.WakeSystem]) hS85 rfl rfl (by kernel_rfl) rfl (Bx.cells_off h2 0 13)) fun a112 hS112 => st_valW hS112 (want_on hS112 rfl rfl rfl hb86) rfl rfl (r_move hS112 rfl rfl) fun a113 hS113 => ?_
      refine st_enterW hS113 (want_on hS113 rfl rfl rfl hb86) rfl rfl (r_call hS113 rfl rfl (by kernel_rfl)) (device_needs.calls (C0 := C0) (p0 := p0) (p1 := p2) (g := g59) (N + 6)  hp0_0 hp0_1 hp0_2 hp0_3 (fun q (hq : C0 q) => by have := hC0 q hq; omega) hr115) ?_
      rintro _ a120 w121 ⟨g121, A116, cap117, rfl, h118, F121⟩ hS120
      replace h2 := h2.fr F121 (fun (hm : N + 6 ≤ N + 0) => by omega)
      replace hp0_0 := RdS.fr hp0_0 F121 (by decide) (fun q (hq : C0 q) (hm : N + 6 ≤ q) => by have := hC0 q hq; omega)
      replace hp0_1 := RdS.fr hp0_1 F121 (by decide) (fun q (hq : C0 q) (hm : N + 6 ≤ q) => by have := hC0 q hq; omega)
      replace hp0_2 := RdS.fr hp0_2 F121 (by decide) (fun q (hq : C0 q) (hm : N + 6 ≤ q) => by have := hC0 q hq; omega)
      replace hp0_3 := RdS.fr hp0_3 F121 (by decide) (fun q (hq : C0 q) (hm : N + 6 ≤ q) => by have := hC0 q hq; omega)
      replace hF := hF.trans F121 (fun c' (hm : N + 6 ≤ c') => by show (r0 ≤ c' ∧ c' < r0 + 2) ∨ (r1 ≤ c' ∧ c' < r1 + 2) ∨ N ≤ c'; omega)
      refine st_enterW hS120 (want_on hS120 rfl rfl rfl hb86) rfl rfl (r_call hS120 rfl rfl (by kernel_rfl)) (device_ascending.calls (C0 := C0) (p0 := r114) (g := g121) (N + 6)  h118 (fun q (hq : C0 q) => by have := hC0 q hq; omega) hr123) ?_
      rintro _ a124 w125 ⟨g125, rfl, F125⟩ hS124
      replace h118 := RdS.fr h118 F125 (by decide) (fun q (hq : C0 q) (hm : N + 6 ≤ q) => by have := hC0 q hq; omega)
      replace h2 := h2.fr F125 (fun (hm : N + 6 ≤ N + 0) => by omega)
      replace hp0_0 := RdS.fr hp0_0 F125 (by decide) (fun q (hq : C0 q) (hm : N + 6 ≤ q) => by have := hC0 q hq; omega)
      replace hp0_1 := RdS.fr hp0_1 F125 (by decide) (fun q (hq : C0 q) (hm : N + 6 ≤ q) => by have := hC0 q hq; omega)
      replace hp0_2 := RdS.fr hp0_2 F125 (by decide) (fun q (hq : C0 q) (hm : N + 6 ≤ q) => by have := hC0 q hq; omega)
      replace hp0_3 := RdS.fr hp0_3 F125 (by decide) (fun q (hq : C0 q) (hm : N + 6 ≤ q) => by have := hC0 q hq; omega)
      replace hF := hF.trans F125 (fun c' (hm : N + 6 ≤ c') => by show (r0 ≤ c' ∧ c' < r0 + 2) ∨ (r1 ≤ c' ∧ c' < r1 + 2) ∨ N ≤ c'; omega)
      refine st_valW hS124 (want_on hS124 rfl rfl rfl hb86) rfl rfl (r_not hS124 rfl rfl) fun a126 hS126 => ?_
      refine st_val hS126 rfl rfl rfl (r_pickF hS126 rfl rfl rfl hb86) fun a128 hS128 => hk _ _ ?_
      exact ⟨g125, hS128.re ⟨rfl, rfl, rfl, (by rw [← e127]; rfl), trivial⟩, h2, hp0_0, hp0_1, hp0_2, hp0_3, hF⟩
  rintro a129 w104 ⟨g104, hS129, h2, hp0_0, hp0_1, hp0_2, hp0_3, hF⟩
  refine wpList_nil (hK _ _ ?_)
  replace hS : Sl 49 _ [(1, .int .i64 p1), (2, .int .i64 p2), (3, .pointer (some ⟨b1, 0, none⟩)), (30, .bool t102)] := hS129.re ⟨rfl, rfl, rfl, rfl, trivial⟩
  clear hK K
  try clear hS9 hS12 hS14 hS15 hS39 hS40 hS84 hS85 hS129
  obtain ⟨a, ha⟩ : ∃ a', a' = a129 := ⟨_, rfl⟩
  rw [← ha] at hS ⊢; clear ha
  refine c_cond hS rfl (fun hb130 => ?_) (fun hb130 => ?_)
  · replace H := ite_t hb130 H
    refine c_pure [(6, .slice none 0 0), (7, .slice none 0 0), (8, .int .i64 1)] (fun R hR => st_val hS rfl rfl rfl (r_assign hS rfl rfl) fun a131 hS131 => st_val hS131 rfl rfl rfl (r_assign hS131 rfl rfl) fun a132 hS132 => st_val hS132 rfl rfl rfl (r_assign hS132 rfl rfl) fun a133 hS133 => wpList_nil (hR _ (hS133.re ⟨rfl, rfl, rfl, trivial⟩))) ?_
    clear hS
    clear a
    intro a hS
    refine wp_ret ?_
    have e := Option.some.inj H
    subst e
    repeat (with_reducible first | refine then_ret ?_ | refine inBlock_ret ?_)
    exact c_ret3 hS Try.results21 rfl rfl rfl ⟨_, rfl, g104, none, 0, none, 0, rfl, OwS.nil (kint .i64) 3 w104 g104 r0, OwS.nil (kint .i64) 3 w104 g104 r1, hF⟩
  · replace H := ite_f hb130 H
    refine wp_skip ?_
    change Code.wp _ _ _ _ _
    obtain ⟨r134, hr135, H⟩ := bind_el H
    obtain ⟨r140, hr141, H⟩ := bind_el H
    obtain ⟨r146, hr147, H⟩ := bind_el H
    refine c_draw (fun K hK => d_start (fun q => N + 6 ≤ q ∨ (N + 2 ≤ q ∧ q < N + 2 + 2)) g104 [] 8 #[false, false, false, false, false, false, false, false] (by kernel_rfl) rfl rfl (fun w152 hw152 => ?_))
    have F152 : Fr (fun _ => False) w104 g104 w152 g104 := by rw [hw152]; exact Fr.drew _ _ _
    replace h2 := h2.fr F152 (fun h => h)
    replace hp0_0 := RdS.fr hp0_0 F152 (by decide) (fun _ _ h => h)
    replace hp0_1 := RdS.fr hp0_1 F152 (by decide) (fun _ _ h => h)
    replace hp0_2 := RdS.fr hp0_2 F152 (by decide) (fun _ _ h => h)
    replace hp0_3 := RdS.fr hp0_3 F152 (by decide) (fun _ _ h => h)
    replace hF := hF.trans F152 (fun _ h => h.elim)
    have hC : Fr (fun q => N + 6 ≤ q ∨ (N + 2 ≤ q ∧ q < N + 2 + 2)) w152 g104 w152 g104 := Fr.refl _ _ _
    refine d_take hS 0 #[true, false, false, false, false, false, false, false] rfl rfl rfl rfl (by kernel_rfl) (fun _ _ _ h => h) ⟨_, hC⟩ (fun w' g' Fz => (r_loadN (n := 13) (cs := [.int .i64 p0.Parent, .slice A0_0 p0.Rails.a0.length cap0_0, .slice A0_1 p0.Rails.a1.length cap0_1, .slice A0_2 p0.Rails.a2.length cap0_2, .slice A0_3 p0.Rails.a3.length cap0_3, .int .i64 p0.Deepest.a0, .int .i64 p0.Deepest.a1, .int .i64 p0.Deepest.a2, .int .i64 p0.Deepest.a3, .int .i64 p0.Deepest.a4, .int .i64 p0.Deepest.a5, .int .i64 p0.WakeDevice, .int .i64 p0.WakeSystem]) hS rfl rfl (by kernel_rfl) rfl (Bx.cells_off (h2.fr Fz (fun (hm : N + 6 ≤ N + 0 ∨ (N + 2 ≤ N + 0 ∧ N + 0 < N + 2 + 2)) => by omega)) 0 13))) fun a153 hS153 => d_pure hS153 1 #[true, true, false, false, false, false, false, false] rfl rfl rfl rfl (by kernel_rfl) (fun _ _ _ h => h) (fun _ => (r_move hS153 rfl rfl)) fun a154 hS154 => d_take hS154 3 #[true, true, false, true, false, false, false, false] rfl rfl rfl rfl (by kernel_rfl) (fun _ _ _ h => h) ⟨_, hC⟩ (fun w' g' Fz => (r_loadN (n := 13) (cs := [.int .i64 p0.Parent, .slice A0_0 p0.Rails.a0.length cap0_0, .slice A0_1 p0.Rails.a1.length cap0_1, .slice A0_2 p0.Rails.a2.length cap0_2, .slice A0_3 p0.Rails.a3.length cap0_3, .int .i64 p0.Deepest.a0, .int .i64 p0.Deepest.a1, .int .i64 p0.Deepest.a2, .int .i64 p0.Deepest.a3, .int .i64 p0.Deepest.a4, .int .i64 p0.Deepest.a5, .int .i64 p0.WakeDevice, .int .i64 p0.WakeSystem]) hS154 rfl rfl (by kernel_rfl) rfl (Bx.cells_off (h2.fr Fz (fun (hm : N + 6 ≤ N + 0 ∨ (N + 2 ≤ N + 0 ∧ N + 0 < N + 2 + 2)) => by omega)) 0 13))) fun a155 hS155 => d_pure hS155 4 #[true, true, false, true, true, false, false, false] rfl rfl rfl rfl (by kernel_rfl) (fun _ _ _ h => h) (fun _ => (r_move hS155 rfl rfl)) fun a156 hS156 => ?_
    refine d_one 2 #[true, true, true, true, true, false, false, false] rfl (by kernel_rfl) (arm_call hS156 rfl rfl rfl (r_call hS156 rfl rfl (by kernel_rfl)) (device_needs.calls (C0 := C0) (p0 := p0) (p1 := p2) (g := g104) (N + 6)  hp0_0 hp0_1 hp0_2 hp0_3 (fun q (hq : C0 q) => by have := hC0 q hq; omega) hr135) (fun _ _ ⟨g', _, _, _, _, Fz⟩ _ => ⟨g', hC.trans Fz (fun c' (hm : N + 6 ≤ c') => by show N + 6 ≤ c' ∨ (N + 2 ≤ c' ∧ c' < N + 2 + 2); omega)⟩) ?_)
    rintro _ a161 w162 ⟨g162, A157, cap158, rfl, h159, F162⟩ hS161
    have hC162 := hC.trans F162 (fun c' (hm : N + 6 ≤ c') => by show N + 6 ≤ c' ∨ (N + 2 ≤ c' ∧ c' < N + 2 + 2); omega)
    replace h2 := h2.fr F162 (fun (hm : N + 6 ≤ N + 0) => by omega)
    replace hp0_0 := RdS.fr hp0_0 F162 (by decide) (fun q (hq : C0 q) (hm : N + 6 ≤ q) => by have := hC0 q hq; omega)
    replace hp0_1 := RdS.fr hp0_1 F162 (by decide) (fun q (hq : C0 q) (hm : N + 6 ≤ q) => by have := hC0 q hq; omega)
    replace hp0_2 := RdS.fr hp0_2 F162 (by decide) (fun q (hq : C0 q) (hm : N + 6 ≤ q) => by have := hC0 q hq; omega)
    replace hp0_3 := RdS.fr hp0_3 F162 (by decide) (fun q (hq : C0 q) (hm : N + 6 ≤ q) => by have := hC0 q hq; omega)
    replace hF := hF.trans F162 (fun c' (hm : N + 6 ≤ c') => by show (r0 ≤ c' ∧ c' < r0 + 2) ∨ (r1 ≤ c' ∧ c' < r1 + 2) ∨ N ≤ c'; omega)
    refine d_one 5 #[true, true, true, true, true, true, false, false] rfl (by kernel_rfl) (arm_call hS161 rfl rfl rfl (r_call hS161 rfl rfl (by kernel_rfl)) (device_needs.calls (C0 := C0) (p0 := p0) (p1 := p1) (g := g162) (N + 6)  hp0_0 hp0_1 hp0_2 hp0_3 (fun q (hq : C0 q) => by have := hC0 q hq; omega) hr141) (fun _ _ ⟨g', _, _, _, _, Fz⟩ _ => ⟨g', hC162.trans Fz (fun c' (hm : N + 6 ≤ c') => by show N + 6 ≤ c' ∨ (N + 2 ≤ c' ∧ c' < N + 2 + 2); omega)⟩) ?_)
    rintro _ a167 w168 ⟨g168, A163, cap164, rfl, h165, F168⟩ hS167
    have hC168 := hC162.trans F168 (fun c' (hm : N + 6 ≤ c') => by show N + 6 ≤ c' ∨ (N + 2 ≤ c' ∧ c' < N + 2 + 2); omega)
    replace h159 := RdS.fr h159 F168 (by decide) (fun q (hq : C0 q) (hm : N + 6 ≤ q) => by have := hC0 q hq; omega)
    replace h2 := h2.fr F168 (fun (hm : N + 6 ≤ N + 0) => by omega)
    replace hp0_0 := RdS.fr hp0_0 F168 (by decide) (fun q (hq : C0 q) (hm : N + 6 ≤ q) => by have := hC0 q hq; omega)
    replace hp0_1 := RdS.fr hp0_1 F168 (by decide) (fun q (hq : C0 q) (hm : N + 6 ≤ q) => by have := hC0 q hq; omega)
    replace hp0_2 := RdS.fr hp0_2 F168 (by decide) (fun q (hq : C0 q) (hm : N + 6 ≤ q) => by have := hC0 q hq; omega)
    replace hp0_3 := RdS.fr hp0_3 F168 (by decide) (fun q (hq : C0 q) (hm : N + 6 ≤ q) => by have := hC0 q hq; omega)
    replace hF := hF.trans F168 (fun c' (hm : N + 6 ≤ c') => by show (r0 ≤ c' ∧ c' < r0 + 2) ∨ (r1 ≤ c' ∧ c' < r1 + 2) ∨ N ≤ c'; omega)
    refine d_one 6 #[true, true, true, true, true, true, true, false] rfl (by kernel_rfl) (arm_call hS167 rfl rfl rfl (r_call hS167 rfl rfl (by kernel_rfl)) (device_without.calls (C0 := C0) (C1 := C0) (p0 := r134) (p1 := r140) (g := g168) (N + 6) (N + 2) h159 (fun q (hq : C0 q) => by have := hC0 q hq; omega) h165 (fun q (hq : C0 q) => by have := hC0 q hq; omega) (by omega) hr147) (fun _ _ ⟨g', _, _, _, _, Fz⟩ _ => ⟨g', hC168.trans Fz (fun c' (hm : (N + 2 ≤ c' ∧ c' < N + 2 + 2) ∨ N + 6 ≤ c') => by show N + 6 ≤ c' ∨ (N + 2 ≤ c' ∧ c' < N + 2 + 2); omega)⟩) ?_)
    rintro _ a173 w174 ⟨g174, A169, cap170, rfl, h171, F174⟩ hS173
    have hC174 := hC168.trans F174 (fun c' (hm : (N + 2 ≤ c' ∧ c' < N + 2 + 2) ∨ N + 6 ≤ c') => by show N + 6 ≤ c' ∨ (N + 2 ≤ c' ∧ c' < N + 2 + 2); omega)
    replace h159 := RdS.fr h159 F174 (by decide) (fun q (hq : C0 q) (hm : (N + 2 ≤ q ∧ q < N + 2 + 2) ∨ N + 6 ≤ q) => by have := hC0 q hq; omega)
    replace h165 := RdS.fr h165 F174 (by decide) (fun q (hq : C0 q) (hm : (N + 2 ≤ q ∧ q < N + 2 + 2) ∨ N + 6 ≤ q) => by have := hC0 q hq; omega)
    replace h2 := h2.fr F174 (fun (hm : (N + 2 ≤ N + 0 ∧ N + 0 < N + 2 + 2) ∨ N + 6 ≤ N + 0) => by omega)
    replace hp0_0 := RdS.fr hp0_0 F174 (by decide) (fun q (hq : C0 q) (hm : (N + 2 ≤ q ∧ q < N + 2 + 2) ∨ N + 6 ≤ q) => by have := hC0 q hq; omega)
    replace hp0_1 := RdS.fr hp0_1 F174 (by decide) (fun q (hq : C0 q) (hm : (N + 2 ≤ q ∧ q < N + 2 + 2) ∨ N + 6 ≤ q) => by have := hC0 q hq; omega)
    replace hp0_2 := RdS.fr hp0_2 F174 (by decide) (fun q (hq : C0 q) (hm : (N + 2 ≤ q ∧ q < N + 2 + 2) ∨ N + 6 ≤ q) => by have := hC0 q hq; omega)
    replace hp0_3 := RdS.fr hp0_3 F174 (by decide) (fun q (hq : C0 q) (hm : (N + 2 ≤ q ∧ q < N + 2 + 2) ∨ N + 6 ≤ q) => by have := hC0 q hq; omega)
    replace hF := hF.trans F174 (fun c' (hm : (N + 2 ≤ c' ∧ c' < N + 2 + 2) ∨ N + 6 ≤ c') => by show (r0 ≤ c' ∧ c' < r0 + 2) ∨ (r1 ≤ c' ∧ c' < r1 + 2) ∨ N ≤ c'; omega)
    refine d_pure hS173 7 #[true, true, true, true, true, true, true, true] rfl rfl rfl rfl (by kernel_rfl) (fun _ _ _ h => h) (fun _ => (r_assign hS173 rfl rfl)) fun a175 hS175 => d_done (by kernel_rfl) (hK _ _ ?_)
    replace hS : Sl 49 _ [(1, .int .i64 p1), (2, .int .i64 p2), (3, .pointer (some ⟨b1, 0, none⟩)), (6, .slice A169 r146.length cap170)] := hS175.re ⟨rfl, rfl, rfl, rfl, trivial⟩
    clear hK K hC
    try clear hS153 hS154 hS155 hS156 hS161 hS167 hS173 hS175
    obtain ⟨a, ha⟩ : ∃ a', a' = a175 := ⟨_, rfl⟩
    rw [← ha] at hS ⊢; clear ha
    obtain ⟨r176, hr177, H⟩ := bind_el H
    obtain ⟨r182, hr183, H⟩ := bind_el H
    obtain ⟨r188, hr189, H⟩ := bind_el H
    refine c_draw (fun K hK => d_start (fun q => N + 6 ≤ q ∨ (N + 4 ≤ q ∧ q < N + 4 + 2)) g174 [] 8 #[false, false, false, false, false, false, false, false] (by kernel_rfl) rfl rfl (fun w194 hw194 => ?_))
    have F194 : Fr (fun _ => False) w174 g174 w194 g174 := by rw [hw194]; exact Fr.drew _ _ _
    replace h171 := OwS.fr h171 F194 (fun _ _ h => h)
    replace h2 := h2.fr F194 (fun h => h)
    replace hp0_0 := RdS.fr hp0_0 F194 (by decide) (fun _ _ h => h)
    replace hp0_1 := RdS.fr hp0_1 F194 (by decide) (fun _ _ h => h)
    replace hp0_2 := RdS.fr hp0_2 F194 (by decide) (fun _ _ h => h)
    replace hp0_3 := RdS.fr hp0_3 F194 (by decide) (fun _ _ h => h)
    replace hF := hF.trans F194 (fun _ h => h.elim)
    have hC : Fr (fun q => N + 6 ≤ q ∨ (N + 4 ≤ q ∧ q < N + 4 + 2)) w194 g174 w194 g174 := Fr.refl _ _ _
    refine d_take hS 0 #[true, false, false, false, false, false, false, false] rfl rfl rfl rfl (by kernel_rfl) (fun _ _ _ h => h) ⟨_, hC⟩ (fun w' g' Fz => (r_loadN (n := 13) (cs := [.int .i64 p0.Parent, .slice A0_0 p0.Rails.a0.length cap0_0, .slice A0_1 p0.Rails.a1.length cap0_1, .slice A0_2 p0.Rails.a2.length cap0_2, .slice A0_3 p0.Rails.a3.length cap0_3, .int .i64 p0.Deepest.a0, .int .i64 p0.Deepest.a1, .int .i64 p0.Deepest.a2, .int .i64 p0.Deepest.a3, .int .i64 p0.Deepest.a4, .int .i64 p0.Deepest.a5, .int .i64 p0.WakeDevice, .int .i64 p0.WakeSystem]) hS rfl rfl (by kernel_rfl) rfl (Bx.cells_off (h2.fr Fz (fun (hm : N + 6 ≤ N + 0 ∨ (N + 4 ≤ N + 0 ∧ N + 0 < N + 4 + 2)) => by omega)) 0 13))) fun a195 hS195 => d_pure hS195 1 #[true, true, false, false, false, false, false, false] rfl rfl rfl rfl (by kernel_rfl) (fun _ _ _ h => h) (fun _ => (r_move hS195 rfl rfl)) fun a196 hS196 => d_take hS196 3 #[true, true, false, true, false, false, false, false] rfl rfl rfl rfl (by kernel_rfl) (fun _ _ _ h => h) ⟨_, hC⟩ (fun w' g' Fz => (r_loadN (n := 13) (cs := [.int .i64 p0.Parent, .slice A0_0 p0.Rails.a0.length cap0_0, .slice A0_1 p0.Rails.a1.length cap0_1, .slice A0_2 p0.Rails.a2.length cap0_2, .slice A0_3 p0.Rails.a3.length cap0_3, .int .i64 p0.Deepest.a0, .int .i64 p0.Deepest.a1, .int .i64 p0.Deepest.a2, .int .i64 p0.Deepest.a3, .int .i64 p0.Deepest.a4, .int .i64 p0.Deepest.a5, .int .i64 p0.WakeDevice, .int .i64 p0.WakeSystem]) hS196 rfl rfl (by kernel_rfl) rfl (Bx.cells_off (h2.fr Fz (fun (hm : N + 6 ≤ N + 0 ∨ (N + 4 ≤ N + 0 ∧ N + 0 < N + 4 + 2)) => by omega)) 0 13))) fun a197 hS197 => d_pure hS197 4 #[true, true, false, true, true, false, false, false] rfl rfl rfl rfl (by kernel_rfl) (fun _ _ _ h => h) (fun _ => (r_move hS197 rfl rfl)) fun a198 hS198 => ?_
    refine d_one 2 #[true, true, true, true, true, false, false, false] rfl (by kernel_rfl) (arm_call hS198 rfl rfl rfl (r_call hS198 rfl rfl (by kernel_rfl)) (device_needs.calls (C0 := C0) (p0 := p0) (p1 := p1) (g := g174) (N + 6)  hp0_0 hp0_1 hp0_2 hp0_3 (fun q (hq : C0 q) => by have := hC0 q hq; omega) hr177) (fun _ _ ⟨g', _, _, _, _, Fz⟩ _ => ⟨g', hC.trans Fz (fun c' (hm : N + 6 ≤ c') => by show N + 6 ≤ c' ∨ (N + 4 ≤ c' ∧ c' < N + 4 + 2); omega)⟩) ?_)
    rintro _ a203 w204 ⟨g204, A199, cap200, rfl, h201, F204⟩ hS203
    have hC204 := hC.trans F204 (fun c' (hm : N + 6 ≤ c') => by show N + 6 ≤ c' ∨ (N + 4 ≤ c' ∧ c' < N + 4 + 2); omega)
    replace h171 := OwS.fr h171 F204 (fun c' hc (hm : N + 6 ≤ c') => by omega)
    replace h2 := h2.fr F204 (fun (hm : N + 6 ≤ N + 0) => by omega)
    replace hp0_0 := RdS.fr hp0_0 F204 (by decide) (fun q (hq : C0 q) (hm : N + 6 ≤ q) => by have := hC0 q hq; omega)
    replace hp0_1 := RdS.fr hp0_1 F204 (by decide) (fun q (hq : C0 q) (hm : N + 6 ≤ q) => by have := hC0 q hq; omega)
    replace hp0_2 := RdS.fr hp0_2 F204 (by decide) (fun q (hq : C0 q) (hm : N + 6 ≤ q) => by have := hC0 q hq; omega)
    replace hp0_3 := RdS.fr hp0_3 F204 (by decide) (fun q (hq : C0 q) (hm : N + 6 ≤ q) => by have := hC0 q hq; omega)
    replace hF := hF.trans F204 (fun c' (hm : N + 6 ≤ c') => by show (r0 ≤ c' ∧ c' < r0 + 2) ∨ (r1 ≤ c' ∧ c' < r1 + 2) ∨ N ≤ c'; omega)
    refine d_one 5 #[true, true, true, true, true, true, false, false] rfl (by kernel_rfl) (arm_call hS203 rfl rfl rfl (r_call hS203 rfl rfl (by kernel_rfl)) (device_needs.calls (C0 := C0) (p0 := p0) (p1 := p2) (g := g204) (N + 6)  hp0_0 hp0_1 hp0_2 hp0_3 (fun q (hq : C0 q) => by have := hC0 q hq; omega) hr183) (fun _ _ ⟨g', _, _, _, _, Fz⟩ _ => ⟨g', hC204.trans Fz (fun c' (hm : N + 6 ≤ c') => by show N + 6 ≤ c' ∨ (N + 4 ≤ c' ∧ c' < N + 4 + 2); omega)⟩) ?_)
    rintro _ a209 w210 ⟨g210, A205, cap206, rfl, h207, F210⟩ hS209
    have hC210 := hC204.trans F210 (fun c' (hm : N + 6 ≤ c') => by show N + 6 ≤ c' ∨ (N + 4 ≤ c' ∧ c' < N + 4 + 2); omega)
    replace h171 := OwS.fr h171 F210 (fun c' hc (hm : N + 6 ≤ c') => by omega)
    replace h201 := RdS.fr h201 F210 (by decide) (fun q (hq : C0 q) (hm : N + 6 ≤ q) => by have := hC0 q hq; omega)
    replace h2 := h2.fr F210 (fun (hm : N + 6 ≤ N + 0) => by omega)
    replace hp0_0 := RdS.fr hp0_0 F210 (by decide) (fun q (hq : C0 q) (hm : N + 6 ≤ q) => by have := hC0 q hq; omega)
    replace hp0_1 := RdS.fr hp0_1 F210 (by decide) (fun q (hq : C0 q) (hm : N + 6 ≤ q) => by have := hC0 q hq; omega)
    replace hp0_2 := RdS.fr hp0_2 F210 (by decide) (fun q (hq : C0 q) (hm : N + 6 ≤ q) => by have := hC0 q hq; omega)
    replace hp0_3 := RdS.fr hp0_3 F210 (by decide) (fun q (hq : C0 q) (hm : N + 6 ≤ q) => by have := hC0 q hq; omega)
    replace hF := hF.trans F210 (fun c' (hm : N + 6 ≤ c') => by show (r0 ≤ c' ∧ c' < r0 + 2) ∨ (r1 ≤ c' ∧ c' < r1 + 2) ∨ N ≤ c'; omega)
    refine d_one 6 #[true, true, true, true, true, true, true, false] rfl (by kernel_rfl) (arm_call hS209 rfl rfl rfl (r_call hS209 rfl rfl (by kernel_rfl)) (device_without.calls (C0 := C0) (C1 := C0) (p0 := r176) (p1 := r182) (g := g210) (N + 6) (N + 4) h201 (fun q (hq : C0 q) => by have := hC0 q hq; omega) h207 (fun q (hq : C0 q) => by have := hC0 q hq; omega) (by omega) hr189) (fun _ _ ⟨g', _, _, _, _, Fz⟩ _ => ⟨g', hC210.trans Fz (fun c' (hm : (N + 4 ≤ c' ∧ c' < N + 4 + 2) ∨ N + 6 ≤ c') => by show N + 6 ≤ c' ∨ (N + 4 ≤ c' ∧ c' < N + 4 + 2); omega)⟩) ?_)
    rintro _ a215 w216 ⟨g216, A211, cap212, rfl, h213, F216⟩ hS215
    have hC216 := hC210.trans F216 (fun c' (hm : (N + 4 ≤ c' ∧ c' < N + 4 + 2) ∨ N + 6 ≤ c') => by show N + 6 ≤ c' ∨ (N + 4 ≤ c' ∧ c' < N + 4 + 2); omega)
    replace h171 := OwS.fr h171 F216 (fun c' hc (hm : (N + 4 ≤ c' ∧ c' < N + 4 + 2) ∨ N + 6 ≤ c') => by omega)
    replace h201 := RdS.fr h201 F216 (by decide) (fun q (hq : C0 q) (hm : (N + 4 ≤ q ∧ q < N + 4 + 2) ∨ N + 6 ≤ q) => by have := hC0 q hq; omega)
    replace h207 := RdS.fr h207 F216 (by decide) (fun q (hq : C0 q) (hm : (N + 4 ≤ q ∧ q < N + 4 + 2) ∨ N + 6 ≤ q) => by have := hC0 q hq; omega)
    replace h2 := h2.fr F216 (fun (hm : (N + 4 ≤ N + 0 ∧ N + 0 < N + 4 + 2) ∨ N + 6 ≤ N + 0) => by omega)
    replace hp0_0 := RdS.fr hp0_0 F216 (by decide) (fun q (hq : C0 q) (hm : (N + 4 ≤ q ∧ q < N + 4 + 2) ∨ N + 6 ≤ q) => by have := hC0 q hq; omega)
    replace hp0_1 := RdS.fr hp0_1 F216 (by decide) (fun q (hq : C0 q) (hm : (N + 4 ≤ q ∧ q < N + 4 + 2) ∨ N + 6 ≤ q) => by have := hC0 q hq; omega)
    replace hp0_2 := RdS.fr hp0_2 F216 (by decide) (fun q (hq : C0 q) (hm : (N + 4 ≤ q ∧ q < N + 4 + 2) ∨ N + 6 ≤ q) => by have := hC0 q hq; omega)
    replace hp0_3 := RdS.fr hp0_3 F216 (by decide) (fun q (hq : C0 q) (hm : (N + 4 ≤ q ∧ q < N + 4 + 2) ∨ N + 6 ≤ q) => by have := hC0 q hq; omega)
    replace hF := hF.trans F216 (fun c' (hm : (N + 4 ≤ c' ∧ c' < N + 4 + 2) ∨ N + 6 ≤ c') => by show (r0 ≤ c' ∧ c' < r0 + 2) ∨ (r1 ≤ c' ∧ c' < r1 + 2) ∨ N ≤ c'; omega)
    refine d_pure hS215 7 #[true, true, true, true, true, true, true, true] rfl rfl rfl rfl (by kernel_rfl) (fun _ _ _ h => h) (fun _ => (r_assign hS215 rfl rfl)) fun a217 hS217 => d_done (by kernel_rfl) (hK _ _ ?_)
    replace hS : Sl 49 _ [(6, .slice A169 r146.length cap170), (7, .slice A211 r188.length cap212)] := hS217.re ⟨rfl, rfl, trivial⟩
    clear hK K hC
    try clear hS195 hS196 hS197 hS198 hS203 hS209 hS215 hS217
    obtain ⟨a, ha⟩ : ∃ a', a' = a217 := ⟨_, rfl⟩
    rw [← ha] at hS ⊢; clear ha
    obtain ⟨r219, hr220, H⟩ := bind_el H
    refine c_region (fun K hK => ?_)
    refine st_val hS rfl rfl rfl (r_move hS rfl rfl) fun a218 hS218 => ?_
    refine st_enter hS218 rfl rfl rfl (r_call hS218 rfl rfl (by kernel_rfl)) (slices_Reverse_int_int.calls (c0 := N + 4) (A0 := A211) (cap0 := cap212) (p0 := r188) (g := g216) (N + 6)  h213 (by omega) hr220) ?_
    rintro _ a222 w223 ⟨g223, rfl, h213, hl221, F223⟩ hS222
    replace h171 := OwS.fr h171 F223 (fun c' hc (hm : (N + 4 ≤ c' ∧ c' < N + 4 + 2) ∨ N + 6 ≤ c') => by omega)
    replace hF := hF.trans F223 (fun c' (hm : (N + 4 ≤ c' ∧ c' < N + 4 + 2) ∨ N + 6 ≤ c') => by show (r0 ≤ c' ∧ c' < r0 + 2) ∨ (r1 ≤ c' ∧ c' < r1 + 2) ∨ N ≤ c'; omega)
    have hT : Sl 49 a222 [(6, .slice A169 r146.length cap170), (7, .slice A211 r188.length cap212)] := hS222.re ⟨rfl, rfl, trivial⟩
    replace hS222 : Sl 49 a222 [(6, .slice A169 r146.length cap170), (7, .slice A211 r219.length cap212)] := by simpa only [hl221] using hT
    clear hT
    refine wpList_nil (hK _ _ ?_)
    replace hS : Sl 49 _ [(6, .slice A169 r146.length cap170), (7, .slice A211 r219.length cap212)] := hS222.re ⟨rfl, rfl, trivial⟩
    clear hK K
    try clear hS218 hS222
    obtain ⟨a, ha⟩ : ∃ a', a' = a222 := ⟨_, rfl⟩
    rw [← ha] at hS ⊢; clear ha
    refine c_pure [(6, .slice A169 r146.length cap170), (7, .slice A211 r219.length cap212), (8, .int .i64 0)] (fun R hR => st_val hS rfl rfl rfl (r_move hS rfl rfl) fun a224 hS224 => st_val hS224 rfl rfl rfl (r_move hS224 rfl rfl) fun a225 hS225 => st_val hS225 rfl rfl rfl (r_assign hS225 rfl rfl) fun a226 hS226 => st_val hS226 rfl rfl rfl (r_assign hS226 rfl rfl) fun a227 hS227 => st_val hS227 rfl rfl rfl (r_assign hS227 rfl rfl) fun a228 hS228 => wpList_nil (hR _ (hS228.re ⟨rfl, rfl, rfl, trivial⟩))) ?_
    clear hS
    clear a
    intro a hS
    refine wp_ret ?_
    have e := Option.some.inj H
    subst e
    have F229 := Fr.recol2 w223 g223 (N + 2) r0
    replace h171 := h171.recol2 r0
    replace h213 := OwS.fr h213 F229 (fun c' hc (hm : c' = N + 2 ∨ c' = N + 2 + 1) => by omega)
    replace hF := hF.trans F229 (fun c' (hm : c' = N + 2 ∨ c' = N + 2 + 1) => by show (r0 ≤ c' ∧ c' < r0 + 2) ∨ (r1 ≤ c' ∧ c' < r1 + 2) ∨ N ≤ c'; omega)
    have F230 := Fr.recol2 w223 (recol2 g223 (N + 2) r0) (N + 4) r1
    replace h213 := h213.recol2 r1
    replace h171 := OwS.fr h171 F230 (fun c' hc (hm : c' = N + 4 ∨ c' = N + 4 + 1) => by omega)
    replace hF := hF.trans F230 (fun c' (hm : c' = N + 4 ∨ c' = N + 4 + 1) => by show (r0 ≤ c' ∧ c' < r0 + 2) ∨ (r1 ≤ c' ∧ c' < r1 + 2) ∨ N ≤ c'; omega)
    repeat (with_reducible first | refine then_ret ?_ | refine inBlock_ret ?_)
    exact c_ret3 hS Try.results21 rfl rfl rfl ⟨_, rfl, (recol2 (recol2 g223 (N + 2) r0) (N + 4) r1), A169, cap170, A211, cap212, rfl, h171, h213, hF⟩


end Go.Proofs.Ytfhhklkmbcnhnaa.Sim

namespace Go.Proofs.Ytfhhklkmbcnhnaa.Sim
open Go
set_option linter.unusedVariables false
set_option linter.unusedSimpArgs false

/-! ### device_Tree_has: function 51 -/
def device_Tree_has.f (p0 : device_Tree) (p1 : Int) : Option (Bool) := some ((decide (0 ≤ p1)) && (decide (p1 < (p0.devices.length : Int))))
set_option maxRecDepth 100000 in
set_option maxHeartbeats 4000000 in
theorem device_Tree_has.calls {p0 : device_Tree} {c0 : Nat} {C_devices_p0 : Nat → Prop} {b_p0 : Nat} {A_devices_p0 : Option Addr} {cap_devices_p0 : Nat} {A_state_p0 : Option Addr} {cap_state_p0 : Nat} {b_rails_p0 : Nat} {A_rails_list_p0 : Option Addr} {cap_rails_list_p0 : Nat} {p1 : Int} {w : World} {g : Nat → Nat} {out : Bool} (N : Nat) (hp0 : device_Tree_At w g c0 C_devices_p0 b_p0 A_devices_p0 cap_devices_p0 A_state_p0 cap_state_p0 b_rails_p0 A_rails_list_p0 cap_rails_list_p0 p0) (hc0 : c0 + 6 ≤ N) (hC_devices_p0 : ∀ c, C_devices_p0 c → c < N ∧ (c < c0 ∨ c0 + 6 ≤ c)) (H : device_Tree_has.f p0 p1 = some out) :
    Calls Try.prog 51 #[.pointer (some ⟨b_p0, 0, none⟩), .int .i64 p1] w (fun e w' => ∃ v, e = .returned v ∧ ∃ (g' : Nat → Nat), v = .bool out ∧ Fr (fun q => N ≤ q) w g w' g') := by
  unfold device_Tree_has.f at H
  refine calls_enter Try.func51 rfl Try.ntmps51 rfl (fun a hS => ?_)
  replace hS : Sl 16 a [(0, .pointer (some ⟨b_p0, 0, none⟩)), (1, .int .i64 p1)] := hS
  have hF : Fr (fun q => N ≤ q) w g w g := Fr.refl _ _ _
  obtain ⟨hb0, hf0_devices, hf0_state, ⟨hb0_rails, hf0_rails_list⟩⟩ := hp0
  refine c_pure [(0, .pointer (some ⟨b_p0, 0, none⟩)), (1, .int .i64 p1)] (fun R hR => st_val hS rfl rfl rfl (r_assign hS rfl rfl) fun a1 hS1 => wpList_nil (hR _ (hS1.re ⟨rfl, rfl, trivial⟩))) ?_
  clear hS
  clear a
  intro a hS
  refine c_region (fun K hK => ?_)
  refine st_val hS rfl rfl rfl (r_move hS rfl rfl) fun a2 hS2 => st_val hS2 rfl rfl rfl (r_bin hS2 rfl rfl rfl b_geq) fun a3 hS3 => st_val hS3 rfl rfl rfl (r_move hS3 rfl rfl) fun a4 hS4 => ?_
  refine g_join (N := 16) 8 [(15, .bool ((decide (0 ≤ p1)) && (decide (p1 < (p0.devices.length : Int)))))] ?_ (fun hk => ?_)
  rotate_left
  · rcases Bool.eq_false_or_eq_true (decide (0 ≤ p1)) with hb5 | hb5
    · refine st_valW hS4 (want_on hS4 rfl rfl rfl hb5) rfl rfl (r_move hS4 rfl rfl) fun a13 hS13 => st_valW hS13 (want_on hS13 rfl rfl rfl hb5) rfl rfl (r_move hS13 rfl rfl) fun a14 hS14 => st_valW hS14 (want_on hS14 rfl rfl rfl hb5) rfl rfl (r_nil hS14 rfl rfl) fun a15 hS15 => st_valW hS15 (want_on hS15 rfl rfl rfl hb5) rfl rfl (r_fieldB (off := 0) hS15 rfl rfl (by kernel_rfl)) fun a16 hS16 => st_valW hS16 (want_on hS16 rfl rfl rfl hb5) rfl rfl (r_load1 (n := 1) hS16 rfl rfl (by kernel_rfl) (Bx.cell hb0 rfl)) fun a17 hS17 => st_valW hS17 (want_on hS17 rfl rfl rfl hb5) rfl rfl (r_len (e := 33) (sz := 13) (by_ := 168) hS17 rfl rfl (by kernel_rfl)) fun a18 hS18 => st_valW hS18 (want_on hS18 rfl rfl rfl hb5) rfl rfl (r_bin hS18 rfl rfl rfl b_lss) fun a19 hS19 => st_val hS19 rfl rfl rfl (r_pickT hS19 rfl rfl rfl hb5) fun a20 hS20 => hk _ (hS20.re ⟨(by rw [hb5]; rfl), trivial⟩)
    · refine st_off hS4 (want_off hS4 rfl rfl rfl hb5) rfl rfl fun a21 hS21 => st_off hS21 (want_off hS21 rfl rfl rfl hb5) rfl rfl fun a22 hS22 => st_off hS22 (want_off hS22 rfl rfl rfl hb5) rfl rfl fun a23 hS23 => st_off hS23 (want_off hS23 rfl rfl rfl hb5) rfl rfl fun a24 hS24 => st_off hS24 (want_off hS24 rfl rfl rfl hb5) rfl rfl fun a25 hS25 => st_off hS25 (want_off hS25 rfl rfl rfl hb5) rfl rfl fun a26 hS26 => st_off hS26 (want_off hS26 rfl rfl rfl hb5) rfl rfl fun a27 hS27 => st_val hS27 rfl rfl rfl (r_pickF hS27 rfl rfl rfl hb5) fun a28 hS28 => hk _ (hS28.re ⟨(by rw [hb5]; rfl), trivial⟩)
  intro a29 hS29
  refine st_val hS29 rfl rfl rfl (r_assign hS29 rfl rfl) fun a30 hS30 => wpList_nil (hK _ _ ?_)
  replace hS : Sl 16 _ [(4, .bool ((decide (0 ≤ p1)) && (decide (p1 < (p0.devices.length : Int)))))] := hS30.re ⟨rfl, trivial⟩
  clear hK K
  try clear hS2 hS3 hS4 hS29 hS30
  obtain ⟨a, ha⟩ : ∃ a', a' = a30 := ⟨_, rfl⟩
  rw [← ha] at hS ⊢; clear ha
  refine wp_ret ?_
  have e := Option.some.inj H
  subst e
  repeat (with_reducible first | refine then_ret ?_ | refine inBlock_ret ?_)
  exact c_ret1 hS Try.results51 rfl ⟨_, rfl, g, rfl, hF⟩


end Go.Proofs.Ytfhhklkmbcnhnaa.Sim

namespace Go.Proofs.Ytfhhklkmbcnhnaa.Sim
open Go
set_option linter.unusedVariables false
set_option linter.unusedSimpArgs false

/-! ### device_Tree_permitted: function 52 -/
def device_Tree_permitted.l0 (p0 : device_Tree) (p1 : Int) (p2 : Int) : Nat → Int → Option (Fl (Bool) (Unit))
  | 0, _ => none
  | k86 + 1, m0_0 => if decide (m0_0 < (p0.devices.length : Int)) = true then ((idx p0.devices m0_0).bind fun x90 => (if (x90.Parent == p1) = true then (idx p0.state m0_0).bind fun x131 => some (decide (x131 < p2)) else some false).bind fun t137 => if t137 = true then (some (.out false)) else (device_Tree_permitted.l0 p0 p1 p2 k86 (wi (m0_0 + 1)))) else (some (.nxt ()))
def device_Tree_permitted.f (p0 : device_Tree) (p1 : Int) (p2 : Int) : Option (Bool) := (idx p0.devices p1).bind fun x7 => (if decide (0 ≤ x7.Parent) = true then (idx p0.state x7.Parent).bind fun x40 => some (decide (p2 < x40)) else some false).bind fun t46 => if t46 = true then (some false) else ((device_Tree_permitted.l0 p0 p1 p2 FUEL 0 : Option (Fl (Bool) (Unit))).bind fun o77 => o77.go fun _ => some true)
set_option maxRecDepth 100000 in
set_option maxHeartbeats 4000000 in
theorem device_Tree_permitted.calls {p0 : device_Tree} {c0 : Nat} {C_devices_p0 : Nat → Prop} {b_p0 : Nat} {A_devices_p0 : Option Addr} {cap_devices_p0 : Nat} {A_state_p0 : Option Addr} {cap_state_p0 : Nat} {b_rails_p0 : Nat} {A_rails_list_p0 : Option Addr} {cap_rails_list_p0 : Nat} {p1 : Int} {p2 : Int} {w : World} {g : Nat → Nat} {out : Bool} (N : Nat) (hp0 : device_Tree_At w g c0 C_devices_p0 b_p0 A_devices_p0 cap_devices_p0 A_state_p0 cap_state_p0 b_rails_p0 A_rails_list_p0 cap_rails_list_p0 p0) (hc0 : c0 + 6 ≤ N) (hC_devices_p0 : ∀ c, C_devices_p0 c → c < N ∧ (c < c0 ∨ c0 + 6 ≤ c)) (H : device_Tree_permitted.f p0 p1 p2 = some out) :
    Calls Try.prog 52 #[.pointer (some ⟨b_p0, 0, none⟩), .int .i64 p1, .int .i64 p2] w (fun e w' => ∃ v, e = .returned v ∧ ∃ (g' : Nat → Nat), v = .bool out ∧ Fr (fun q => N ≤ q) w g w' g') := by
  unfold device_Tree_permitted.f at H
  refine calls_enter Try.func52 rfl Try.ntmps52 rfl (fun a hS => ?_)
  replace hS : Sl 57 a [(0, .pointer (some ⟨b_p0, 0, none⟩)), (1, .int .i64 p1), (2, .int .i64 p2)] := hS
  have hF : Fr (fun q => N ≤ q) w g w g := Fr.refl _ _ _
  obtain ⟨hb0, hf0_devices, hf0_state, ⟨hb0_rails, hf0_rails_list⟩⟩ := hp0
  refine c_pure [(0, .pointer (some ⟨b_p0, 0, none⟩)), (1, .int .i64 p1), (2, .int .i64 p2)] (fun R hR => st_val hS rfl rfl rfl (r_assign hS rfl rfl) fun a1 hS1 => wpList_nil (hR _ (hS1.re ⟨rfl, rfl, rfl, trivial⟩))) ?_
  clear hS
  clear a
  intro a hS
  refine wp_seq ?_
  obtain ⟨x7, hx8, H⟩ := bind_el H
  refine c_region (fun K hK => ?_)
  refine st_val hS rfl rfl rfl (r_move hS rfl rfl) fun a2 hS2 => st_val hS2 rfl rfl rfl (r_nil hS2 rfl rfl) fun a3 hS3 => st_val hS3 rfl rfl rfl (r_fieldB (off := 0) hS3 rfl rfl (by kernel_rfl)) fun a4 hS4 => st_val hS4 rfl rfl rfl (r_load1 (n := 1) hS4 rfl rfl (by kernel_rfl) (Bx.cell hb0 rfl)) fun a5 hS5 => st_val hS5 rfl rfl rfl (r_move hS5 rfl rfl) fun a6 hS6 => ?_
  obtain ⟨_, ⟨A10, cap11, A14, cap15, A18, cap19, A22, cap23, rfl, h12, h16, h20, h24⟩, hel9⟩ := El.of hf0_devices hx8 (by decide)
  replace hel9 : El w g C_devices_p0 A_devices_p0 (p1.toNat * 13) [.int .i64 x7.Parent, .slice A10 x7.Rails.a0.length cap11, .slice A14 x7.Rails.a1.length cap15, .slice A18 x7.Rails.a2.length cap19, .slice A22 x7.Rails.a3.length cap23, .int .i64 x7.Deepest.a0, .int .i64 x7.Deepest.a1, .int .i64 x7.Deepest.a2, .int .i64 x7.Deepest.a3, .int .i64 x7.Deepest.a4, .int .i64 x7.Deepest.a5, .int .i64 x7.WakeDevice, .int .i64 x7.WakeSystem] := hel9
  refine st_val hS6 rfl rfl rfl (r_index (e := 33) (sz := 13) (by_ := 168) hS6 rfl rfl rfl (by kernel_rfl) (RdS.some_ hf0_devices hx8) (idx_lo hx8) (idx_hi hx8)) fun a27 hS27 => st_val hS27 rfl rfl rfl (r_fieldE (off := 0) hS27 rfl rfl (by kernel_rfl)) fun a28 hS28 => st_val hS28 rfl rfl rfl (r_load1 (n := 1) hS28 rfl rfl (by kernel_rfl) (El.cell (j := 0) hel9 rfl)) fun a29 hS29 => st_val hS29 rfl rfl rfl (r_assign hS29 rfl rfl) fun a30 hS30 => wpList_nil (hK _ _ ?_)
  replace hS : Sl 57 _ [(0, .pointer (some ⟨b_p0, 0, none⟩)), (1, .int .i64 p1), (2, .int .i64 p2), (7, .int .i64 x7.Parent)] := hS30.re ⟨rfl, rfl, rfl, rfl, trivial⟩
  clear hK K
  try clear hS2 hS3 hS4 hS5 hS6 hS27 hS28 hS29 hS30
  obtain ⟨a, ha⟩ : ∃ a', a' = a30 := ⟨_, rfl⟩
  rw [← ha] at hS ⊢; clear ha
  obtain ⟨t46, ht47, H⟩ := bind_el H
  refine c_region (fun K hK => ?_)
  refine st_val hS rfl rfl rfl (r_move hS rfl rfl) fun a31 hS31 => st_val hS31 rfl rfl rfl (r_bin hS31 rfl rfl rfl b_geq) fun a32 hS32 => st_val hS32 rfl rfl rfl (r_move hS32 rfl rfl) fun a33 hS33 => ?_
  refine g_join (N := 57) 10 [(0, .pointer (some ⟨b_p0, 0, none⟩)), (1, .int .i64 p1), (2, .int .i64 p2), (30, .bool t46)] ?_ (fun hk => ?_)
  rotate_left
  · rcases Bool.eq_false_or_eq_true (decide (0 ≤ x7.Parent)) with hb34 | hb34
    · have H := ite_t hb34 ht47
      obtain ⟨x53, hx54, H⟩ := bind_el H
      have e59 := Option.some.inj H
      refine st_valW hS33 (want_on hS33 rfl rfl rfl hb34) rfl rfl (r_move hS33 rfl rfl) fun a48 hS48 => st_valW hS48 (want_on hS48 rfl rfl rfl hb34) rfl rfl (r_nil hS48 rfl rfl) fun a49 hS49 => st_valW hS49 (want_on hS49 rfl rfl rfl hb34) rfl rfl (r_fieldB (off := 1) hS49 rfl rfl (by kernel_rfl)) fun a50 hS50 => st_valW hS50 (want_on hS50 rfl rfl rfl hb34) rfl rfl (r_load1 (n := 1) hS50 rfl rfl (by kernel_rfl) (Bx.cell hb0 rfl)) fun a51 hS51 => st_valW hS51 (want_on hS51 rfl rfl rfl hb34) rfl rfl (r_move hS51 rfl rfl) fun a52 hS52 => st_valW hS52 (want_on hS52 rfl rfl rfl hb34) rfl rfl (r_index (e := 3) (sz := 1) (by_ := 8) hS52 rfl rfl rfl (by kernel_rfl) (RdS.some_ (OwS.rd hf0_state) hx54) (idx_lo hx54) (idx_hi hx54)) fun a55 hS55 => st_valW hS55 (want_on hS55 rfl rfl rfl hb34) rfl rfl (r_load1 (n := 1) hS55 rfl rfl (by kernel_rfl) (RdS.cell (i := x7.Parent) (sz := 1) (j := 0) (OwS.rd hf0_state) hx54 rfl)) fun a56 hS56 => st_valW hS56 (want_on hS56 rfl rfl rfl hb34) rfl rfl (r_move hS56 rfl rfl) fun a57 hS57 => st_valW hS57 (want_on hS57 rfl rfl rfl hb34) rfl rfl (r_bin hS57 rfl rfl rfl b_gtr) fun a58 hS58 => st_val hS58 rfl rfl rfl (r_pickT hS58 rfl rfl rfl hb34) fun a60 hS60 => hk _ (hS60.re ⟨rfl, rfl, rfl, (by rw [← e59]; rfl), trivial⟩)
    · have H := ite_f hb34 ht47
      have e61 := Option.some.inj H
      refine st_off hS33 (want_off hS33 rfl rfl rfl hb34) rfl rfl fun a62 hS62 => st_off hS62 (want_off hS62 rfl rfl rfl hb34) rfl rfl fun a63 hS63 => st_off hS63 (want_off hS63 rfl rfl rfl hb34) rfl rfl fun a64 hS64 => st_off hS64 (want_off hS64 rfl rfl rfl hb34) rfl rfl fun a65 hS65 => st_off hS65 (want_off hS65 rfl rfl rfl hb34) rfl rfl fun a66 hS66 => st_off hS66 (want_off hS66 rfl rfl rfl hb34) rfl rfl fun a67 hS67 => st_off hS67 (want_off hS67 rfl rfl rfl hb34) rfl rfl fun a68 hS68 => st_off hS68 (want_off hS68 rfl rfl rfl hb34) rfl rfl fun a69 hS69 => st_off hS69 (want_off hS69 rfl rfl rfl hb34) rfl rfl fun a70 hS70 => st_val hS70 rfl rfl rfl (r_pickF hS70 rfl rfl rfl hb34) fun a71 hS71 => hk _ (hS71.re ⟨rfl, rfl, rfl, (by rw [← e61]; rfl), trivial⟩)
  intro a72 hS72
  refine wpList_nil (hK _ _ ?_)
  replace hS : Sl 57 _ [(0, .pointer (some ⟨b_p0, 0, none⟩)), (1, .int .i64 p1), (2, .int .i64 p2), (30, .bool t46)] := hS72.re ⟨rfl, rfl, rfl, rfl, trivial⟩
  clear hK K
  try clear hS31 hS32 hS33 hS72
  obtain ⟨a, ha⟩ : ∃ a', a' = a72 := ⟨_, rfl⟩
  rw [← ha] at hS ⊢; clear ha
  refine c_cond hS rfl (fun hb73 => ?_) (fun hb73 => ?_)
  · replace H := ite_t hb73 H
    refine c_pure [(6, .bool false)] (fun R hR => st_val hS rfl rfl rfl (r_assign hS rfl rfl) fun a74 hS74 => wpList_nil (hR _ (hS74.re ⟨rfl, trivial⟩))) ?_
    clear hS
    clear a
    intro a hS
    refine wp_ret ?_
    have e := Option.some.inj H
    subst e
    repeat (with_reducible first | refine then_ret ?_ | refine inBlock_ret ?_)
    exact c_ret1 hS Try.results52 rfl ⟨_, rfl, g, rfl, hF⟩
  · replace H := ite_f hb73 H
    refine wp_skip ?_
    change Code.wp _ _ _ _ _
    obtain ⟨o77, H, Hl78⟩ := bind_el H
    refine c_cut (fun a w75 => ∃ (g75 : Nat → Nat), o77 = .nxt () ∧ Sl 57 a [] ∧ Bx w75 g75 (c0) b_p0 90 [.slice A_devices_p0 p0.devices.length cap_devices_p0, .slice A_state_p0 p0.state.length cap_state_p0, .pointer (some ⟨b_rails_p0, 0, none⟩), .int .u64 p0.now] ∧ RdS kd_api_PowerDevice w75 g75 C_devices_p0 A_devices_p0 cap_devices_p0 p0.devices ∧ Bx w75 g75 (c0 + 3) b_rails_p0 100 [.slice A_rails_list_p0 p0.rails.list.length cap_rails_list_p0, .int .u64 p0.rails.now] ∧ OwS kd_rails_rail 105 w75 g75 (c0 + 3 + 1) A_rails_list_p0 cap_rails_list_p0 p0.rails.list ∧ OwS (kint .i64) 3 w75 g75 (c0 + 1) A_state_p0 cap_state_p0 p0.state ∧ Fr (fun q => N ≤ q) w g w75 g75) ?_ ?_
    · refine c_pure [(0, .pointer (some ⟨b_p0, 0, none⟩)), (1, .int .i64 p1), (2, .int .i64 p2), (34, .slice A_devices_p0 p0.devices.length cap_devices_p0), (35, .int .i64 (p0.devices.length : Int)), (36, .int .i64 0)] (fun R hR => st_val hS rfl rfl rfl (r_move hS rfl rfl) fun a79 hS79 => st_val hS79 rfl rfl rfl (r_nil hS79 rfl rfl) fun a80 hS80 => st_val hS80 rfl rfl rfl (r_fieldB (off := 0) hS80 rfl rfl (by kernel_rfl)) fun a81 hS81 => st_val hS81 rfl rfl rfl (r_load1 (n := 1) hS81 rfl rfl (by kernel_rfl) (Bx.cell hb0 rfl)) fun a82 hS82 => st_val hS82 rfl rfl rfl (r_len (e := 33) (sz := 13) (by_ := 168) hS82 rfl rfl (by kernel_rfl)) fun a83 hS83 => st_val hS83 rfl rfl rfl (r_move hS83 rfl rfl) fun a84 hS84 => wpList_nil (hR _ (hS84.re ⟨rfl, rfl, rfl, rfl, rfl, rfl, trivial⟩))) ?_
      clear hS
      clear a
      intro a hS
      refine wp_block ?_
      refine wp_loop_ghost (fun kq => fun a w85 => ∃ (m0_0 : Int), ∃ (g85 : Nat → Nat), device_Tree_permitted.l0 p0 p1 p2 kq m0_0 = some o77 ∧ Sl 57 a [(0, .pointer (some ⟨b_p0, 0, none⟩)), (1, .int .i64 p1), (2, .int .i64 p2), (34, .slice A_devices_p0 p0.devices.length cap_devices_p0), (35, .int .i64 (p0.devices.length : Int)), (36, .int .i64 m0_0)] ∧ Bx w85 g85 (c0) b_p0 90 [.slice A_devices_p0 p0.devices.length cap_devices_p0, .slice A_state_p0 p0.state.length cap_state_p0, .pointer (some ⟨b_rails_p0, 0, none⟩), .int .u64 p0.now] ∧ RdS kd_api_PowerDevice w85 g85 C_devices_p0 A_devices_p0 cap_devices_p0 p0.devices ∧ Bx w85 g85 (c0 + 3) b_rails_p0 100 [.slice A_rails_list_p0 p0.rails.list.length cap_rails_list_p0, .int .u64 p0.rails.now] ∧ OwS kd_rails_rail 105 w85 g85 (c0 + 3 + 1) A_rails_list_p0 cap_rails_list_p0 p0.rails.list ∧ OwS (kint .i64) 3 w85 g85 (c0 + 1) A_state_p0 cap_state_p0 p0.state ∧ Fr (fun q => N ≤ q) w g w85 g85) FUEL ?_ ?_
      · exact ⟨0, g, H, hS.re ⟨rfl, rfl, rfl, rfl, rfl, rfl, trivial⟩, hb0, hf0_devices, hb0_rails, hf0_rails_list, hf0_state, hF⟩
      · clear H
        clear hf0_devices hf0_state hf0_rails_list hb0_rails hb0 hF
        clear hS
        rintro k86 a w85 ⟨m0_0, g85, hpre0, hS, hb0, hf0_devices, hb0_rails, hf0_rails_list, hf0_state, hF⟩
        have H := hpre0
        clear hpre0
        cases k86 with
        | zero => exact absurd H (by simp [device_Tree_permitted.l0])
        | succ k86 =>
          rw [device_Tree_permitted.l0] at H
          refine c_pure [(0, .pointer (some ⟨b_p0, 0, none⟩)), (1, .int .i64 p1), (2, .int .i64 p2), (34, .slice A_devices_p0 p0.devices.length cap_devices_p0), (35, .int .i64 (p0.devices.length : Int)), (36, .int .i64 m0_0), (37, .bool (decide (m0_0 < (p0.devices.length : Int))))] (fun R hR => st_val hS rfl rfl rfl (r_bin hS rfl rfl rfl b_lss) fun a87 hS87 => wpList_nil (hR _ (hS87.re ⟨rfl, rfl, rfl, rfl, rfl, rfl, rfl, trivial⟩))) ?_
          clear hS
          clear a
          intro a hS
          refine c_if hS rfl (fun hb88 => ?_) (fun hb88 => ?_)
          · replace H := ite_t hb88 H
            refine wp_skip ?_
            change Code.wp _ _ _ _ _
            refine wp_seq ?_
            refine wp_block ?_
            obtain ⟨x90, hx91, H⟩ := bind_el H
            refine c_region (fun K hK => ?_)
            refine st_val hS rfl rfl rfl (r_move hS rfl rfl) fun a89 hS89 => ?_
            obtain ⟨_, ⟨A93, cap94, A97, cap98, A101, cap102, A105, cap106, rfl, h95, h99, h103, h107⟩, hel92⟩ := El.of hf0_devices hx91 (by decide)
            replace hel92 : El w85 g85 C_devices_p0 A_devices_p0 (m0_0.toNat * 13) [.int .i64 x90.Parent, .slice A93 x90.Rails.a0.length cap94, .slice A97 x90.Rails.a1.length cap98, .slice A101 x90.Rails.a2.length cap102, .slice A105 x90.Rails.a3.length cap106, .int .i64 x90.Deepest.a0, .int .i64 x90.Deepest.a1, .int .i64 x90.Deepest.a2, .int .i64 x90.Deepest.a3, .int .i64 x90.Deepest.a4, .int .i64 x90.Deepest.a5, .int .i64 x90.WakeDevice, .int .i64 x90.WakeSystem] := hel92
            refine st_val hS89 rfl rfl rfl (r_index (e := 33) (sz := 13) (by_ := 168) hS89 rfl rfl rfl (by kernel_rfl) (RdS.some_ hf0_devices hx91) (idx_lo hx91) (idx_hi hx91)) fun a110 hS110 => st_val hS110 rfl rfl rfl (r_loadN (n := 13) (cs := [.int .i64 x90.Parent, .slice A93 x90.Rails.a0.length cap94, .slice A97 x90.Rails.a1.length cap98, .slice A101 x90.Rails.a2.length cap102, .slice A105 x90.Rails.a3.length cap106, .int .i64 x90.Deepest.a0, .int .i64 x90.Deepest.a1, .int .i64 x90.Deepest.a2, .int .i64 x90.Deepest.a3, .int .i64 x90.Deepest.a4, .int .i64 x90.Deepest.a5, .int .i64 x90.WakeDevice, .int .i64 x90.WakeSystem]) hS110 rfl rfl (by kernel_rfl) rfl (El.cells_off hel92 0 13)) fun a111 hS111 => ?_
            refine st_eff hS111 rfl rfl rfl (e_alloc (cs := [.int .i64 0, .slice none 0 0, .slice none 0 0, .slice none 0 0, .slice none 0 0, .int .i64 0, .int .i64 0, .int .i64 0, .int .i64 0, .int .i64 0, .int .i64 0, .int .i64 0, .int .i64 0]) (N + 0) g85 hS111 rfl (by kernel_rfl)) ?_
            rintro _ a115 w116 g116 ⟨⟨b112, rfl, h113⟩, F116⟩ hS115
            replace h99 := RdS.fr h99 F116 (by decide) (fun _ _ h => h)
            replace h103 := RdS.fr h103 F116 (by decide) (fun _ _ h => h)
            replace h107 := RdS.fr h107 F116 (by decide) (fun _ _ h => h)
            replace hel92 := hel92.fr F116 (fun _ _ h => h)
            replace h95 := RdS.fr h95 F116 (by decide) (fun _ _ h => h)
            replace hb0 := hb0.fr F116 (fun h => h)
            replace hf0_devices := RdS.fr hf0_devices F116 (by decide) (fun _ _ h => h)
            replace hb0_rails := hb0_rails.fr F116 (fun h => h)
            replace hf0_rails_list := OwS.fr hf0_rails_list F116 (fun _ _ h => h)
            replace hf0_state := OwS.fr hf0_state F116 (fun _ _ h => h)
            replace hF := hF.trans F116 (fun _ h => h.elim)
            refine st_val hS115 rfl rfl rfl (r_assign hS115 rfl rfl) fun a117 hS117 => ?_
            refine st_effS hS117 rfl rfl (e_storeB (n := 13) (bb := true) (cs' := [.int .i64 x90.Parent, .slice A93 x90.Rails.a0.length cap94, .slice A97 x90.Rails.a1.length cap98, .slice A101 x90.Rails.a2.length cap102, .slice A105 x90.Rails.a3.length cap106, .int .i64 x90.Deepest.a0, .int .i64 x90.Deepest.a1, .int .i64 x90.Deepest.a2, .int .i64 x90.Deepest.a3, .int .i64 x90.Deepest.a4, .int .i64 x90.Deepest.a5, .int .i64 x90.WakeDevice, .int .i64 x90.WakeSystem]) g116 hS117 rfl rfl rfl (by kernel_rfl) rfl rfl rfl h113 rfl rfl) ?_
            rintro a118 w119 g119 ⟨h113, F119⟩ hS118
            replace h99 := RdS.fr h99 F119 (by decide) (fun q (hq : C_devices_p0 q) (hm : q = N + 0) => by have := hC_devices_p0 q hq; omega)
            replace h103 := RdS.fr h103 F119 (by decide) (fun q (hq : C_devices_p0 q) (hm : q = N + 0) => by have := hC_devices_p0 q hq; omega)
            replace h107 := RdS.fr h107 F119 (by decide) (fun q (hq : C_devices_p0 q) (hm : q = N + 0) => by have := hC_devices_p0 q hq; omega)
            replace hel92 := hel92.fr F119 (fun q (hq : C_devices_p0 q) (hm : q = N + 0) => by have := hC_devices_p0 q hq; omega)
            replace h95 := RdS.fr h95 F119 (by decide) (fun q (hq : C_devices_p0 q) (hm : q = N + 0) => by have := hC_devices_p0 q hq; omega)
            replace hb0 := hb0.fr F119 (fun (hm : c0 = N + 0) => by omega)
            replace hf0_devices := RdS.fr hf0_devices F119 (by decide) (fun q (hq : C_devices_p0 q) (hm : q = N + 0) => by have := hC_devices_p0 q hq; omega)
            replace hb0_rails := hb0_rails.fr F119 (fun (hm : c0 + 3 = N + 0) => by omega)
            replace hf0_rails_list := OwS.fr hf0_rails_list F119 (fun c' hc (hm : c' = N + 0) => by omega)
            replace hf0_state := OwS.fr hf0_state F119 (fun c' hc (hm : c' = N + 0) => by omega)
            replace hF := hF.trans F119 (fun c' (hm : c' = N + 0) => by show N ≤ c'; omega)
            refine wpList_nil (hK _ _ ?_)
            replace hS : Sl 57 _ [(0, .pointer (some ⟨b_p0, 0, none⟩)), (1, .int .i64 p1), (2, .int .i64 p2), (8, .int .i64 m0_0), (9, .pointer (some ⟨b112, 0, none⟩)), (34, .slice A_devices_p0 p0.devices.length cap_devices_p0), (35, .int .i64 (p0.devices.length : Int)), (36, .int .i64 m0_0)] := hS118.re ⟨rfl, rfl, rfl, rfl, rfl, rfl, rfl, rfl, trivial⟩
            clear hK K
            try clear hS89 hS110 hS111 hS115 hS117 hS118
            obtain ⟨a, ha⟩ : ∃ a', a' = a118 := ⟨_, rfl⟩
            rw [← ha] at hS ⊢; clear ha
            obtain ⟨t137, ht138, H⟩ := bind_el H
            refine c_region (fun K hK => ?_)
            refine st_val hS rfl rfl rfl (r_fieldB (off := 0) hS rfl rfl (by kernel_rfl)) fun a120 hS120 => st_val hS120 rfl rfl rfl (r_load1 (n := 1) hS120 rfl rfl (by kernel_rfl) (Bx.cell h113 rfl)) fun a121 hS121 => st_val hS121 rfl rfl rfl (r_move hS121 rfl rfl) fun a122 hS122 => st_val hS122 rfl rfl rfl (r_bin hS122 rfl rfl rfl b_eql) fun a123 hS123 => st_val hS123 rfl rfl rfl (r_move hS123 rfl rfl) fun a124 hS124 => ?_
            refine g_join (N := 57) 10 [(0, .pointer (some ⟨b_p0, 0, none⟩)), (1, .int .i64 p1), (2, .int .i64 p2), (34, .slice A_devices_p0 p0.devices.length cap_devices_p0), (35, .int .i64 (p0.devices.length : Int)), (36, .int .i64 m0_0), (55, .bool t137)] ?_ (fun hk => ?_)
            rotate_left
            · rcases Bool.eq_false_or_eq_true ((x90.Parent == p1)) with hb125 | hb125
              · have H := ite_t hb125 ht138
                obtain ⟨x144, hx145, H⟩ := bind_el H
                have e150 := Option.some.inj H
                refine st_valW hS124 (want_on hS124 rfl rfl rfl hb125) rfl rfl (r_move hS124 rfl rfl) fun a139 hS139 => st_valW hS139 (want_on hS139 rfl rfl rfl hb125) rfl rfl (r_nil hS139 rfl rfl) fun a140 hS140 => st_valW hS140 (want_on hS140 rfl rfl rfl hb125) rfl rfl (r_fieldB (off := 1) hS140 rfl rfl (by kernel_rfl)) fun a141 hS141 => st_valW hS141 (want_on hS141 rfl rfl rfl hb125) rfl rfl (r_load1 (n := 1) hS141 rfl rfl (by kernel_rfl) (Bx.cell hb0 rfl)) fun a142 hS142 => st_valW hS142 (want_on hS142 rfl rfl rfl hb125) rfl rfl (r_move hS142 rfl rfl) fun a143 hS143 => st_valW hS143 (want_on hS143 rfl rfl rfl hb125) rfl rfl (r_index (e := 3) (sz := 1) (by_ := 8) hS143 rfl rfl rfl (by kernel_rfl) (RdS.some_ (OwS.rd hf0_state) hx145) (idx_lo hx145) (idx_hi hx145)) fun a146 hS146 => st_valW hS146 (want_on hS146 rfl rfl rfl hb125) rfl rfl (r_load1 (n := 1) hS146 rfl rfl (by kernel_rfl) (RdS.cell (i := m0_0) (sz := 1) (j := 0) (OwS.rd hf0_state) hx145 rfl)) fun a147 hS147 => st_valW hS147 (want_on hS147 rfl rfl rfl hb125) rfl rfl (r_move hS147 rfl rfl) fun a148 hS148 => st_valW hS148 (want_on hS148 rfl rfl rfl hb125) rfl rfl (r_bin hS148 rfl rfl rfl b_lss) fun a149 hS149 => st_val hS149 rfl rfl rfl (r_pickT hS149 rfl rfl rfl hb125) fun a151 hS151 => hk _ (hS151.re ⟨rfl, rfl, rfl, rfl, rfl, rfl, (by rw [← e150]; rfl), trivial⟩)
              · have H := ite_f hb125 ht138
                have e152 := Option.some.inj H
                refine st_off hS124 (want_off hS124 rfl rfl rfl hb125) rfl rfl fun a153 hS153 => st_off hS153 (want_off hS153 rfl rfl rfl hb125) rfl rfl fun a154 hS154 => st_off hS154 (want_off hS154 rfl rfl rfl hb125) rfl rfl fun a155 hS155 => st_off hS155 (want_off hS155 rfl rfl rfl hb125) rfl rfl fun a156 hS156 => st_off hS156 (want_off hS156 rfl rfl rfl hb125) rfl rfl fun a157 hS157 => st_off hS157 (want_off hS157 rfl rfl rfl hb125) rfl rfl fun a158 hS158 => st_off hS158 (want_off hS158 rfl rfl rfl hb125) rfl rfl fun a159 hS159 => st_off hS159 (want_off hS159 rfl rfl rfl hb125) rfl rfl fun a160 hS160 => st_off hS160 (want_off hS160 rfl rfl rfl hb125) rfl rfl fun a161 hS161 => st_val hS161 rfl rfl rfl (r_pickF hS161 rfl rfl rfl hb125) fun a162 hS162 => hk _ (hS162.re ⟨rfl, rfl, rfl, rfl, rfl, rfl, (by rw [← e152]; rfl), trivial⟩)
            intro a163 hS163
            refine wpList_nil (hK _ _ ?_)
            replace hS : Sl 57 _ [(0, .pointer (some ⟨b_p0, 0, none⟩)), (1, .int .i64 p1), (2, .int .i64 p2), (34, .slice A_devices_p0 p0.devices.length cap_devices_p0), (35, .int .i64 (p0.devices.length : Int)), (36, .int .i64 m0_0), (55, .bool t137)] := hS163.re ⟨rfl, rfl, rfl, rfl, rfl, rfl, rfl, trivial⟩
            clear hK K
            try clear hS120 hS121 hS122 hS123 hS124 hS163
            obtain ⟨a, ha⟩ : ∃ a', a' = a163 := ⟨_, rfl⟩
            rw [← ha] at hS ⊢; clear ha
            refine c_cond hS rfl (fun hb164 => ?_) (fun hb164 => ?_)
            · replace H := ite_t hb164 H
              refine c_pure [(6, .bool false)] (fun R hR => st_val hS rfl rfl rfl (r_assign hS rfl rfl) fun a165 hS165 => wpList_nil (hR _ (hS165.re ⟨rfl, trivial⟩))) ?_
              clear hS
              clear a
              intro a hS
              refine wp_ret ?_
              have e := Option.some.inj H
              subst e
              replace H := Fl.go_out Hl78
              have e := Option.some.inj H
              subst e
              repeat (with_reducible first | refine then_ret ?_ | refine inBlock_ret ?_)
              exact c_ret1 hS Try.results52 rfl ⟨_, rfl, g119, rfl, hF⟩
            · replace H := ite_f hb164 H
              refine wp_skip ?_
              change Code.wp _ _ _ _ _
              refine c_pure1 [(0, .pointer (some ⟨b_p0, 0, none⟩)), (1, .int .i64 p1), (2, .int .i64 p2), (34, .slice A_devices_p0 p0.devices.length cap_devices_p0), (35, .int .i64 (p0.devices.length : Int)), (36, .int .i64 (wi (m0_0 + 1)))] (fun R hR => st_val hS rfl rfl rfl (r_bin hS rfl rfl rfl b_add) fun a166 hS166 => st_val hS166 rfl rfl rfl (r_move hS166 rfl rfl) fun a167 hS167 => wpList_nil (hR _ (hS167.re ⟨rfl, rfl, rfl, rfl, rfl, rfl, trivial⟩))) ?_
              clear hS
              clear a
              intro a hS
              refine ⟨k86, Nat.lt_succ_self _, ?_⟩
              exact ⟨wi (m0_0 + 1), g119, H, hS.re ⟨rfl, rfl, rfl, rfl, rfl, rfl, trivial⟩, hb0, hf0_devices, hb0_rails, hf0_rails_list, hf0_state, hF⟩
          · replace H := ite_f hb88 H
            refine wp_exit ?_
            have e := Option.some.inj H
            exact ⟨g85, e.symm, hS.re trivial, hb0, hf0_devices, hb0_rails, hf0_rails_list, hf0_state, hF⟩
    · clear H
      clear hf0_devices hf0_state hf0_rails_list hb0_rails hb0 hF
      clear hS
      rintro a w75 ⟨g75, hpre0, hS, hb0, hf0_devices, hb0_rails, hf0_rails_list, hf0_state, hF⟩
      subst hpre0
      have H := Fl.go_nxt Hl78
      clear Hl78
      refine c_pure [(6, .bool true)] (fun R hR => st_val hS rfl rfl rfl (r_assign hS rfl rfl) fun a168 hS168 => wpList_nil (hR _ (hS168.re ⟨rfl, trivial⟩))) ?_
      clear hS
      clear a
      intro a hS
      refine wp_ret ?_
      have e := Option.some.inj H
      subst e
      repeat (with_reducible first | refine then_ret ?_ | refine inBlock_ret ?_)
      exact c_ret1 hS Try.results52 rfl ⟨_, rfl, g75, rfl, hF⟩


end Go.Proofs.Ytfhhklkmbcnhnaa.Sim

namespace Go.Proofs.Ytfhhklkmbcnhnaa.Sim
open Go
set_option linter.unusedVariables false
set_option linter.unusedSimpArgs false

/-! ### rails_Rails_has: function 67 -/
def rails_Rails_has.f (p0 : rails_Rails) (p1 : Int) : Option (Bool) := some ((decide (0 ≤ p1)) && (decide (p1 < (p0.list.length : Int))))
set_option maxRecDepth 100000 in
set_option maxHeartbeats 4000000 in
theorem rails_Rails_has.calls {p0 : rails_Rails} {c0 : Nat}  {b_p0 : Nat} {A_list_p0 : Option Addr} {cap_list_p0 : Nat} {p1 : Int} {w : World} {g : Nat → Nat} {out : Bool} (N : Nat) (hp0 : rails_Rails_At w g c0 b_p0 A_list_p0 cap_list_p0 p0) (hc0 : c0 + 3 ≤ N) (H : rails_Rails_has.f p0 p1 = some out) :
    Calls Try.prog 67 #[.pointer (some ⟨b_p0, 0, none⟩), .int .i64 p1] w (fun e w' => ∃ v, e = .returned v ∧ ∃ (g' : Nat → Nat), v = .bool out ∧ Fr (fun q => N ≤ q) w g w' g') := by
  unfold rails_Rails_has.f at H
  refine calls_enter Try.func67 rfl Try.ntmps67 rfl (fun a hS => ?_)
  replace hS : Sl 16 a [(0, .pointer (some ⟨b_p0, 0, none⟩)), (1, .int .i64 p1)] := hS
  have hF : Fr (fun q => N ≤ q) w g w g := Fr.refl _ _ _
  obtain ⟨hb0, hf0_list⟩ := hp0
  refine c_pure [(0, .pointer (some ⟨b_p0, 0, none⟩)), (1, .int .i64 p1)] (fun R hR => st_val hS rfl rfl rfl (r_assign hS rfl rfl) fun a1 hS1 => wpList_nil (hR _ (hS1.re ⟨rfl, rfl, trivial⟩))) ?_
  clear hS
  clear a
  intro a hS
  refine c_region (fun K hK => ?_)
  refine st_val hS rfl rfl rfl (r_move hS rfl rfl) fun a2 hS2 => st_val hS2 rfl rfl rfl (r_bin hS2 rfl rfl rfl b_geq) fun a3 hS3 => st_val hS3 rfl rfl rfl (r_move hS3 rfl rfl) fun a4 hS4 => ?_
  refine g_join (N := 16) 8 [(15, .bool ((decide (0 ≤ p1)) && (decide (p1 < (p0.list.length : Int)))))] ?_ (fun hk => ?_)
  rotate_left
  · rcases Bool.eq_false_or_eq_true (decide (0 ≤ p1)) with hb5 | hb5
    · refine st_valW hS4 (want_on hS4 rfl rfl rfl hb5) rfl rfl (r_move hS4 rfl rfl) fun a13 hS13 => st_valW hS13 (want_on hS13 rfl rfl rfl hb5) rfl rfl (r_move hS13 rfl rfl) fun a14 hS14 => st_valW hS14 (want_on hS14 rfl rfl rfl hb5) rfl rfl (r_nil hS14 rfl rfl) fun a15 hS15 => st_valW hS15 (want_on hS15 rfl rfl rfl hb5) rfl rfl (r_fieldB (off := 0) hS15 rfl rfl (by kernel_rfl)) fun a16 hS16 => st_valW hS16 (want_on hS16 rfl rfl rfl hb5) rfl rfl (r_load1 (n := 1) hS16 rfl rfl (by kernel_rfl) (Bx.cell hb0 rfl)) fun a17 hS17 => st_valW hS17 (want_on hS17 rfl rfl rfl hb5) rfl rfl (r_len (e := 105) (sz := 5) (by_ := 40) hS17 rfl rfl (by kernel_rfl)) fun a18 hS18 => st_valW hS18 (want_on hS18 rfl rfl rfl hb5) rfl rfl (r_bin hS18 rfl rfl rfl b_lss) fun a19 hS19 => st_val hS19 rfl rfl rfl (r_pickT hS19 rfl rfl rfl hb5) fun a20 hS20 => hk _ (hS20.re ⟨(by rw [hb5]; rfl), trivial⟩)
    · refine st_off hS4 (want_off hS4 rfl rfl rfl hb5) rfl rfl fun a21 hS21 => st_off hS21 (want_off hS21 rfl rfl rfl hb5) rfl rfl fun a22 hS22 => st_off hS22 (want_off hS22 rfl rfl rfl hb5) rfl rfl fun a23 hS23 => st_off hS23 (want_off hS23 rfl rfl rfl hb5) rfl rfl fun a24 hS24 => st_off hS24 (want_off hS24 rfl rfl rfl hb5) rfl rfl fun a25 hS25 => st_off hS25 (want_off hS25 rfl rfl rfl hb5) rfl rfl fun a26 hS26 => st_off hS26 (want_off hS26 rfl rfl rfl hb5) rfl rfl fun a27 hS27 => st_val hS27 rfl rfl rfl (r_pickF hS27 rfl rfl rfl hb5) fun a28 hS28 => hk _ (hS28.re ⟨(by rw [hb5]; rfl), trivial⟩)
  intro a29 hS29
  refine st_val hS29 rfl rfl rfl (r_assign hS29 rfl rfl) fun a30 hS30 => wpList_nil (hK _ _ ?_)
  replace hS : Sl 16 _ [(4, .bool ((decide (0 ≤ p1)) && (decide (p1 < (p0.list.length : Int)))))] := hS30.re ⟨rfl, trivial⟩
  clear hK K
  try clear hS2 hS3 hS4 hS29 hS30
  obtain ⟨a, ha⟩ : ∃ a', a' = a30 := ⟨_, rfl⟩
  rw [← ha] at hS ⊢; clear ha
  refine wp_ret ?_
  have e := Option.some.inj H
  subst e
  repeat (with_reducible first | refine then_ret ?_ | refine inBlock_ret ?_)
  exact c_ret1 hS Try.results67 rfl ⟨_, rfl, g, rfl, hF⟩


end Go.Proofs.Ytfhhklkmbcnhnaa.Sim

namespace Go.Proofs.Ytfhhklkmbcnhnaa.Sim
open Go
set_option linter.unusedVariables false
set_option linter.unusedSimpArgs false

/-! ### rails_Rails_check: function 63 -/
def rails_Rails_check.f (p0 : rails_Rails) (p1 : Int) (p2 : Int) : Option (Bool) := (rails_Rails_has.f p0 p1).bind fun r4 => some ((r4 && (decide (p0.now ≤ p2))) && (decide (p2 ≤ 1152921504606846976)))
set_option maxRecDepth 100000 in
set_option maxHeartbeats 4000000 in
theorem rails_Rails_check.calls {p0 : rails_Rails} {c0 : Nat}  {b_p0 : Nat} {A_list_p0 : Option Addr} {cap_list_p0 : Nat} {p1 : Int} {p2 : Int} {w : World} {g : Nat → Nat} {out : Bool} (N : Nat) (hp0 : rails_Rails_At w g c0 b_p0 A_list_p0 cap_list_p0 p0) (hc0 : c0 + 3 ≤ N) (H : rails_Rails_check.f p0 p1 p2 = some out) :
    Calls Try.prog 63 #[.pointer (some ⟨b_p0, 0, none⟩), .int .i64 p1, .int .u64 p2] w (fun e w' => ∃ v, e = .returned v ∧ ∃ (g' : Nat → Nat), v = .bool out ∧ Fr (fun q => N ≤ q) w g w' g') := by
  unfold rails_Rails_check.f at H
  refine calls_enter Try.func63 rfl Try.ntmps63 rfl (fun a hS => ?_)
  replace hS : Sl 22 a [(0, .pointer (some ⟨b_p0, 0, none⟩)), (1, .int .i64 p1), (2, .int .u64 p2)] := hS
  have hF : Fr (fun q => N ≤ q) w g w g := Fr.refl _ _ _
  obtain ⟨hb0, hf0_list⟩ := hp0
  refine c_pure [(0, .pointer (some ⟨b_p0, 0, none⟩)), (1, .int .i64 p1), (2, .int .u64 p2)] (fun R hR => st_val hS rfl rfl rfl (r_assign hS rfl rfl) fun a1 hS1 => wpList_nil (hR _ (hS1.re ⟨rfl, rfl, rfl, trivial⟩))) ?_
  clear hS
  clear a
  intro a hS
  obtain ⟨r4, hr5, H⟩ := bind_el H
  refine c_region (fun K hK => ?_)
  refine st_val hS rfl rfl rfl (r_move hS rfl rfl) fun a2 hS2 => st_val hS2 rfl rfl rfl (r_move hS2 rfl rfl) fun a3 hS3 => ?_
  refine st_enter hS3 rfl rfl rfl (r_call hS3 rfl rfl (by kernel_rfl)) (rails_Rails_has.calls (c0 := c0) (b_p0 := b_p0) (A_list_p0 := A_list_p0) (cap_list_p0 := cap_list_p0) (p0 := p0) (p1 := p1) (g := g) (N + 0)  ⟨hb0, hf0_list⟩ (by omega) hr5) ?_
  rintro _ a6 w7 ⟨g7, rfl, F7⟩ hS6
  replace hb0 := hb0.fr F7 (fun (hm : N + 0 ≤ c0) => by omega)
  replace hf0_list := OwS.fr hf0_list F7 (fun c' hc (hm : N + 0 ≤ c') => by omega)
  replace hF := hF.trans F7 (fun c' (hm : N + 0 ≤ c') => by show N ≤ c'; omega)
  refine st_val hS6 rfl rfl rfl (r_move hS6 rfl rfl) fun a8 hS8 => ?_
  refine g_join (N := 22) 7 [(2, .int .u64 p2), (17, .bool (r4 && (decide (p0.now ≤ p2))))] ?_ (fun hk => ?_)
  rotate_left
  · rcases Bool.eq_false_or_eq_true (r4) with hb9 | hb9
    · refine st_valW hS8 (want_on hS8 rfl rfl rfl hb9) rfl rfl (r_move hS8 rfl rfl) fun a16 hS16 => st_valW hS16 (want_on hS16 rfl rfl rfl hb9) rfl rfl (r_move hS16 rfl rfl) fun a17 hS17 => st_valW hS17 (want_on hS17 rfl rfl rfl hb9) rfl rfl (r_nil hS17 rfl rfl) fun a18 hS18 => st_valW hS18 (want_on hS18 rfl rfl rfl hb9) rfl rfl (r_fieldB (off := 1) hS18 rfl rfl (by kernel_rfl)) fun a19 hS19 => st_valW hS19 (want_on hS19 rfl rfl rfl hb9) rfl rfl (r_load1 (n := 1) hS19 rfl rfl (by kernel_rfl) (Bx.cell hb0 rfl)) fun a20 hS20 => st_valW hS20 (want_on hS20 rfl rfl rfl hb9) rfl rfl (r_bin hS20 rfl rfl rfl b_geq) fun a21 hS21 => st_val hS21 rfl rfl rfl (r_pickT hS21 rfl rfl rfl hb9) fun a22 hS22 => hk _ (hS22.re ⟨rfl, (by rw [hb9]; rfl), trivial⟩)
    · refine st_off hS8 (want_off hS8 rfl rfl rfl hb9) rfl rfl fun a23 hS23 => st_off hS23 (want_off hS23 rfl rfl rfl hb9) rfl rfl fun a24 hS24 => st_off hS24 (want_off hS24 rfl rfl rfl hb9) rfl rfl fun a25 hS25 => st_off hS25 (want_off hS25 rfl rfl rfl hb9) rfl rfl fun a26 hS26 => st_off hS26 (want_off hS26 rfl rfl rfl hb9) rfl rfl fun a27 hS27 => st_off hS27 (want_off hS27 rfl rfl rfl hb9) rfl rfl fun a28 hS28 => st_val hS28 rfl rfl rfl (r_pickF hS28 rfl rfl rfl hb9) fun a29 hS29 => hk _ (hS29.re ⟨rfl, (by rw [hb9]; rfl), trivial⟩)
  intro a30 hS30
  refine st_val hS30 rfl rfl rfl (r_move hS30 rfl rfl) fun a31 hS31 => ?_
  refine g_join (N := 22) 3 [(21, .bool ((r4 && (decide (p0.now ≤ p2))) && (decide (p2 ≤ 1152921504606846976))))] ?_ (fun hk => ?_)
  rotate_left
  · rcases Bool.eq_false_or_eq_true ((r4 && (decide (p0.now ≤ p2)))) with hb32 | hb32
    · refine st_valW hS31 (want_on hS31 rfl rfl rfl hb32) rfl rfl (r_move hS31 rfl rfl) fun a35 hS35 => st_valW hS35 (want_on hS35 rfl rfl rfl hb32) rfl rfl (r_bin hS35 rfl rfl rfl b_leq) fun a36 hS36 => st_val hS36 rfl rfl rfl (r_pickT hS36 rfl rfl rfl hb32) fun a37 hS37 => hk _ (hS37.re ⟨(by rw [hb32]; rfl), trivial⟩)
    · refine st_off hS31 (want_off hS31 rfl rfl rfl hb32) rfl rfl fun a38 hS38 => st_off hS38 (want_off hS38 rfl rfl rfl hb32) rfl rfl fun a39 hS39 => st_val hS39 rfl rfl rfl (r_pickF hS39 rfl rfl rfl hb32) fun a40 hS40 => hk _ (hS40.re ⟨(by rw [hb32]; rfl), trivial⟩)
  intro a41 hS41
  refine st_val hS41 rfl rfl rfl (r_assign hS41 rfl rfl) fun a42 hS42 => wpList_nil (hK _ _ ?_)
  replace hS : Sl 22 _ [(6, .bool ((r4 && (decide (p0.now ≤ p2))) && (decide (p2 ≤ 1152921504606846976))))] := hS42.re ⟨rfl, trivial⟩
  clear hK K
  try clear hS2 hS3 hS6 hS8 hS30 hS31 hS41 hS42
  obtain ⟨a, ha⟩ : ∃ a', a' = a42 := ⟨_, rfl⟩
  rw [← ha] at hS ⊢; clear ha
  refine wp_ret ?_
  have e := Option.some.inj H
  subst e
  repeat (with_reducible first | refine then_ret ?_ | refine inBlock_ret ?_)
  exact c_ret1 hS Try.results63 rfl ⟨_, rfl, g7, rfl, hF⟩


end Go.Proofs.Ytfhhklkmbcnhnaa.Sim
