/-
  Texts of this session, part 2 of 7: the words of the walk, plain functions with the same answers as the Go functions and the proofs of it, plain lemmas. No condition.
  They are, one behind the other: QRuntimepmManagerExpire QRuntimepmManagerValid QRuntimepmManagerAdvance QDepgraphAdjacent QDepgraphClosure QDepgraphReversed QDepgraphValidate QDepgraphSuppliers QRuntimepmManagerHas QSlicesIndexIntInt QSlicesContainsIntInt QRuntimepmManagerGet QRuntimepmManagerNextExpiry.
-/
import Derived.Test.YtcfcffbjdjacfaaProg
import Derived.Test.YtcfcffbjdjacfaaZRuntimepmOperationsOrdered1

namespace Go.Proofs.Ytcfcffbjdjacfaa.Sim
open Go
set_option linter.unusedVariables false
set_option linter.unusedSimpArgs false

/-! ### runtimepm_Manager_expire: function 48 -/
def runtimepm_Manager_expire.l1 (r16 : Int × Int) (y75 : List api_PowerOp) (x89 : runtimepm_device) : Nat → runtimepm_Manager → Int → Option (Fl (runtimepm_Manager × (List api_PowerOp)) (runtimepm_Manager × (List api_PowerOp)))
  | 0, _, _ => none
  | k107 + 1, m1_0, m1_1 => if decide (m1_1 < (x89.suppliers.length : Int)) = true then (((idx x89.suppliers m1_1).bind fun x114 => (runtimepm_Manager_isIdle.f m1_0 x114).bind fun r121 => if r121 = true then ((idx m1_0.devices x114).bind fun x132 => some (runtimepm_Manager.mk (upd m1_0.devices x114 ({ x132 with idle := r16.2 } : runtimepm_device)) m1_0.links m1_0.order m1_0.now)) else (some m1_0) : Option (runtimepm_Manager)).bind fun v111 => runtimepm_Manager_expire.l1 r16 y75 x89 k107 v111 (wi (m1_1 + 1))) else (some (.nxt (m1_0, y75)))
def runtimepm_Manager_expire.l0 (p1 : Int) : Nat → runtimepm_Manager → (List api_PowerOp) → Option (runtimepm_Manager × (List api_PowerOp))
  | 0, _, _ => none
  | k7 + 1, m0_0, m0_1 => ((runtimepm_Manager_next.f m0_0).bind fun r16 => if ((decide (r16.1 < 0)) || (decide (p1 < r16.2))) = true then (some (.out (m0_0, m0_1))) else ((idx m0_0.devices r16.1).bind fun x50 => (app m0_1 [(api_PowerOp.mk r16.1 false r16.2)]).bind fun y75 => (idx (upd m0_0.devices r16.1 ({ x50 with active := false } : runtimepm_device)) r16.1).bind fun x89 => runtimepm_Manager_expire.l1 r16 y75 x89 FUEL (runtimepm_Manager.mk (upd m0_0.devices r16.1 ({ x50 with active := false } : runtimepm_device)) m0_0.links m0_0.order m0_0.now) 0) : Option (Fl (runtimepm_Manager × (List api_PowerOp)) (runtimepm_Manager × (List api_PowerOp)))).bind fun o13 => o13.go fun v12 => runtimepm_Manager_expire.l0 p1 k7 v12.1 v12.2
def runtimepm_Manager_expire.f (p0 : runtimepm_Manager) (p1 : Int) : Option (runtimepm_Manager × (List api_PowerOp)) := runtimepm_Manager_expire.l0 p1 FUEL p0 []
set_option maxRecDepth 100000 in
set_option maxHeartbeats 4000000 in
theorem runtimepm_Manager_expire.calls {p0 : runtimepm_Manager} {c0 : Nat}  {b_p0 : Nat} {A_devices_p0 : Option Addr} {cap_devices_p0 : Nat} {A_links_p0 : Option Addr} {cap_links_p0 : Nat} {A_order_p0 : Option Addr} {cap_order_p0 : Nat} {p1 : Int} {w : World} {g : Nat → Nat} {out : runtimepm_Manager × (List api_PowerOp)} (N : Nat) (r0 : Nat) (hp0 : runtimepm_Manager_At w g c0 b_p0 A_devices_p0 cap_devices_p0 A_links_p0 cap_links_p0 A_order_p0 cap_order_p0 p0) (hc0 : c0 + 7 ≤ N) (hr0 : r0 + 2 ≤ N) (hq0_0 : r0 + 2 ≤ c0 ∨ c0 + 7 ≤ r0) (H : runtimepm_Manager_expire.f p0 p1 = some out) :
    Calls Try.prog 48 #[.pointer (some ⟨b_p0, 0, none⟩), .int .u64 p1] w (fun e w' => ∃ v, e = .returned v ∧ ∃ (g' : Nat → Nat) (A_r0 : Option Addr) (cap_r0 : Nat), v = .slice A_r0 out.2.length cap_r0 ∧ runtimepm_Manager_At w' g' c0 b_p0 A_devices_p0 cap_devices_p0 A_links_p0 cap_links_p0 A_order_p0 cap_order_p0 out.1 ∧ OwS kd_api_PowerOp 47 w' g' r0 A_r0 cap_r0 out.2 ∧ Fr (fun q => (c0 ≤ q ∧ q < c0 + 7) ∨ (r0 ≤ q ∧ q < r0 + 2) ∨ N ≤ q) w g w' g') := by
  unfold runtimepm_Manager_expire.f at H
  refine calls_enter Try.func48 rfl Try.ntmps48 rfl (fun a hS => ?_)
  replace hS : Sl 61 a [(0, .pointer (some ⟨b_p0, 0, none⟩)), (1, .int .u64 p1)] := hS
  have hF : Fr (fun q => (c0 ≤ q ∧ q < c0 + 7) ∨ (r0 ≤ q ∧ q < r0 + 2) ∨ N ≤ q) w g w g := Fr.refl _ _ _
  obtain ⟨hb0, hf0_devices, hf0_links, hf0_order⟩ := hp0
  refine c_pure [(0, .pointer (some ⟨b_p0, 0, none⟩)), (1, .int .u64 p1)] (fun R hR => st_val hS rfl rfl rfl (r_assign hS rfl rfl) fun a1 hS1 => wpList_nil (hR _ (hS1.re ⟨rfl, rfl, trivial⟩))) ?_
  clear hS
  clear a
  intro a hS
  refine c_pure [(0, .pointer (some ⟨b_p0, 0, none⟩)), (1, .int .u64 p1), (5, .slice none 0 0)] (fun R hR => st_val hS rfl rfl rfl (r_assign hS rfl rfl) fun a2 hS2 => wpList_nil (hR _ (hS2.re ⟨rfl, rfl, rfl, trivial⟩))) ?_
  clear hS
  clear a
  intro a hS
  refine wp_block ?_
  refine wp_loop_ghost (fun kq => fun a w3 => ∃ (m0_0 : runtimepm_Manager), ∃ (m0_1 : List api_PowerOp), ∃ (g3 : Nat → Nat), ∃ (A4 : Option Addr), ∃ (cap5 : Nat), runtimepm_Manager_expire.l0 p1 kq m0_0 m0_1 = some out ∧ Sl 61 a [(0, .pointer (some ⟨b_p0, 0, none⟩)), (1, .int .u64 p1), (5, .slice A4 m0_1.length cap5)] ∧ OwS kd_api_PowerOp 47 w3 g3 (N + 2) A4 cap5 m0_1 ∧ Bx w3 g3 (c0) b_p0 85 [.slice A_devices_p0 m0_0.devices.length cap_devices_p0, .slice A_links_p0 m0_0.links.length cap_links_p0, .slice A_order_p0 m0_0.order.length cap_order_p0, .int .u64 m0_0.now] ∧ OwS kd_runtimepm_device 88 w3 g3 (c0 + 1) A_devices_p0 cap_devices_p0 m0_0.devices ∧ OwS kd_api_Link 67 w3 g3 (c0 + 3) A_links_p0 cap_links_p0 m0_0.links ∧ OwS (kint .i64) 3 w3 g3 (c0 + 5) A_order_p0 cap_order_p0 m0_0.order ∧ Fr (fun q => (c0 ≤ q ∧ q < c0 + 7) ∨ (r0 ≤ q ∧ q < r0 + 2) ∨ N ≤ q) w g w3 g3) FUEL ?_ ?_
  · exact ⟨p0, [], g, none, 0, H, hS.re ⟨rfl, rfl, rfl, trivial⟩, OwS.nil kd_api_PowerOp 47 w g (N + 2), hb0, hf0_devices, hf0_links, hf0_order, hF⟩
  · clear H
    clear hf0_devices hf0_links hf0_order hb0 hF
    clear hS
    rintro k7 a w3 ⟨m0_0, m0_1, g3, A4, cap5, hpre0, hS, h6, hb0, hf0_devices, hf0_links, hf0_order, hF⟩
    have H := hpre0
    clear hpre0
    cases k7 with
    | zero => exact absurd H (by simp [runtimepm_Manager_expire.l0])
    | succ k7 =>
      rw [runtimepm_Manager_expire.l0] at H
      obtain ⟨o13, H, Hl14⟩ := bind_el H
      refine c_cut1 (fun a w8 => ∃ (v12 : runtimepm_Manager × (List api_PowerOp)), ∃ (g8 : Nat → Nat), ∃ (A9 : Option Addr), ∃ (cap10 : Nat), o13 = .nxt v12 ∧ Sl 61 a [(0, .pointer (some ⟨b_p0, 0, none⟩)), (1, .int .u64 p1), (5, .slice A9 v12.2.length cap10)] ∧ OwS kd_api_PowerOp 47 w8 g8 (N + 2) A9 cap10 v12.2 ∧ Bx w8 g8 (c0) b_p0 85 [.slice A_devices_p0 v12.1.devices.length cap_devices_p0, .slice A_links_p0 v12.1.links.length cap_links_p0, .slice A_order_p0 v12.1.order.length cap_order_p0, .int .u64 v12.1.now] ∧ OwS kd_runtimepm_device 88 w8 g8 (c0 + 1) A_devices_p0 cap_devices_p0 v12.1.devices ∧ OwS kd_api_Link 67 w8 g8 (c0 + 3) A_links_p0 cap_links_p0 v12.1.links ∧ OwS (kint .i64) 3 w8 g8 (c0 + 5) A_order_p0 cap_order_p0 v12.1.order ∧ Fr (fun q => (c0 ≤ q ∧ q < c0 + 7) ∨ (r0 ≤ q ∧ q < r0 + 2) ∨ N ≤ q) w g w8 g8) ?_ ?_
      · refine wp_block ?_
        obtain ⟨r16, hr17, H⟩ := bind_el H
        refine c_region (fun K hK => ?_)
        refine st_val hS rfl rfl rfl (r_move hS rfl rfl) fun a15 hS15 => ?_
        refine st_enter hS15 rfl rfl rfl (r_call hS15 rfl rfl (by kernel_rfl)) (runtimepm_Manager_next.calls (c0 := c0) (b_p0 := b_p0) (A_devices_p0 := A_devices_p0) (cap_devices_p0 := cap_devices_p0) (A_links_p0 := A_links_p0) (cap_links_p0 := cap_links_p0) (A_order_p0 := A_order_p0) (cap_order_p0 := cap_order_p0) (p0 := m0_0) (g := g3) (N + 4)  ⟨hb0, hf0_devices, hf0_links, hf0_order⟩ (by omega) hr17) ?_
        rintro _ a18 w19 ⟨g19, rfl, F19⟩ hS18
        replace h6 := OwS.fr h6 F19 (fun c' hc (hm : N + 4 ≤ c') => by omega)
        replace hb0 := hb0.fr F19 (fun (hm : N + 4 ≤ c0) => by omega)
        replace hf0_devices := OwS.fr hf0_devices F19 (fun c' hc (hm : N + 4 ≤ c') => by omega)
        replace hf0_links := OwS.fr hf0_links F19 (fun c' hc (hm : N + 4 ≤ c') => by omega)
        replace hf0_order := OwS.fr hf0_order F19 (fun c' hc (hm : N + 4 ≤ c') => by omega)
        replace hF := hF.trans F19 (fun c' (hm : N + 4 ≤ c') => by show (c0 ≤ c' ∧ c' < c0 + 7) ∨ (r0 ≤ c' ∧ c' < r0 + 2) ∨ N ≤ c'; omega)
        refine st_val hS18 rfl rfl rfl (r_move hS18 rfl rfl) fun a20 hS20 => st_val hS20 rfl rfl rfl (r_extract hS20 rfl rfl rfl) fun a21 hS21 => st_val hS21 rfl rfl rfl (r_extract hS21 rfl rfl rfl) fun a22 hS22 => st_val hS22 rfl rfl rfl (r_assign hS22 rfl rfl) fun a23 hS23 => st_val hS23 rfl rfl rfl (r_assign hS23 rfl rfl) fun a24 hS24 => wpList_nil (hK _ _ ?_)
        replace hS : Sl 61 _ [(0, .pointer (some ⟨b_p0, 0, none⟩)), (1, .int .u64 p1), (5, .slice A4 m0_1.length cap5), (6, .int .i64 r16.1), (7, .int .u64 r16.2)] := hS24.re ⟨rfl, rfl, rfl, rfl, rfl, trivial⟩
        clear hK K
        try clear hS15 hS18 hS20 hS21 hS22 hS23 hS24
        obtain ⟨a, ha⟩ : ∃ a', a' = a24 := ⟨_, rfl⟩
        rw [← ha] at hS ⊢; clear ha
        refine wp_seq ?_
        refine c_region (fun K hK => ?_)
        refine st_val hS rfl rfl rfl (r_move hS rfl rfl) fun a25 hS25 => st_val hS25 rfl rfl rfl (r_bin hS25 rfl rfl rfl b_lss) fun a26 hS26 => st_val hS26 rfl rfl rfl (r_move hS26 rfl rfl) fun a27 hS27 => ?_
        refine g_join (N := 61) 4 [(0, .pointer (some ⟨b_p0, 0, none⟩)), (1, .int .u64 p1), (5, .slice A4 m0_1.length cap5), (6, .int .i64 r16.1), (7, .int .u64 r16.2), (21, .bool ((decide (r16.1 < 0)) || (decide (p1 < r16.2))))] ?_ (fun hk => ?_)
        rotate_left
        · rcases Bool.eq_false_or_eq_true (decide (r16.1 < 0)) with hb28 | hb28
          · refine st_off hS27 (want_off hS27 rfl rfl rfl hb28) rfl rfl fun a32 hS32 => st_off hS32 (want_off hS32 rfl rfl rfl hb28) rfl rfl fun a33 hS33 => st_off hS33 (want_off hS33 rfl rfl rfl hb28) rfl rfl fun a34 hS34 => st_val hS34 rfl rfl rfl (r_pickT hS34 rfl rfl rfl hb28) fun a35 hS35 => hk _ (hS35.re ⟨rfl, rfl, rfl, rfl, rfl, (by rw [hb28]; rfl), trivial⟩)
          · refine st_valW hS27 (want_on hS27 rfl rfl rfl hb28) rfl rfl (r_move hS27 rfl rfl) fun a36 hS36 => st_valW hS36 (want_on hS36 rfl rfl rfl hb28) rfl rfl (r_move hS36 rfl rfl) fun a37 hS37 => st_valW hS37 (want_on hS37 rfl rfl rfl hb28) rfl rfl (r_bin hS37 rfl rfl rfl b_gtr) fun a38 hS38 => st_val hS38 rfl rfl rfl (r_pickF hS38 rfl rfl rfl hb28) fun a39 hS39 => hk _ (hS39.re ⟨rfl, rfl, rfl, rfl, rfl, (by rw [hb28]; rfl), trivial⟩)
        intro a40 hS40
        refine wpList_nil (hK _ _ ?_)
        replace hS : Sl 61 _ [(0, .pointer (some ⟨b_p0, 0, none⟩)), (1, .int .u64 p1), (5, .slice A4 m0_1.length cap5), (6, .int .i64 r16.1), (7, .int .u64 r16.2), (21, .bool ((decide (r16.1 < 0)) || (decide (p1 < r16.2))))] := hS40.re ⟨rfl, rfl, rfl, rfl, rfl, rfl, trivial⟩
        clear hK K
        try clear hS25 hS26 hS27 hS40
        obtain ⟨a, ha⟩ : ∃ a', a' = a40 := ⟨_, rfl⟩
        rw [← ha] at hS ⊢; clear ha
        refine c_cond hS rfl (fun hb41 => ?_) (fun hb41 => ?_)
        · replace H := ite_t hb41 H
          refine c_pure [(4, .slice A4 m0_1.length cap5)] (fun R hR => st_val hS rfl rfl rfl (r_move hS rfl rfl) fun a42 hS42 => st_val hS42 rfl rfl rfl (r_assign hS42 rfl rfl) fun a43 hS43 => wpList_nil (hR _ (hS43.re ⟨rfl, trivial⟩))) ?_
          clear hS
          clear a
          intro a hS
          refine wp_ret ?_
          have e := Option.some.inj H
          subst e
          replace H := Fl.go_out Hl14
          have e := Option.some.inj H
          subst e
          have F44 := Fr.recol2 w19 g19 (N + 2) r0
          replace h6 := h6.recol2 r0
          replace hb0 := hb0.fr F44 (fun (hm : c0 = N + 2 ∨ c0 = N + 2 + 1) => by omega)
          replace hf0_devices := OwS.fr hf0_devices F44 (fun c' hc (hm : c' = N + 2 ∨ c' = N + 2 + 1) => by omega)
          replace hf0_links := OwS.fr hf0_links F44 (fun c' hc (hm : c' = N + 2 ∨ c' = N + 2 + 1) => by omega)
          replace hf0_order := OwS.fr hf0_order F44 (fun c' hc (hm : c' = N + 2 ∨ c' = N + 2 + 1) => by omega)
          replace hF := hF.trans F44 (fun c' (hm : c' = N + 2 ∨ c' = N + 2 + 1) => by show (c0 ≤ c' ∧ c' < c0 + 7) ∨ (r0 ≤ c' ∧ c' < r0 + 2) ∨ N ≤ c'; omega)
          repeat (with_reducible first | refine then_ret ?_ | refine inBlock_ret ?_)
          exact c_ret1 hS Try.results48 rfl ⟨_, rfl, (recol2 g19 (N + 2) r0), A4, cap5, rfl, ⟨hb0, hf0_devices, hf0_links, hf0_order⟩, h6, hF⟩
        · replace H := ite_f hb41 H
          refine wp_skip ?_
          change Code.wp _ _ _ _ _
          obtain ⟨x50, hx51, H⟩ := bind_el H
          refine c_region (fun K hK => ?_)
          refine st_val hS rfl rfl rfl (r_move hS rfl rfl) fun a45 hS45 => st_val hS45 rfl rfl rfl (r_nil hS45 rfl rfl) fun a46 hS46 => st_val hS46 rfl rfl rfl (r_fieldB (off := 0) hS46 rfl rfl (by kernel_rfl)) fun a47 hS47 => st_val hS47 rfl rfl rfl (r_load1 (n := 1) hS47 rfl rfl (by kernel_rfl) (Bx.cell hb0 rfl)) fun a48 hS48 => st_val hS48 rfl rfl rfl (r_move hS48 rfl rfl) fun a49 hS49 => ?_
          obtain ⟨_, ⟨A53, cap54, A57, cap58, rfl, h55, h59⟩, hel52⟩ := El.of (OwD.rdx hf0_devices) hx51 (by decide)
          replace hel52 : El w19 g19 (fun q => q = c0 + 1) A_devices_p0 (r16.1.toNat * 6) [.int .u64 x50.delay, .slice A53 x50.suppliers.length cap54, .slice A57 x50.consumers.length cap58, .bool x50.active, .int .i64 x50.count, .int .u64 x50.idle] := hel52
          refine st_val hS49 rfl rfl rfl (r_index (e := 88) (sz := 6) (by_ := 80) hS49 rfl rfl rfl (by kernel_rfl) (RdS.some_ (OwS.rd hf0_devices) hx51) (idx_lo hx51) (idx_hi hx51)) fun a62 hS62 => st_val hS62 rfl rfl rfl (r_fieldE (off := 3) hS62 rfl rfl (by kernel_rfl)) fun a63 hS63 => ?_
          refine st_effS hS63 rfl rfl (e_storeE (n := 1) (bb := false) (kd := kd_runtimepm_device) (j := 3) (x' := ({ x50 with active := false } : runtimepm_device)) (us := [.bool false]) g19 hS63 rfl rfl rfl rfl (by kernel_rfl) rfl rfl (by intro v hv; simp only [List.mem_cons, List.not_mem_nil, or_false] at hv; rcases hv with rfl <;> rfl) hf0_devices hx51 rfl (fun _ _ cs hR => by obtain ⟨A0, cap0, A1, cap1, rfl, h0, h1⟩ := hR; exact ⟨A0, cap0, A1, cap1, rfl, h0, h1⟩)) ?_
          rintro a64 w65 g65 ⟨hf0_devices, F65⟩ hS64
          replace h55 := RdS.fr h55 F65 (by decide) (fun q (hq : q = c0 + 1 + 1) (hm : q = c0 + 1) => by omega)
          replace h59 := RdS.fr h59 F65 (by decide) (fun q (hq : q = c0 + 1 + 1) (hm : q = c0 + 1) => by omega)
          replace h6 := OwS.fr h6 F65 (fun c' hc (hm : c' = c0 + 1) => by omega)
          replace hb0 := hb0.fr F65 (fun (hm : c0 = c0 + 1) => by omega)
          replace hf0_links := OwS.fr hf0_links F65 (fun c' hc (hm : c' = c0 + 1) => by omega)
          replace hf0_order := OwS.fr hf0_order F65 (fun c' hc (hm : c' = c0 + 1) => by omega)
          replace hF := hF.trans F65 (fun c' (hm : c' = c0 + 1) => by show (c0 ≤ c' ∧ c' < c0 + 7) ∨ (r0 ≤ c' ∧ c' < r0 + 2) ∨ N ≤ c'; omega)
          replace hb0 : Bx w65 g65 (c0) b_p0 85 [.slice A_devices_p0 (upd m0_0.devices r16.1 ({ x50 with active := false } : runtimepm_device)).length cap_devices_p0, .slice A_links_p0 m0_0.links.length cap_links_p0, .slice A_order_p0 m0_0.order.length cap_order_p0, .int .u64 m0_0.now] := by simpa only [upd_length] using hb0
          refine wpList_nil (hK _ _ ?_)
          replace hS : Sl 61 _ [(0, .pointer (some ⟨b_p0, 0, none⟩)), (1, .int .u64 p1), (5, .slice A4 m0_1.length cap5), (6, .int .i64 r16.1), (7, .int .u64 r16.2)] := hS64.re ⟨rfl, rfl, rfl, rfl, rfl, trivial⟩
          clear hK K
          try clear hS45 hS46 hS47 hS48 hS49 hS62 hS63 hS64
          obtain ⟨a, ha⟩ : ∃ a', a' = a64 := ⟨_, rfl⟩
          rw [← ha] at hS ⊢; clear ha
          obtain ⟨y75, hy76, H⟩ := bind_el H
          refine c_region (fun K hK => ?_)
          refine st_val hS rfl rfl rfl (r_move hS rfl rfl) fun a66 hS66 => st_val hS66 rfl rfl rfl (r_move hS66 rfl rfl) fun a67 hS67 => st_val hS67 rfl rfl rfl (r_move hS67 rfl rfl) fun a68 hS68 => st_val hS68 rfl rfl rfl (r_build (parts := [(0, .int .i64 r16.1), (2, .int .u64 r16.2)]) (u := .agg #[.int .i64 r16.1, .bool false, .int .u64 r16.2]) hS68 rfl rfl (fun _ => by kernel_rfl)) fun a69 hS69 => ?_
          refine st_eff hS69 rfl rfl rfl (e_lit (e := 47) (parts := [(0, .agg #[.int .i64 r16.1, .bool false, .int .u64 r16.2])]) (cs := [.int .i64 r16.1, .bool false, .int .u64 r16.2]) kd_api_PowerOp [(api_PowerOp.mk r16.1 false r16.2)] (N + 0) g65 hS69 rfl rfl (fun _ => by kernel_rfl) rfl (by decide) (Rows.cons (cs := [.int .i64 r16.1, .bool false, .int .u64 r16.2]) rfl Rows.nil)) ?_
          rintro _ a73 w74 g74 ⟨⟨A70, rfl, h71⟩, F74⟩ hS73
          replace h6 := OwS.fr h6 F74 (fun _ _ h => h)
          replace hb0 := hb0.fr F74 (fun h => h)
          replace hf0_devices := OwS.fr hf0_devices F74 (fun _ _ h => h)
          replace hf0_links := OwS.fr hf0_links F74 (fun _ _ h => h)
          replace hf0_order := OwS.fr hf0_order F74 (fun _ _ h => h)
          replace hF := hF.trans F74 (fun _ h => h.elim)
          refine st_eff hS73 rfl rfl rfl (e_append (e := 47) (sz := 3) (by_ := 24) (z := [.int .i64 0, .bool false, .int .u64 0]) (kd := kd_api_PowerOp) g74 hS73 rfl rfl rfl rfl (by kernel_rfl) (by kernel_rfl) rfl rfl rfl rfl h6 (OwD.rdx h71) (fun _ _ _ h => h) hy76) ?_
          rintro _ a81 w82 g82 ⟨⟨A77, cap78, rfl, h79⟩, F82⟩ hS81
          replace h71 := OwS.fr h71 F82 (fun c' hc (hm : c' = N + 2) => by omega)
          replace hb0 := hb0.fr F82 (fun (hm : c0 = N + 2) => by omega)
          replace hf0_devices := OwS.fr hf0_devices F82 (fun c' hc (hm : c' = N + 2) => by omega)
          replace hf0_links := OwS.fr hf0_links F82 (fun c' hc (hm : c' = N + 2) => by omega)
          replace hf0_order := OwS.fr hf0_order F82 (fun c' hc (hm : c' = N + 2) => by omega)
          replace hF := hF.trans F82 (fun c' (hm : c' = N + 2) => by show (c0 ≤ c' ∧ c' < c0 + 7) ∨ (r0 ≤ c' ∧ c' < r0 + 2) ∨ N ≤ c'; omega)
          refine st_val hS81 rfl rfl rfl (r_assign hS81 rfl rfl) fun a83 hS83 => wpList_nil (hK _ _ ?_)
          replace hS : Sl 61 _ [(0, .pointer (some ⟨b_p0, 0, none⟩)), (1, .int .u64 p1), (5, .slice A77 y75.length cap78), (6, .int .i64 r16.1), (7, .int .u64 r16.2)] := hS83.re ⟨rfl, rfl, rfl, rfl, rfl, trivial⟩
          clear hK K
          try clear hS66 hS67 hS68 hS69 hS73 hS81 hS83
          obtain ⟨a, ha⟩ : ∃ a', a' = a83 := ⟨_, rfl⟩
          rw [← ha] at hS ⊢; clear ha
          obtain ⟨x89, hx90, H⟩ := bind_el H
          refine c_region (fun K hK => ?_)
          refine st_val hS rfl rfl rfl (r_move hS rfl rfl) fun a84 hS84 => st_val hS84 rfl rfl rfl (r_nil hS84 rfl rfl) fun a85 hS85 => st_val hS85 rfl rfl rfl (r_fieldB (off := 0) hS85 rfl rfl (by kernel_rfl)) fun a86 hS86 => st_val hS86 rfl rfl rfl (r_load1 (n := 1) hS86 rfl rfl (by kernel_rfl) (Bx.cell hb0 rfl)) fun a87 hS87 => st_val hS87 rfl rfl rfl (r_move hS87 rfl rfl) fun a88 hS88 => ?_
          obtain ⟨_, ⟨A92, cap93, A96, cap97, rfl, h94, h98⟩, hel91⟩ := El.of (OwD.rdx hf0_devices) hx90 (by decide)
          replace hel91 : El w82 g82 (fun q => q = c0 + 1) A_devices_p0 (r16.1.toNat * 6) [.int .u64 x89.delay, .slice A92 x89.suppliers.length cap93, .slice A96 x89.consumers.length cap97, .bool x89.active, .int .i64 x89.count, .int .u64 x89.idle] := hel91
          refine st_val hS88 rfl rfl rfl (r_index (e := 88) (sz := 6) (by_ := 80) hS88 rfl rfl rfl (by kernel_rfl) (RdS.some_ (OwS.rd hf0_devices) hx90) (idx_lo hx90) (idx_hi hx90)) fun a101 hS101 => st_val hS101 rfl rfl rfl (r_fieldE (off := 1) hS101 rfl rfl (by kernel_rfl)) fun a102 hS102 => st_val hS102 rfl rfl rfl (r_load1 (n := 1) hS102 rfl rfl (by kernel_rfl) (El.cell (j := 1) hel91 rfl)) fun a103 hS103 => st_val hS103 rfl rfl rfl (r_len (e := 3) (sz := 1) (by_ := 8) hS103 rfl rfl (by kernel_rfl)) fun a104 hS104 => st_val hS104 rfl rfl rfl (r_move hS104 rfl rfl) fun a105 hS105 => wpList_nil (hK _ _ ?_)
          replace hS : Sl 61 _ [(0, .pointer (some ⟨b_p0, 0, none⟩)), (1, .int .u64 p1), (5, .slice A77 y75.length cap78), (7, .int .u64 r16.2), (43, .slice A92 x89.suppliers.length cap93), (44, .int .i64 (x89.suppliers.length : Int)), (45, .int .i64 0)] := hS105.re ⟨rfl, rfl, rfl, rfl, rfl, rfl, rfl, trivial⟩
          clear hK K
          try clear hS84 hS85 hS86 hS87 hS88 hS101 hS102 hS103 hS104 hS105
          obtain ⟨a, ha⟩ : ∃ a', a' = a105 := ⟨_, rfl⟩
          rw [← ha] at hS ⊢; clear ha
          refine wp_block ?_
          refine wp_loop_ghost (fun kq => fun a w106 => ∃ (m1_0 : runtimepm_Manager), ∃ (m1_1 : Int), ∃ (g106 : Nat → Nat), runtimepm_Manager_expire.l1 r16 y75 x89 kq m1_0 m1_1 = some o13 ∧ Sl 61 a [(0, .pointer (some ⟨b_p0, 0, none⟩)), (1, .int .u64 p1), (5, .slice A77 y75.length cap78), (7, .int .u64 r16.2), (43, .slice A92 x89.suppliers.length cap93), (44, .int .i64 (x89.suppliers.length : Int)), (45, .int .i64 m1_1)] ∧ OwS kd_api_PowerOp 47 w106 g106 (N + 2) A77 cap78 y75 ∧ RdS (kint .i64) w106 g106 (fun q => q = c0 + 1 + 1) A92 cap93 x89.suppliers ∧ Bx w106 g106 (c0) b_p0 85 [.slice A_devices_p0 m1_0.devices.length cap_devices_p0, .slice A_links_p0 m1_0.links.length cap_links_p0, .slice A_order_p0 m1_0.order.length cap_order_p0, .int .u64 m1_0.now] ∧ OwS kd_runtimepm_device 88 w106 g106 (c0 + 1) A_devices_p0 cap_devices_p0 m1_0.devices ∧ OwS kd_api_Link 67 w106 g106 (c0 + 3) A_links_p0 cap_links_p0 m1_0.links ∧ OwS (kint .i64) 3 w106 g106 (c0 + 5) A_order_p0 cap_order_p0 m1_0.order ∧ Fr (fun q => (c0 ≤ q ∧ q < c0 + 7) ∨ (r0 ≤ q ∧ q < r0 + 2) ∨ N ≤ q) w g w106 g106) FUEL ?_ ?_
          · exact ⟨(runtimepm_Manager.mk (upd m0_0.devices r16.1 ({ x50 with active := false } : runtimepm_device)) m0_0.links m0_0.order m0_0.now), 0, g82, H, hS.re ⟨rfl, rfl, rfl, rfl, rfl, rfl, rfl, trivial⟩, h79, h94, hb0, hf0_devices, hf0_links, hf0_order, hF⟩
          · clear H
            clear hf0_devices hf0_links hf0_order hb0 h79 h94 hF
            clear hS
            rintro k107 a w106 ⟨m1_0, m1_1, g106, hpre0, hS, h79, h94, hb0, hf0_devices, hf0_links, hf0_order, hF⟩
            have H := hpre0
            clear hpre0
            cases k107 with
            | zero => exact absurd H (by simp [runtimepm_Manager_expire.l1])
            | succ k107 =>
              rw [runtimepm_Manager_expire.l1] at H
              refine c_pure [(0, .pointer (some ⟨b_p0, 0, none⟩)), (1, .int .u64 p1), (5, .slice A77 y75.length cap78), (7, .int .u64 r16.2), (43, .slice A92 x89.suppliers.length cap93), (44, .int .i64 (x89.suppliers.length : Int)), (45, .int .i64 m1_1), (46, .bool (decide (m1_1 < (x89.suppliers.length : Int))))] (fun R hR => st_val hS rfl rfl rfl (r_bin hS rfl rfl rfl b_lss) fun a108 hS108 => wpList_nil (hR _ (hS108.re ⟨rfl, rfl, rfl, rfl, rfl, rfl, rfl, rfl, trivial⟩))) ?_
              clear hS
              clear a
              intro a hS
              refine c_if hS rfl (fun hb109 => ?_) (fun hb109 => ?_)
              · replace H := ite_t hb109 H
                refine wp_skip ?_
                change Code.wp _ _ _ _ _
                obtain ⟨v111, H, Hl113⟩ := bind_el H
                refine c_cut (fun a w110 => ∃ (g110 : Nat → Nat), Sl 61 a [(0, .pointer (some ⟨b_p0, 0, none⟩)), (1, .int .u64 p1), (5, .slice A77 y75.length cap78), (7, .int .u64 r16.2), (43, .slice A92 x89.suppliers.length cap93), (44, .int .i64 (x89.suppliers.length : Int)), (45, .int .i64 m1_1)] ∧ OwS kd_api_PowerOp 47 w110 g110 (N + 2) A77 cap78 y75 ∧ RdS (kint .i64) w110 g110 (fun q => q = c0 + 1 + 1) A92 cap93 x89.suppliers ∧ Bx w110 g110 (c0) b_p0 85 [.slice A_devices_p0 v111.devices.length cap_devices_p0, .slice A_links_p0 v111.links.length cap_links_p0, .slice A_order_p0 v111.order.length cap_order_p0, .int .u64 v111.now] ∧ OwS kd_runtimepm_device 88 w110 g110 (c0 + 1) A_devices_p0 cap_devices_p0 v111.devices ∧ OwS kd_api_Link 67 w110 g110 (c0 + 3) A_links_p0 cap_links_p0 v111.links ∧ OwS (kint .i64) 3 w110 g110 (c0 + 5) A_order_p0 cap_order_p0 v111.order ∧ Fr (fun q => (c0 ≤ q ∧ q < c0 + 7) ∨ (r0 ≤ q ∧ q < r0 + 2) ∨ N ≤ q) w g w110 g110) ?_ ?_
                · refine wp_block ?_
                  obtain ⟨x114, hx115, H⟩ := bind_el H
                  refine c_pure [(0, .pointer (some ⟨b_p0, 0, none⟩)), (1, .int .u64 p1), (5, .slice A77 y75.length cap78), (7, .int .u64 r16.2), (9, .int .i64 x114), (43, .slice A92 x89.suppliers.length cap93), (44, .int .i64 (x89.suppliers.length : Int)), (45, .int .i64 m1_1)] (fun R hR => st_val hS rfl rfl rfl (r_index (e := 3) (sz := 1) (by_ := 8) hS rfl rfl rfl (by kernel_rfl) (RdS.some_ h94 hx115) (idx_lo hx115) (idx_hi hx115)) fun a116 hS116 => st_val hS116 rfl rfl rfl (r_load1 (n := 1) hS116 rfl rfl (by kernel_rfl) (RdS.cell (i := m1_1) (sz := 1) (j := 0) h94 hx115 rfl)) fun a117 hS117 => st_val hS117 rfl rfl rfl (r_assign hS117 rfl rfl) fun a118 hS118 => wpList_nil (hR _ (hS118.re ⟨rfl, rfl, rfl, rfl, rfl, rfl, rfl, rfl, trivial⟩))) ?_
                  clear hS
                  clear a
                  intro a hS
                  obtain ⟨r121, hr122, H⟩ := bind_el H
                  refine c_region (fun K hK => ?_)
                  refine st_val hS rfl rfl rfl (r_move hS rfl rfl) fun a119 hS119 => st_val hS119 rfl rfl rfl (r_move hS119 rfl rfl) fun a120 hS120 => ?_
                  refine st_enter hS120 rfl rfl rfl (r_call hS120 rfl rfl (by kernel_rfl)) (runtimepm_Manager_isIdle.calls (c0 := c0) (b_p0 := b_p0) (A_devices_p0 := A_devices_p0) (cap_devices_p0 := cap_devices_p0) (A_links_p0 := A_links_p0) (cap_links_p0 := cap_links_p0) (A_order_p0 := A_order_p0) (cap_order_p0 := cap_order_p0) (p0 := m1_0) (p1 := x114) (g := g106) (N + 4)  ⟨hb0, hf0_devices, hf0_links, hf0_order⟩ (by omega) hr122) ?_
                  rintro _ a123 w124 ⟨g124, rfl, F124⟩ hS123
                  replace h79 := OwS.fr h79 F124 (fun c' hc (hm : N + 4 ≤ c') => by omega)
                  replace h94 := RdS.fr h94 F124 (by decide) (fun q (hq : q = c0 + 1 + 1) (hm : N + 4 ≤ q) => by omega)
                  replace hb0 := hb0.fr F124 (fun (hm : N + 4 ≤ c0) => by omega)
                  replace hf0_devices := OwS.fr hf0_devices F124 (fun c' hc (hm : N + 4 ≤ c') => by omega)
                  replace hf0_links := OwS.fr hf0_links F124 (fun c' hc (hm : N + 4 ≤ c') => by omega)
                  replace hf0_order := OwS.fr hf0_order F124 (fun c' hc (hm : N + 4 ≤ c') => by omega)
                  replace hF := hF.trans F124 (fun c' (hm : N + 4 ≤ c') => by show (c0 ≤ c' ∧ c' < c0 + 7) ∨ (r0 ≤ c' ∧ c' < r0 + 2) ∨ N ≤ c'; omega)
                  refine wpList_nil (hK _ _ ?_)
                  replace hS : Sl 61 _ [(0, .pointer (some ⟨b_p0, 0, none⟩)), (1, .int .u64 p1), (5, .slice A77 y75.length cap78), (7, .int .u64 r16.2), (9, .int .i64 x114), (43, .slice A92 x89.suppliers.length cap93), (44, .int .i64 (x89.suppliers.length : Int)), (45, .int .i64 m1_1), (51, .bool r121)] := hS123.re ⟨rfl, rfl, rfl, rfl, rfl, rfl, rfl, rfl, rfl, trivial⟩
                  clear hK K
                  try clear hS119 hS120 hS123
                  obtain ⟨a, ha⟩ : ∃ a', a' = a123 := ⟨_, rfl⟩
                  rw [← ha] at hS ⊢; clear ha
                  refine c_cond hS rfl (fun hb125 => ?_) (fun hb125 => ?_)
                  · replace H := ite_t hb125 H
                    obtain ⟨x132, hx133, H⟩ := bind_el H
                    refine c_region1 (fun K hK => ?_)
                    refine st_val hS rfl rfl rfl (r_move hS rfl rfl) fun a126 hS126 => st_val hS126 rfl rfl rfl (r_nil hS126 rfl rfl) fun a127 hS127 => st_val hS127 rfl rfl rfl (r_fieldB (off := 0) hS127 rfl rfl (by kernel_rfl)) fun a128 hS128 => st_val hS128 rfl rfl rfl (r_load1 (n := 1) hS128 rfl rfl (by kernel_rfl) (Bx.cell hb0 rfl)) fun a129 hS129 => st_val hS129 rfl rfl rfl (r_move hS129 rfl rfl) fun a130 hS130 => st_val hS130 rfl rfl rfl (r_move hS130 rfl rfl) fun a131 hS131 => ?_
                    obtain ⟨_, ⟨A135, cap136, A139, cap140, rfl, h137, h141⟩, hel134⟩ := El.of (OwD.rdx hf0_devices) hx133 (by decide)
                    replace hel134 : El w124 g124 (fun q => q = c0 + 1) A_devices_p0 (x114.toNat * 6) [.int .u64 x132.delay, .slice A135 x132.suppliers.length cap136, .slice A139 x132.consumers.length cap140, .bool x132.active, .int .i64 x132.count, .int .u64 x132.idle] := hel134
                    refine st_val hS131 rfl rfl rfl (r_index (e := 88) (sz := 6) (by_ := 80) hS131 rfl rfl rfl (by kernel_rfl) (RdS.some_ (OwS.rd hf0_devices) hx133) (idx_lo hx133) (idx_hi hx133)) fun a144 hS144 => st_val hS144 rfl rfl rfl (r_fieldE (off := 5) hS144 rfl rfl (by kernel_rfl)) fun a145 hS145 => ?_
                    refine st_effS hS145 rfl rfl (e_storeE (n := 1) (bb := false) (kd := kd_runtimepm_device) (j := 5) (x' := ({ x132 with idle := r16.2 } : runtimepm_device)) (us := [.int .u64 r16.2]) g124 hS145 rfl rfl rfl rfl (by kernel_rfl) rfl rfl (by intro v hv; simp only [List.mem_cons, List.not_mem_nil, or_false] at hv; rcases hv with rfl <;> rfl) hf0_devices hx133 rfl (fun _ _ cs hR => by obtain ⟨A0, cap0, A1, cap1, rfl, h0, h1⟩ := hR; exact ⟨A0, cap0, A1, cap1, rfl, h0, h1⟩)) ?_
                    rintro a146 w147 g147 ⟨hf0_devices, F147⟩ hS146
                    replace h137 := RdS.fr h137 F147 (by decide) (fun q (hq : q = c0 + 1 + 1) (hm : q = c0 + 1) => by omega)
                    replace h141 := RdS.fr h141 F147 (by decide) (fun q (hq : q = c0 + 1 + 1) (hm : q = c0 + 1) => by omega)
                    replace h79 := OwS.fr h79 F147 (fun c' hc (hm : c' = c0 + 1) => by omega)
                    replace h94 := RdS.fr h94 F147 (by decide) (fun q (hq : q = c0 + 1 + 1) (hm : q = c0 + 1) => by omega)
                    replace hb0 := hb0.fr F147 (fun (hm : c0 = c0 + 1) => by omega)
                    replace hf0_links := OwS.fr hf0_links F147 (fun c' hc (hm : c' = c0 + 1) => by omega)
                    replace hf0_order := OwS.fr hf0_order F147 (fun c' hc (hm : c' = c0 + 1) => by omega)
                    replace hF := hF.trans F147 (fun c' (hm : c' = c0 + 1) => by show (c0 ≤ c' ∧ c' < c0 + 7) ∨ (r0 ≤ c' ∧ c' < r0 + 2) ∨ N ≤ c'; omega)
                    replace hb0 : Bx w147 g147 (c0) b_p0 85 [.slice A_devices_p0 (upd m1_0.devices x114 ({ x132 with idle := r16.2 } : runtimepm_device)).length cap_devices_p0, .slice A_links_p0 m1_0.links.length cap_links_p0, .slice A_order_p0 m1_0.order.length cap_order_p0, .int .u64 m1_0.now] := by simpa only [upd_length] using hb0
                    refine wpList_nil (hK _ _ ?_)
                    replace hS : Sl 61 _ [(0, .pointer (some ⟨b_p0, 0, none⟩)), (1, .int .u64 p1), (5, .slice A77 y75.length cap78), (7, .int .u64 r16.2), (43, .slice A92 x89.suppliers.length cap93), (44, .int .i64 (x89.suppliers.length : Int)), (45, .int .i64 m1_1)] := hS146.re ⟨rfl, rfl, rfl, rfl, rfl, rfl, rfl, trivial⟩
                    clear hK K
                    try clear hS126 hS127 hS128 hS129 hS130 hS131 hS144 hS145 hS146
                    obtain ⟨a, ha⟩ : ∃ a', a' = a146 := ⟨_, rfl⟩
                    rw [← ha] at hS ⊢; clear ha
                    have e := Option.some.inj H
                    subst e
                    exact ⟨g147, hS.re ⟨rfl, rfl, rfl, rfl, rfl, rfl, rfl, trivial⟩, h79, h94, hb0, hf0_devices, hf0_links, hf0_order, hF⟩
                  · replace H := ite_f hb125 H
                    refine wp_skip ?_
                    have e := Option.some.inj H
                    subst e
                    exact ⟨g124, hS.re ⟨rfl, rfl, rfl, rfl, rfl, rfl, rfl, trivial⟩, h79, h94, hb0, hf0_devices, hf0_links, hf0_order, hF⟩
                · clear H
                  clear hf0_devices hf0_links hf0_order hb0 h79 h94 hF
                  clear hS
                  rintro a w110 ⟨g110, hS, h79, h94, hb0, hf0_devices, hf0_links, hf0_order, hF⟩
                  have H := Hl113
                  clear Hl113
                  refine c_pure1 [(0, .pointer (some ⟨b_p0, 0, none⟩)), (1, .int .u64 p1), (5, .slice A77 y75.length cap78), (7, .int .u64 r16.2), (43, .slice A92 x89.suppliers.length cap93), (44, .int .i64 (x89.suppliers.length : Int)), (45, .int .i64 (wi (m1_1 + 1)))] (fun R hR => st_val hS rfl rfl rfl (r_bin hS rfl rfl rfl b_add) fun a148 hS148 => st_val hS148 rfl rfl rfl (r_move hS148 rfl rfl) fun a149 hS149 => wpList_nil (hR _ (hS149.re ⟨rfl, rfl, rfl, rfl, rfl, rfl, rfl, trivial⟩))) ?_
                  clear hS
                  clear a
                  intro a hS
                  refine ⟨k107, Nat.lt_succ_self _, ?_⟩
                  exact ⟨v111, wi (m1_1 + 1), g110, H, hS.re ⟨rfl, rfl, rfl, rfl, rfl, rfl, rfl, trivial⟩, h79, h94, hb0, hf0_devices, hf0_links, hf0_order, hF⟩
              · replace H := ite_f hb109 H
                refine wp_exit ?_
                have e := Option.some.inj H
                exact ⟨(m1_0, y75), g106, A77, cap78, e.symm, hS.re ⟨rfl, rfl, rfl, trivial⟩, h79, hb0, hf0_devices, hf0_links, hf0_order, hF⟩
      · clear H
        clear hf0_devices hf0_links hf0_order hb0 h6 hF
        clear hS
        rintro a w8 ⟨v12, g8, A9, cap10, hpre0, hS, h11, hb0, hf0_devices, hf0_links, hf0_order, hF⟩
        subst hpre0
        have H := Fl.go_nxt Hl14
        clear Hl14
        refine ⟨k7, Nat.lt_succ_self _, ?_⟩
        exact ⟨v12.1, v12.2, g8, A9, cap10, H, hS.re ⟨rfl, rfl, rfl, trivial⟩, h11, hb0, hf0_devices, hf0_links, hf0_order, hF⟩


end Go.Proofs.Ytcfcffbjdjacfaa.Sim

namespace Go.Proofs.Ytcfcffbjdjacfaa.Sim
open Go
set_option linter.unusedVariables false
set_option linter.unusedSimpArgs false

/-! ### runtimepm_Manager_valid: function 47 -/
def runtimepm_Manager_valid.f (p0 : runtimepm_Manager) (p1 : Int) : Option (Bool) := some ((decide (p0.now ≤ p1)) && (decide (p1 ≤ 1152921504606846976)))
set_option maxRecDepth 100000 in
set_option maxHeartbeats 4000000 in
theorem runtimepm_Manager_valid.calls {p0 : runtimepm_Manager} {c0 : Nat}  {b_p0 : Nat} {A_devices_p0 : Option Addr} {cap_devices_p0 : Nat} {A_links_p0 : Option Addr} {cap_links_p0 : Nat} {A_order_p0 : Option Addr} {cap_order_p0 : Nat} {p1 : Int} {w : World} {g : Nat → Nat} {out : Bool} (N : Nat) (hp0 : runtimepm_Manager_At w g c0 b_p0 A_devices_p0 cap_devices_p0 A_links_p0 cap_links_p0 A_order_p0 cap_order_p0 p0) (hc0 : c0 + 7 ≤ N) (H : runtimepm_Manager_valid.f p0 p1 = some out) :
    Calls Try.prog 47 #[.pointer (some ⟨b_p0, 0, none⟩), .int .u64 p1] w (fun e w' => ∃ v, e = .returned v ∧ ∃ (g' : Nat → Nat), v = .bool out ∧ Fr (fun q => N ≤ q) w g w' g') := by
  unfold runtimepm_Manager_valid.f at H
  refine calls_enter Try.func47 rfl Try.ntmps47 rfl (fun a hS => ?_)
  replace hS : Sl 15 a [(0, .pointer (some ⟨b_p0, 0, none⟩)), (1, .int .u64 p1)] := hS
  have hF : Fr (fun q => N ≤ q) w g w g := Fr.refl _ _ _
  obtain ⟨hb0, hf0_devices, hf0_links, hf0_order⟩ := hp0
  refine c_pure [(0, .pointer (some ⟨b_p0, 0, none⟩)), (1, .int .u64 p1)] (fun R hR => st_val hS rfl rfl rfl (r_assign hS rfl rfl) fun a1 hS1 => wpList_nil (hR _ (hS1.re ⟨rfl, rfl, trivial⟩))) ?_
  clear hS
  clear a
  intro a hS
  refine c_region (fun K hK => ?_)
  refine st_val hS rfl rfl rfl (r_move hS rfl rfl) fun a2 hS2 => st_val hS2 rfl rfl rfl (r_move hS2 rfl rfl) fun a3 hS3 => st_val hS3 rfl rfl rfl (r_nil hS3 rfl rfl) fun a4 hS4 => st_val hS4 rfl rfl rfl (r_fieldB (off := 3) hS4 rfl rfl (by kernel_rfl)) fun a5 hS5 => st_val hS5 rfl rfl rfl (r_load1 (n := 1) hS5 rfl rfl (by kernel_rfl) (Bx.cell hb0 rfl)) fun a6 hS6 => st_val hS6 rfl rfl rfl (r_bin hS6 rfl rfl rfl b_geq) fun a7 hS7 => st_val hS7 rfl rfl rfl (r_move hS7 rfl rfl) fun a8 hS8 => ?_
  refine g_join (N := 15) 3 [(14, .bool ((decide (p0.now ≤ p1)) && (decide (p1 ≤ 1152921504606846976))))] ?_ (fun hk => ?_)
  rotate_left
  · rcases Bool.eq_false_or_eq_true (decide (p0.now ≤ p1)) with hb9 | hb9
    · refine st_valW hS8 (want_on hS8 rfl rfl rfl hb9) rfl rfl (r_move hS8 rfl rfl) fun a12 hS12 => st_valW hS12 (want_on hS12 rfl rfl rfl hb9) rfl rfl (r_bin hS12 rfl rfl rfl b_leq) fun a13 hS13 => st_val hS13 rfl rfl rfl (r_pickT hS13 rfl rfl rfl hb9) fun a14 hS14 => hk _ (hS14.re ⟨(by rw [hb9]; rfl), trivial⟩)
    · refine st_off hS8 (want_off hS8 rfl rfl rfl hb9) rfl rfl fun a15 hS15 => st_off hS15 (want_off hS15 rfl rfl rfl hb9) rfl rfl fun a16 hS16 => st_val hS16 rfl rfl rfl (r_pickF hS16 rfl rfl rfl hb9) fun a17 hS17 => hk _ (hS17.re ⟨(by rw [hb9]; rfl), trivial⟩)
  intro a18 hS18
  refine st_val hS18 rfl rfl rfl (r_assign hS18 rfl rfl) fun a19 hS19 => wpList_nil (hK _ _ ?_)
  replace hS : Sl 15 _ [(4, .bool ((decide (p0.now ≤ p1)) && (decide (p1 ≤ 1152921504606846976))))] := hS19.re ⟨rfl, trivial⟩
  clear hK K
  try clear hS2 hS3 hS4 hS5 hS6 hS7 hS8 hS18 hS19
  obtain ⟨a, ha⟩ : ∃ a', a' = a19 := ⟨_, rfl⟩
  rw [← ha] at hS ⊢; clear ha
  refine wp_ret ?_
  have e := Option.some.inj H
  subst e
  repeat (with_reducible first | refine then_ret ?_ | refine inBlock_ret ?_)
  exact c_ret1 hS Try.results47 rfl ⟨_, rfl, g, rfl, hF⟩


end Go.Proofs.Ytcfcffbjdjacfaa.Sim

namespace Go.Proofs.Ytcfcffbjdjacfaa.Sim
open Go
set_option linter.unusedVariables false
set_option linter.unusedSimpArgs false

/-! ### runtimepm_Manager_Advance: function 22 -/
def runtimepm_Manager_Advance.f (p0 : runtimepm_Manager) (p1 : Int) : Option (runtimepm_Manager × (List api_PowerOp) × Int) := (runtimepm_Manager_valid.f p0 p1).bind fun r5 => if (!r5) = true then (some (p0, [], 1)) else ((runtimepm_Manager_expire.f (runtimepm_Manager.mk p0.devices p0.links p0.order p1) p1).bind fun r21 => some (r21.1, r21.2, 0))
set_option maxRecDepth 100000 in
set_option maxHeartbeats 4000000 in
theorem runtimepm_Manager_Advance.calls {p0 : runtimepm_Manager} {c0 : Nat}  {b_p0 : Nat} {A_devices_p0 : Option Addr} {cap_devices_p0 : Nat} {A_links_p0 : Option Addr} {cap_links_p0 : Nat} {A_order_p0 : Option Addr} {cap_order_p0 : Nat} {p1 : Int} {w : World} {g : Nat → Nat} {out : runtimepm_Manager × (List api_PowerOp) × Int} (N : Nat) (r0 : Nat) (hp0 : runtimepm_Manager_At w g c0 b_p0 A_devices_p0 cap_devices_p0 A_links_p0 cap_links_p0 A_order_p0 cap_order_p0 p0) (hc0 : c0 + 7 ≤ N) (hr0 : r0 + 2 ≤ N) (hq0_0 : r0 + 2 ≤ c0 ∨ c0 + 7 ≤ r0) (H : runtimepm_Manager_Advance.f p0 p1 = some out) :
    Calls Try.prog 22 #[.pointer (some ⟨b_p0, 0, none⟩), .int .u64 p1] w (fun e w' => ∃ v, e = .returned v ∧ ∃ (g' : Nat → Nat) (A_r0 : Option Addr) (cap_r0 : Nat), v = .tuple #[.slice A_r0 out.2.1.length cap_r0, .int .i64 out.2.2] ∧ runtimepm_Manager_At w' g' c0 b_p0 A_devices_p0 cap_devices_p0 A_links_p0 cap_links_p0 A_order_p0 cap_order_p0 out.1 ∧ OwS kd_api_PowerOp 47 w' g' r0 A_r0 cap_r0 out.2.1 ∧ Fr (fun q => (c0 ≤ q ∧ q < c0 + 7) ∨ (r0 ≤ q ∧ q < r0 + 2) ∨ N ≤ q) w g w' g') := by
  unfold runtimepm_Manager_Advance.f at H
  refine calls_enter Try.func22 rfl Try.ntmps22 rfl (fun a hS => ?_)
  replace hS : Sl 17 a [(0, .pointer (some ⟨b_p0, 0, none⟩)), (1, .int .u64 p1)] := hS
  have hF : Fr (fun q => (c0 ≤ q ∧ q < c0 + 7) ∨ (r0 ≤ q ∧ q < r0 + 2) ∨ N ≤ q) w g w g := Fr.refl _ _ _
  obtain ⟨hb0, hf0_devices, hf0_links, hf0_order⟩ := hp0
  refine c_pure [(0, .pointer (some ⟨b_p0, 0, none⟩)), (1, .int .u64 p1)] (fun R hR => st_val hS rfl rfl rfl (r_assign hS rfl rfl) fun a1 hS1 => st_val hS1 rfl rfl rfl (r_assign hS1 rfl rfl) fun a2 hS2 => wpList_nil (hR _ (hS2.re ⟨rfl, rfl, trivial⟩))) ?_
  clear hS
  clear a
  intro a hS
  refine wp_seq ?_
  obtain ⟨r5, hr6, H⟩ := bind_el H
  refine c_region (fun K hK => ?_)
  refine st_val hS rfl rfl rfl (r_move hS rfl rfl) fun a3 hS3 => st_val hS3 rfl rfl rfl (r_move hS3 rfl rfl) fun a4 hS4 => ?_
  refine st_enter hS4 rfl rfl rfl (r_call hS4 rfl rfl (by kernel_rfl)) (runtimepm_Manager_valid.calls (c0 := c0) (b_p0 := b_p0) (A_devices_p0 := A_devices_p0) (cap_devices_p0 := cap_devices_p0) (A_links_p0 := A_links_p0) (cap_links_p0 := cap_links_p0) (A_order_p0 := A_order_p0) (cap_order_p0 := cap_order_p0) (p0 := p0) (p1 := p1) (g := g) (N + 2)  ⟨hb0, hf0_devices, hf0_links, hf0_order⟩ (by omega) hr6) ?_
  rintro _ a7 w8 ⟨g8, rfl, F8⟩ hS7
  replace hb0 := hb0.fr F8 (fun (hm : N + 2 ≤ c0) => by omega)
  replace hf0_devices := OwS.fr hf0_devices F8 (fun c' hc (hm : N + 2 ≤ c') => by omega)
  replace hf0_links := OwS.fr hf0_links F8 (fun c' hc (hm : N + 2 ≤ c') => by omega)
  replace hf0_order := OwS.fr hf0_order F8 (fun c' hc (hm : N + 2 ≤ c') => by omega)
  replace hF := hF.trans F8 (fun c' (hm : N + 2 ≤ c') => by show (c0 ≤ c' ∧ c' < c0 + 7) ∨ (r0 ≤ c' ∧ c' < r0 + 2) ∨ N ≤ c'; omega)
  refine st_val hS7 rfl rfl rfl (r_not hS7 rfl rfl) fun a9 hS9 => wpList_nil (hK _ _ ?_)
  replace hS : Sl 17 _ [(0, .pointer (some ⟨b_p0, 0, none⟩)), (1, .int .u64 p1), (9, .bool (!r5))] := hS9.re ⟨rfl, rfl, rfl, trivial⟩
  clear hK K
  try clear hS3 hS4 hS7 hS9
  obtain ⟨a, ha⟩ : ∃ a', a' = a9 := ⟨_, rfl⟩
  rw [← ha] at hS ⊢; clear ha
  refine c_cond hS rfl (fun hb10 => ?_) (fun hb10 => ?_)
  · replace H := ite_t hb10 H
    refine c_pure [(4, .slice none 0 0), (5, .int .i64 1)] (fun R hR => st_val hS rfl rfl rfl (r_assign hS rfl rfl) fun a11 hS11 => st_val hS11 rfl rfl rfl (r_assign hS11 rfl rfl) fun a12 hS12 => wpList_nil (hR _ (hS12.re ⟨rfl, rfl, trivial⟩))) ?_
    clear hS
    clear a
    intro a hS
    refine wp_ret ?_
    have e := Option.some.inj H
    subst e
    repeat (with_reducible first | refine then_ret ?_ | refine inBlock_ret ?_)
    exact c_ret2 hS Try.results22 rfl rfl ⟨_, rfl, g8, none, 0, rfl, ⟨hb0, hf0_devices, hf0_links, hf0_order⟩, OwS.nil kd_api_PowerOp 47 w8 g8 r0, hF⟩
  · replace H := ite_f hb10 H
    refine wp_skip ?_
    change Code.wp _ _ _ _ _
    refine c_region (fun K hK => ?_)
    refine st_val hS rfl rfl rfl (r_move hS rfl rfl) fun a13 hS13 => st_val hS13 rfl rfl rfl (r_move hS13 rfl rfl) fun a14 hS14 => st_val hS14 rfl rfl rfl (r_nil hS14 rfl rfl) fun a15 hS15 => st_val hS15 rfl rfl rfl (r_fieldB (off := 3) hS15 rfl rfl (by kernel_rfl)) fun a16 hS16 => ?_
    refine st_effS hS16 rfl rfl (e_storeB (n := 1) (bb := false) (cs' := [.slice A_devices_p0 p0.devices.length cap_devices_p0, .slice A_links_p0 p0.links.length cap_links_p0, .slice A_order_p0 p0.order.length cap_order_p0, .int .u64 p1]) g8 hS16 rfl rfl rfl (by kernel_rfl) rfl rfl rfl hb0 rfl rfl) ?_
    rintro a17 w18 g18 ⟨hb0, F18⟩ hS17
    replace hf0_devices := OwS.fr hf0_devices F18 (fun c' hc (hm : c' = c0) => by omega)
    replace hf0_links := OwS.fr hf0_links F18 (fun c' hc (hm : c' = c0) => by omega)
    replace hf0_order := OwS.fr hf0_order F18 (fun c' hc (hm : c' = c0) => by omega)
    replace hF := hF.trans F18 (fun c' (hm : c' = c0) => by show (c0 ≤ c' ∧ c' < c0 + 7) ∨ (r0 ≤ c' ∧ c' < r0 + 2) ∨ N ≤ c'; omega)
    refine wpList_nil (hK _ _ ?_)
    replace hS : Sl 17 _ [(0, .pointer (some ⟨b_p0, 0, none⟩)), (1, .int .u64 p1)] := hS17.re ⟨rfl, rfl, trivial⟩
    clear hK K
    try clear hS13 hS14 hS15 hS16 hS17
    obtain ⟨a, ha⟩ : ∃ a', a' = a17 := ⟨_, rfl⟩
    rw [← ha] at hS ⊢; clear ha
    obtain ⟨r21, hr22, H⟩ := bind_el H
    refine c_region (fun K hK => ?_)
    refine st_val hS rfl rfl rfl (r_move hS rfl rfl) fun a19 hS19 => st_val hS19 rfl rfl rfl (r_move hS19 rfl rfl) fun a20 hS20 => ?_
    refine st_enter hS20 rfl rfl rfl (r_call hS20 rfl rfl (by kernel_rfl)) (runtimepm_Manager_expire.calls (c0 := c0) (b_p0 := b_p0) (A_devices_p0 := A_devices_p0) (cap_devices_p0 := cap_devices_p0) (A_links_p0 := A_links_p0) (cap_links_p0 := cap_links_p0) (A_order_p0 := A_order_p0) (cap_order_p0 := cap_order_p0) (p0 := (runtimepm_Manager.mk p0.devices p0.links p0.order p1)) (p1 := p1) (g := g18) (N + 2) (N + 0) ⟨hb0, hf0_devices, hf0_links, hf0_order⟩ (by omega) (by omega) (by omega) hr22) ?_
    rintro _ a27 w28 ⟨g28, A23, cap24, rfl, ⟨hb0, hf0_devices, hf0_links, hf0_order⟩, h25, F28⟩ hS27
    replace hF := hF.trans F28 (fun c' (hm : (c0 ≤ c' ∧ c' < c0 + 7) ∨ (N + 0 ≤ c' ∧ c' < N + 0 + 2) ∨ N + 2 ≤ c') => by show (c0 ≤ c' ∧ c' < c0 + 7) ∨ (r0 ≤ c' ∧ c' < r0 + 2) ∨ N ≤ c'; omega)
    refine st_val hS27 rfl rfl rfl (r_assign hS27 rfl rfl) fun a29 hS29 => st_val hS29 rfl rfl rfl (r_assign hS29 rfl rfl) fun a30 hS30 => wpList_nil (hK _ _ ?_)
    replace hS : Sl 17 _ [(4, .slice A23 r21.2.length cap24), (5, .int .i64 0)] := hS30.re ⟨rfl, rfl, trivial⟩
    clear hK K
    try clear hS19 hS20 hS27 hS29 hS30
    obtain ⟨a, ha⟩ : ∃ a', a' = a30 := ⟨_, rfl⟩
    rw [← ha] at hS ⊢; clear ha
    refine wp_ret ?_
    have e := Option.some.inj H
    subst e
    have F31 := Fr.recol2 w28 g28 (N + 0) r0
    replace h25 := h25.recol2 r0
    replace hb0 := hb0.fr F31 (fun (hm : c0 = N + 0 ∨ c0 = N + 0 + 1) => by omega)
    replace hf0_devices := OwS.fr hf0_devices F31 (fun c' hc (hm : c' = N + 0 ∨ c' = N + 0 + 1) => by omega)
    replace hf0_links := OwS.fr hf0_links F31 (fun c' hc (hm : c' = N + 0 ∨ c' = N + 0 + 1) => by omega)
    replace hf0_order := OwS.fr hf0_order F31 (fun c' hc (hm : c' = N + 0 ∨ c' = N + 0 + 1) => by omega)
    replace hF := hF.trans F31 (fun c' (hm : c' = N + 0 ∨ c' = N + 0 + 1) => by show (c0 ≤ c' ∧ c' < c0 + 7) ∨ (r0 ≤ c' ∧ c' < r0 + 2) ∨ N ≤ c'; omega)
    repeat (with_reducible first | refine then_ret ?_ | refine inBlock_ret ?_)
    exact c_ret2 hS Try.results22 rfl rfl ⟨_, rfl, (recol2 g28 (N + 0) r0), A23, cap24, rfl, ⟨hb0, hf0_devices, hf0_links, hf0_order⟩, h25, hF⟩


end Go.Proofs.Ytcfcffbjdjacfaa.Sim

namespace Go.Proofs.Ytcfcffbjdjacfaa.Sim
open Go
set_option linter.unusedVariables false
set_option linter.unusedSimpArgs false

/-! ### depgraph_adjacent: function 57 -/
def depgraph_adjacent.l0 (p1 : List api_Link) : Nat → (List (List Int)) → (List Int) → Int → Option ((List (List Int)) × (List Int))
  | 0, _, _, _ => none
  | k100 + 1, m0_0, m0_1, m0_2 => if decide (m0_2 < (p1.length : Int)) = true then ((idx p1 m0_2).bind fun x103 => (idx m0_0 x103.Supplier).bind fun x114 => (app x114 [x103.Consumer]).bind fun y125 => (idx m0_1 x103.Consumer).bind fun x159 => depgraph_adjacent.l0 p1 k100 (upd m0_0 x103.Supplier y125) (upd m0_1 x103.Consumer (wi (x159 + 1))) (wi (m0_2 + 1))) else (some (m0_0, m0_1))
def depgraph_adjacent.f (p0 : Int) (p1 : List api_Link) : Option ((List (List Int)) × (List Int)) := (mk p0 ([] : List Int)).bind fun y3 => (mk p0 0).bind fun y10 => (depgraph_adjacent.l0 p1 FUEL y3 y10 0 : Option ((List (List Int)) × (List Int))).bind fun v92 => some (v92.1, v92.2)
set_option maxRecDepth 100000 in
set_option maxHeartbeats 4000000 in
theorem depgraph_adjacent.calls {p0 : Int} {p1 : List api_Link} {A1 : Option Addr} {cap1 : Nat} {C1 : Nat → Prop} {w : World} {g : Nat → Nat} {out : (List (List Int)) × (List Int)} (N : Nat) (r0 : Nat) (r1 : Nat) (hp1 : RdS kd_api_Link w g C1 A1 cap1 p1) (hC1 : ∀ c, C1 c → c < N) (hr0 : r0 + 2 ≤ N) (hr1 : r1 + 2 ≤ N) (ht1_0 : r1 + 2 ≤ r0 ∨ r0 + 2 ≤ r1) (H : depgraph_adjacent.f p0 p1 = some out) :
    Calls Try.prog 57 #[.int .i64 p0, .slice A1 p1.length cap1] w (fun e w' => ∃ v, e = .returned v ∧ ∃ (g' : Nat → Nat) (A_r0 : Option Addr) (cap_r0 : Nat) (A_r1 : Option Addr) (cap_r1 : Nat), v = .tuple #[.slice A_r0 out.1.length cap_r0, .slice A_r1 out.2.length cap_r1] ∧ OwS (kslice (kint .i64) (by decide)) 27 w' g' r0 A_r0 cap_r0 out.1 ∧ OwS (kint .i64) 3 w' g' r1 A_r1 cap_r1 out.2 ∧ Fr (fun q => (r0 ≤ q ∧ q < r0 + 2) ∨ (r1 ≤ q ∧ q < r1 + 2) ∨ N ≤ q) w g w' g') := by
  unfold depgraph_adjacent.f at H
  refine calls_enter Try.func57 rfl Try.ntmps57 rfl (fun a hS => ?_)
  replace hS : Sl 41 a [(0, .int .i64 p0), (1, .slice A1 p1.length cap1)] := hS
  have hF : Fr (fun q => (r0 ≤ q ∧ q < r0 + 2) ∨ (r1 ≤ q ∧ q < r1 + 2) ∨ N ≤ q) w g w g := Fr.refl _ _ _
  refine c_pure [(0, .int .i64 p0), (1, .slice A1 p1.length cap1)] (fun R hR => st_val hS rfl rfl rfl (r_assign hS rfl rfl) fun a1 hS1 => st_val hS1 rfl rfl rfl (r_assign hS1 rfl rfl) fun a2 hS2 => wpList_nil (hR _ (hS2.re ⟨rfl, rfl, trivial⟩))) ?_
  clear hS
  clear a
  intro a hS
  obtain ⟨y3, hy4, H⟩ := bind_el H
  obtain ⟨y10, hy11, H⟩ := bind_el H
  refine c_cut (fun a w49 => ∃ (g49 : Nat → Nat), ∃ (hs53 : List (Option Addr × Nat)), ∃ (A50 : Option Addr), ∃ (cap51 : Nat), ∃ (A54 : Option Addr), ∃ (cap55 : Nat), Sl 41 a [(1, .slice A1 p1.length cap1), (4, .slice A50 y3.length cap51), (5, .slice A54 y10.length cap55)] ∧ OwM (kint .i64) 27 3 w49 g49 (N + 0) A50 cap51 hs53 y3 (fun _ => False) ∧ OwS (kint .i64) 3 w49 g49 (N + 3) A54 cap55 y10 ∧ RdS kd_api_Link w49 g49 C1 A1 cap1 p1 ∧ Fr (fun q => (r0 ≤ q ∧ q < r0 + 2) ∨ (r1 ≤ q ∧ q < r1 + 2) ∨ N ≤ q) w g w49 g49) (d_start (fun q => False) g [] 6 #[false, false, false, false, false, false] (by kernel_rfl) rfl rfl (fun w57 hw57 => ?_)) ?_
  · have F57 : Fr (fun _ => False) w g w57 g := by rw [hw57]; exact Fr.drew _ _ _
    replace hp1 := RdS.fr hp1 F57 (by decide) (fun _ _ h => h)
    replace hF := hF.trans F57 (fun _ h => h.elim)
    have hC : Fr (fun q => False) w57 g w57 g := Fr.refl _ _ _
    refine d_pure hS 0 #[true, false, false, false, false, false] rfl rfl rfl rfl (by kernel_rfl) (fun _ _ _ h => h) (fun _ => (r_move hS rfl rfl)) fun a58 hS58 => d_pure hS58 2 #[true, false, true, false, false, false] rfl rfl rfl rfl (by kernel_rfl) (fun _ _ _ h => h) (fun _ => (r_move hS58 rfl rfl)) fun a59 hS59 => ?_
    refine d_two 1 3 #[true, true, true, false, false, false] #[true, false, true, true, false, false] rfl rfl (by kernel_rfl) (arm_eff hS59 rfl rfl rfl (e_makeM (kint .i64) (e := 27) (sz := 1) (by_ := 24) (E := 3) (N + 0) g hS59 rfl rfl (by kernel_rfl) (by kernel_rfl) rfl rfl hy4) (fun _ _ g' hR _ => ⟨g', hC.trans hR.2 (fun _ h => h.elim)⟩) ?_) (arm_eff hS59 rfl rfl rfl (e_make (e := 3) (sz := 1) (by_ := 8) (z := [.int .i64 0]) (kd := (kint .i64)) (N + 3) g hS59 rfl rfl (by kernel_rfl) (by kernel_rfl) rfl rfl rfl (fun _ _ _ => by exact rfl) hy11) (fun _ _ g' hR _ => ⟨g', hC.trans hR.2 (fun _ h => h.elim)⟩) ?_)
    · rintro _ a65 w66 g66 ⟨⟨A60, cap61, hs62, rfl, h63⟩, F66⟩ hS65
      have hC66 := hC.trans F66 (fun _ h => h.elim)
      replace hp1 := RdS.fr hp1 F66 (by decide) (fun _ _ h => h)
      replace hF := hF.trans F66 (fun _ h => h.elim)
      refine d_pure hS65 4 #[true, true, true, false, true, false] rfl rfl rfl rfl (by kernel_rfl) (fun _ _ _ h => h) (fun _ => (r_assign hS65 rfl rfl)) fun a67 hS67 => ?_
      refine d_one 3 #[true, true, true, true, true, false] rfl (by kernel_rfl) (arm_eff hS67 rfl rfl rfl (e_make (e := 3) (sz := 1) (by_ := 8) (z := [.int .i64 0]) (kd := (kint .i64)) (N + 3) g66 hS67 rfl rfl (by kernel_rfl) (by kernel_rfl) rfl rfl rfl (fun _ _ _ => by exact rfl) hy11) (fun _ _ g' hR _ => ⟨g', hC66.trans hR.2 (fun _ h => h.elim)⟩) ?_)
      rintro _ a72 w73 g73 ⟨⟨A68, cap69, rfl, h70⟩, F73⟩ hS72
      have hC73 := hC66.trans F73 (fun _ h => h.elim)
      replace h63 := OwM.fr h63 F73 (fun h => h) (fun h => h) (fun h => h)
      replace hp1 := RdS.fr hp1 F73 (by decide) (fun _ _ h => h)
      replace hF := hF.trans F73 (fun _ h => h.elim)
      refine d_pure hS72 5 #[true, true, true, true, true, true] rfl rfl rfl rfl (by kernel_rfl) (fun _ _ _ h => h) (fun _ => (r_assign hS72 rfl rfl)) fun a74 hS74 => d_done (by kernel_rfl) ?_
      exact ⟨g73, hs62, A60, cap61, A68, cap69, hS74.re ⟨rfl, rfl, rfl, trivial⟩, h63, h70, hp1, hF⟩
    · rintro _ a79 w80 g80 ⟨⟨A75, cap76, rfl, h77⟩, F80⟩ hS79
      have hC80 := hC.trans F80 (fun _ h => h.elim)
      replace hp1 := RdS.fr hp1 F80 (by decide) (fun _ _ h => h)
      replace hF := hF.trans F80 (fun _ h => h.elim)
      refine d_one 1 #[true, true, true, true, false, false] rfl (by kernel_rfl) (arm_eff hS79 rfl rfl rfl (e_makeM (kint .i64) (e := 27) (sz := 1) (by_ := 24) (E := 3) (N + 0) g80 hS79 rfl rfl (by kernel_rfl) (by kernel_rfl) rfl rfl hy4) (fun _ _ g' hR _ => ⟨g', hC80.trans hR.2 (fun _ h => h.elim)⟩) ?_)
      rintro _ a86 w87 g87 ⟨⟨A81, cap82, hs83, rfl, h84⟩, F87⟩ hS86
      have hC87 := hC80.trans F87 (fun _ h => h.elim)
      replace h77 := OwS.fr h77 F87 (fun _ _ h => h)
      replace hp1 := RdS.fr hp1 F87 (by decide) (fun _ _ h => h)
      replace hF := hF.trans F87 (fun _ h => h.elim)
      refine d_pure hS86 4 #[true, true, true, true, true, false] rfl rfl rfl rfl (by kernel_rfl) (fun _ _ _ h => h) (fun _ => (r_assign hS86 rfl rfl)) fun a88 hS88 => d_pure hS88 5 #[true, true, true, true, true, true] rfl rfl rfl rfl (by kernel_rfl) (fun _ _ _ h => h) (fun _ => (r_assign hS88 rfl rfl)) fun a89 hS89 => d_done (by kernel_rfl) ?_
      exact ⟨g87, hs83, A81, cap82, A75, cap76, hS89.re ⟨rfl, rfl, rfl, trivial⟩, h84, h77, hp1, hF⟩
  clear hp1 hF
  clear hS
  rintro a w49 ⟨g49, hs53, A50, cap51, A54, cap55, hS, h52, h56, hp1, hF⟩
  obtain ⟨v92, H, Hl94⟩ := bind_el H
  refine c_cut (fun a w90 => ∃ (g90 : Nat → Nat), ∃ (hs91 : List (Option Addr × Nat)), Sl 41 a [(4, .slice A50 v92.1.length cap51), (5, .slice A54 v92.2.length cap55)] ∧ OwM (kint .i64) 27 3 w90 g90 (N + 0) A50 cap51 hs91 v92.1 (fun _ => False) ∧ OwS (kint .i64) 3 w90 g90 (N + 3) A54 cap55 v92.2 ∧ Fr (fun q => (r0 ≤ q ∧ q < r0 + 2) ∨ (r1 ≤ q ∧ q < r1 + 2) ∨ N ≤ q) w g w90 g90) ?_ ?_
  · refine c_pure [(4, .slice A50 y3.length cap51), (5, .slice A54 y10.length cap55), (12, .slice A1 p1.length cap1), (13, .int .i64 (p1.length : Int)), (14, .int .i64 0)] (fun R hR => st_val hS rfl rfl rfl (r_move hS rfl rfl) fun a95 hS95 => st_val hS95 rfl rfl rfl (r_len (e := 67) (sz := 2) (by_ := 16) hS95 rfl rfl (by kernel_rfl)) fun a96 hS96 => st_val hS96 rfl rfl rfl (r_move hS96 rfl rfl) fun a97 hS97 => wpList_nil (hR _ (hS97.re ⟨rfl, rfl, rfl, rfl, rfl, trivial⟩))) ?_
    clear hS
    clear a
    intro a hS
    refine wp_block ?_
    refine wp_loop_ghost (fun kq => fun a w98 => ∃ (m0_0 : List (List Int)), ∃ (m0_1 : List Int), ∃ (m0_2 : Int), ∃ (g98 : Nat → Nat), ∃ (hs99 : List (Option Addr × Nat)), depgraph_adjacent.l0 p1 kq m0_0 m0_1 m0_2 = some v92 ∧ Sl 41 a [(4, .slice A50 m0_0.length cap51), (5, .slice A54 m0_1.length cap55), (12, .slice A1 p1.length cap1), (13, .int .i64 (p1.length : Int)), (14, .int .i64 m0_2)] ∧ OwM (kint .i64) 27 3 w98 g98 (N + 0) A50 cap51 hs99 m0_0 (fun _ => False) ∧ OwS (kint .i64) 3 w98 g98 (N + 3) A54 cap55 m0_1 ∧ RdS kd_api_Link w98 g98 C1 A1 cap1 p1 ∧ Fr (fun q => (r0 ≤ q ∧ q < r0 + 2) ∨ (r1 ≤ q ∧ q < r1 + 2) ∨ N ≤ q) w g w98 g98) FUEL ?_ ?_
    · exact ⟨y3, y10, 0, g49, hs53, H, hS.re ⟨rfl, rfl, rfl, rfl, rfl, trivial⟩, h52, h56, hp1, hF⟩
    · clear H
      clear hp1 h52 h56 hF
      clear hS
      rintro k100 a w98 ⟨m0_0, m0_1, m0_2, g98, hs99, hpre0, hS, h52, h56, hp1, hF⟩
      have H := hpre0
      clear hpre0
      cases k100 with
      | zero => exact absurd H (by simp [depgraph_adjacent.l0])
      | succ k100 =>
        rw [depgraph_adjacent.l0] at H
        refine c_pure [(4, .slice A50 m0_0.length cap51), (5, .slice A54 m0_1.length cap55), (12, .slice A1 p1.length cap1), (13, .int .i64 (p1.length : Int)), (14, .int .i64 m0_2), (15, .bool (decide (m0_2 < (p1.length : Int))))] (fun R hR => st_val hS rfl rfl rfl (r_bin hS rfl rfl rfl b_lss) fun a101 hS101 => wpList_nil (hR _ (hS101.re ⟨rfl, rfl, rfl, rfl, rfl, rfl, trivial⟩))) ?_
        clear hS
        clear a
        intro a hS
        refine c_if hS rfl (fun hb102 => ?_) (fun hb102 => ?_)
        · replace H := ite_t hb102 H
          refine wp_skip ?_
          change Code.wp _ _ _ _ _
          refine wp_seq ?_
          refine wp_block ?_
          obtain ⟨x103, hx104, H⟩ := bind_el H
          refine c_region (fun K hK => ?_)
          refine st_val hS rfl rfl rfl (r_index (e := 67) (sz := 2) (by_ := 16) hS rfl rfl rfl (by kernel_rfl) (RdS.some_ hp1 hx104) (idx_lo hx104) (idx_hi hx104)) fun a105 hS105 => st_val hS105 rfl rfl rfl (r_loadN (n := 2) (cs := [.int .i64 x103.Consumer, .int .i64 x103.Supplier]) hS105 rfl rfl (by kernel_rfl) rfl (RdS.cells_off hp1 hx104 0 2)) fun a106 hS106 => ?_
          refine st_eff hS106 rfl rfl rfl (e_alloc (cs := [.int .i64 0, .int .i64 0]) (N + 5) g98 hS106 rfl (by kernel_rfl)) ?_
          rintro _ a110 w111 g111 ⟨⟨b107, rfl, h108⟩, F111⟩ hS110
          replace h52 := OwM.fr h52 F111 (fun h => h) (fun h => h) (fun h => h)
          replace h56 := OwS.fr h56 F111 (fun _ _ h => h)
          replace hp1 := RdS.fr hp1 F111 (by decide) (fun _ _ h => h)
          replace hF := hF.trans F111 (fun _ h => h.elim)
          refine st_effS hS110 rfl rfl (e_storeB (n := 2) (bb := true) (cs' := [.int .i64 x103.Consumer, .int .i64 x103.Supplier]) g111 hS110 rfl rfl rfl (by kernel_rfl) rfl rfl rfl h108 rfl rfl) ?_
          rintro a112 w113 g113 ⟨h108, F113⟩ hS112
          replace h52 := OwM.fr h52 F113 (fun (hm : N + 0 = N + 5) => by omega) (fun (hm : N + 0 + 1 = N + 5) => by omega) (fun (hm : N + 0 + 2 = N + 5) => by omega)
          replace h56 := OwS.fr h56 F113 (fun c' hc (hm : c' = N + 5) => by omega)
          replace hp1 := RdS.fr hp1 F113 (by decide) (fun q (hq : C1 q) (hm : q = N + 5) => by have := hC1 q hq; omega)
          replace hF := hF.trans F113 (fun c' (hm : c' = N + 5) => by show (r0 ≤ c' ∧ c' < r0 + 2) ∨ (r1 ≤ c' ∧ c' < r1 + 2) ∨ N ≤ c'; omega)
          refine wpList_nil (hK _ _ ?_)
          replace hS : Sl 41 _ [(4, .slice A50 m0_0.length cap51), (5, .slice A54 m0_1.length cap55), (7, .pointer (some ⟨b107, 0, none⟩)), (12, .slice A1 p1.length cap1), (13, .int .i64 (p1.length : Int)), (14, .int .i64 m0_2)] := hS112.re ⟨rfl, rfl, rfl, rfl, rfl, rfl, trivial⟩
          clear hK K
          try clear hS105 hS106 hS110 hS112
          obtain ⟨a, ha⟩ : ∃ a', a' = a112 := ⟨_, rfl⟩
          rw [← ha] at hS ⊢; clear ha
          obtain ⟨x114, hx115, H⟩ := bind_el H
          obtain ⟨h116, hh117⟩ := OwM.hd h52 hx115
          obtain ⟨y125, hy126, H⟩ := bind_el H
          obtain ⟨hN122, hm123, F124⟩ := OwM.take (fun _ _ _ _ _ _ _ _ h => h) h52 hx115 hh117 (N + 9) ⟨by omega, by omega⟩
          clear h52
          replace h108 := h108.fr F124 (fun (hm : N + 5 = N + 0 + 1) => by omega)
          replace h56 := OwS.fr h56 F124 (fun c' hc (hm : c' = N + 0 + 1) => by omega)
          replace hp1 := RdS.fr hp1 F124 (by decide) (fun q (hq : C1 q) (hm : q = N + 0 + 1) => by have := hC1 q hq; omega)
          replace hF := hF.trans F124 (fun c' (hm : c' = N + 0 + 1) => by show (r0 ≤ c' ∧ c' < r0 + 2) ∨ (r1 ≤ c' ∧ c' < r1 + 2) ∨ N ≤ c'; omega)
          refine c_draw (fun K hK => d_start (fun q => q = N + 9) (dyeA g113 h116.1 (N + 9)) [13] 14 #[false, false, false, false, false, false, false, false, false, false, false, false, false, false] (by kernel_rfl) rfl rfl (fun w131 hw131 => ?_))
          have F131 : Fr (fun _ => False) w113 (dyeA g113 h116.1 (N + 9)) w131 (dyeA g113 h116.1 (N + 9)) := by rw [hw131]; exact Fr.drew _ _ _
          replace h108 := h108.fr F131 (fun h => h)
          replace hN122 := OwS.fr hN122 F131 (fun _ _ h => h)
          replace hm123 := OwM.fr hm123 F131 (fun h => h) (fun h => h) (fun h => h)
          replace h56 := OwS.fr h56 F131 (fun _ _ h => h)
          replace hp1 := RdS.fr hp1 F131 (by decide) (fun _ _ h => h)
          replace hF := hF.trans F131 (fun _ h => h.elim)
          have hC : Fr (fun q => q = N + 9) w131 (dyeA g113 h116.1 (N + 9)) w131 (dyeA g113 h116.1 (N + 9)) := Fr.refl _ _ _
          refine d_pure hS 0 #[true, false, false, false, false, false, false, false, false, false, false, false, false, false] rfl rfl rfl rfl (by kernel_rfl) (fun _ _ _ h => h) (fun _ => (r_move hS rfl rfl)) fun a132 hS132 => d_pure hS132 1 #[true, true, false, false, false, false, false, false, false, false, false, false, false, false] rfl rfl rfl rfl (by kernel_rfl) (fun _ _ _ h => h) (fun _ => (r_fieldB (off := 1) hS132 rfl rfl (by kernel_rfl))) fun a133 hS133 => d_take hS133 2 #[true, true, true, false, false, false, false, false, false, false, false, false, false, false] rfl rfl rfl rfl (by kernel_rfl) (fun _ _ _ h => h) ⟨_, hC⟩ (fun w' g' Fz => (r_load1 (n := 1) hS133 rfl rfl (by kernel_rfl) (Bx.cell (h108.fr Fz (fun (hm : N + 5 = N + 9) => by omega)) rfl))) fun a134 hS134 => d_pure hS134 3 #[true, true, true, true, false, false, false, false, false, false, false, false, false, false] rfl rfl rfl rfl (by kernel_rfl) (fun _ _ _ h => h) (fun _ => (r_move hS134 rfl rfl)) fun a135 hS135 => d_pure hS135 4 #[true, true, true, true, true, false, false, false, false, false, false, false, false, false] rfl rfl rfl rfl (by kernel_rfl) (fun _ _ _ h => h) (fun _ => (r_fieldB (off := 1) hS135 rfl rfl (by kernel_rfl))) fun a136 hS136 => d_take hS136 5 #[true, true, true, true, true, true, false, false, false, false, false, false, false, false] rfl rfl rfl rfl (by kernel_rfl) (fun _ _ _ h => h) ⟨_, hC⟩ (fun w' g' Fz => (r_load1 (n := 1) hS136 rfl rfl (by kernel_rfl) (Bx.cell (h108.fr Fz (fun (hm : N + 5 = N + 9) => by omega)) rfl))) fun a137 hS137 => d_pure hS137 6 #[true, true, true, true, true, true, true, false, false, false, false, false, false, false] rfl rfl rfl rfl (by kernel_rfl) (fun _ _ _ h => h) (fun _ => (r_index (e := 27) (sz := 1) (by_ := 24) hS137 rfl rfl rfl (by kernel_rfl) (OwM.some_ hm123 hx115) (idx_lo hx115) (idx_hi hx115))) fun a138 hS138 => d_take hS138 7 #[true, true, true, true, true, true, true, true, false, false, false, false, false, false] rfl rfl rfl rfl (by kernel_rfl) (fun _ _ _ h => h) ⟨_, hC⟩ (fun w' g' Fz => (r_load1 (n := 1) hS138 rfl rfl (by kernel_rfl) (OwM.cell (OwM.fr hm123 Fz (fun (hm : N + 0 = N + 9) => by omega) (fun (hm : N + 0 + 1 = N + 9) => by omega) (fun (hm : N + 0 + 2 = N + 9) => by omega)) hx115 hh117))) fun a139 hS139 => d_pure hS139 8 #[true, true, true, true, true, true, true, true, true, false, false, false, false, false] rfl rfl rfl rfl (by kernel_rfl) (fun _ _ _ h => h) (fun _ => (r_fieldB (off := 0) hS139 rfl rfl (by kernel_rfl))) fun a140 hS140 => d_take hS140 9 #[true, true, true, true, true, true, true, true, true, true, false, false, false, false] rfl rfl rfl rfl (by kernel_rfl) (fun _ _ _ h => h) ⟨_, hC⟩ (fun w' g' Fz => (r_load1 (n := 1) hS140 rfl rfl (by kernel_rfl) (Bx.cell (h108.fr Fz (fun (hm : N + 5 = N + 9) => by omega)) rfl))) fun a141 hS141 => ?_
          refine d_one 10 #[true, true, true, true, true, true, true, true, true, true, true, false, false, false] rfl (by kernel_rfl) (arm_eff hS141 rfl rfl rfl (e_lit (e := 3) (parts := [(0, .int .i64 x103.Consumer)]) (cs := [.int .i64 x103.Consumer]) (kint .i64) [x103.Consumer] (N + 7) (dyeA g113 h116.1 (N + 9)) hS141 rfl rfl (fun _ => by kernel_rfl) rfl (by decide) (Rows.cons (cs := [.int .i64 x103.Consumer]) rfl Rows.nil)) (fun _ _ g' hR _ => ⟨g', hC.trans hR.2 (fun _ h => h.elim)⟩) ?_)
          rintro _ a145 w146 g146 ⟨⟨A142, rfl, h143⟩, F146⟩ hS145
          have hC146 := hC.trans F146 (fun _ h => h.elim)
          replace h108 := h108.fr F146 (fun h => h)
          replace hN122 := OwS.fr hN122 F146 (fun _ _ h => h)
          replace hm123 := OwM.fr hm123 F146 (fun h => h) (fun h => h) (fun h => h)
          replace h56 := OwS.fr h56 F146 (fun _ _ h => h)
          replace hp1 := RdS.fr hp1 F146 (by decide) (fun _ _ h => h)
          replace hF := hF.trans F146 (fun _ h => h.elim)
          refine d_one 11 #[true, true, true, true, true, true, true, true, true, true, true, true, false, false] rfl (by kernel_rfl) (arm_eff hS145 rfl rfl rfl (e_append (e := 3) (sz := 1) (by_ := 8) (z := [.int .i64 0]) (kd := (kint .i64)) g146 hS145 rfl rfl rfl rfl (by kernel_rfl) (by kernel_rfl) rfl rfl rfl rfl hN122 (OwD.rdx h143) (fun _ _ _ h => h) hy126) (fun _ _ g' hR _ => ⟨g', hC146.trans hR.2 (fun c' (hm : c' = N + 9) => by show c' = N + 9; omega)⟩) ?_)
          rintro _ a151 w152 g152 ⟨⟨A147, cap148, rfl, h149⟩, F152⟩ hS151
          have hC152 := hC146.trans F152 (fun c' (hm : c' = N + 9) => by show c' = N + 9; omega)
          replace h108 := h108.fr F152 (fun (hm : N + 5 = N + 9) => by omega)
          replace h143 := OwS.fr h143 F152 (fun c' hc (hm : c' = N + 9) => by omega)
          replace hm123 := OwM.fr hm123 F152 (fun (hm : N + 0 = N + 9) => by omega) (fun (hm : N + 0 + 1 = N + 9) => by omega) (fun (hm : N + 0 + 2 = N + 9) => by omega)
          replace h56 := OwS.fr h56 F152 (fun c' hc (hm : c' = N + 9) => by omega)
          replace hp1 := RdS.fr hp1 F152 (by decide) (fun q (hq : C1 q) (hm : q = N + 9) => by have := hC1 q hq; omega)
          replace hF := hF.trans F152 (fun c' (hm : c' = N + 9) => by show (r0 ≤ c' ∧ c' < r0 + 2) ∨ (r1 ≤ c' ∧ c' < r1 + 2) ∨ N ≤ c'; omega)
          refine d_pure hS151 12 #[true, true, true, true, true, true, true, true, true, true, true, true, true, false] rfl rfl rfl rfl (by kernel_rfl) (fun _ _ _ h => h) (fun _ => (r_index (e := 27) (sz := 1) (by_ := 24) hS151 rfl rfl rfl (by kernel_rfl) (OwM.some_ hm123 hx115) (idx_lo hx115) (idx_hi hx115))) fun a153 hS153 => ?_
          refine d_one 13 #[true, true, true, true, true, true, true, true, true, true, true, true, true, true] rfl (by kernel_rfl) (arm_effS hS153 rfl rfl (e_storeM (k := (kint .i64)) (fun _ _ _ _ _ _ _ _ h => h) g152 hS153 rfl rfl rfl rfl (by kernel_rfl) rfl hm123 hx115 hh117 h149 ⟨by omega, by omega⟩) (.inl (by decide)) ?_)
          rintro a154 w155 g155 ⟨hm123, F155⟩ hS154
          replace h108 := h108.fr F155 (fun (hm : N + 5 = N + 0 ∨ N + 5 = N + 9) => by omega)
          replace h143 := OwS.fr h143 F155 (fun c' hc (hm : c' = N + 0 ∨ c' = N + 9) => by omega)
          replace h56 := OwS.fr h56 F155 (fun c' hc (hm : c' = N + 0 ∨ c' = N + 9) => by omega)
          replace hp1 := RdS.fr hp1 F155 (by decide) (fun q (hq : C1 q) (hm : q = N + 0 ∨ q = N + 9) => by have := hC1 q hq; omega)
          replace hF := hF.trans F155 (fun c' (hm : c' = N + 0 ∨ c' = N + 9) => by show (r0 ≤ c' ∧ c' < r0 + 2) ∨ (r1 ≤ c' ∧ c' < r1 + 2) ∨ N ≤ c'; omega)
          have hT : Sl 41 a154 [(4, .slice A50 m0_0.length cap51), (5, .slice A54 m0_1.length cap55), (7, .pointer (some ⟨b107, 0, none⟩)), (12, .slice A1 p1.length cap1), (13, .int .i64 (p1.length : Int)), (14, .int .i64 m0_2)] := hS154.re ⟨rfl, rfl, rfl, rfl, rfl, rfl, trivial⟩
          replace hS154 : Sl 41 a154 [(4, .slice A50 (upd m0_0 x103.Supplier y125).length cap51), (5, .slice A54 m0_1.length cap55), (7, .pointer (some ⟨b107, 0, none⟩)), (12, .slice A1 p1.length cap1), (13, .int .i64 (p1.length : Int)), (14, .int .i64 m0_2)] := by simpa only [upd_length] using hT
          clear hT
          refine d_done (by kernel_rfl) (hK _ _ ?_)
          replace hS : Sl 41 _ [(4, .slice A50 (upd m0_0 x103.Supplier y125).length cap51), (5, .slice A54 m0_1.length cap55), (7, .pointer (some ⟨b107, 0, none⟩)), (12, .slice A1 p1.length cap1), (13, .int .i64 (p1.length : Int)), (14, .int .i64 m0_2)] := hS154.re ⟨rfl, rfl, rfl, rfl, rfl, rfl, trivial⟩
          clear hK K hC
          try clear hS132 hS133 hS134 hS135 hS136 hS137 hS138 hS139 hS140 hS141 hS145 hS151 hS153 hS154
          obtain ⟨a, ha⟩ : ∃ a', a' = a154 := ⟨_, rfl⟩
          rw [← ha] at hS ⊢; clear ha
          obtain ⟨x159, hx160, H⟩ := bind_el H
          refine c_region1 (fun K hK => ?_)
          refine st_val hS rfl rfl rfl (r_move hS rfl rfl) fun a156 hS156 => st_val hS156 rfl rfl rfl (r_fieldB (off := 0) hS156 rfl rfl (by kernel_rfl)) fun a157 hS157 => st_val hS157 rfl rfl rfl (r_load1 (n := 1) hS157 rfl rfl (by kernel_rfl) (Bx.cell h108 rfl)) fun a158 hS158 => st_val hS158 rfl rfl rfl (r_index (e := 3) (sz := 1) (by_ := 8) hS158 rfl rfl rfl (by kernel_rfl) (RdS.some_ (OwS.rd h56) hx160) (idx_lo hx160) (idx_hi hx160)) fun a161 hS161 => st_val hS161 rfl rfl rfl (r_load1 (n := 1) hS161 rfl rfl (by kernel_rfl) (RdS.cell (i := x103.Consumer) (sz := 1) (j := 0) (OwS.rd h56) hx160 rfl)) fun a162 hS162 => st_val hS162 rfl rfl rfl (r_bin hS162 rfl rfl rfl b_add) fun a163 hS163 => st_val hS163 rfl rfl rfl (r_index (e := 3) (sz := 1) (by_ := 8) hS163 rfl rfl rfl (by kernel_rfl) (RdS.some_ (OwS.rd h56) hx160) (idx_lo hx160) (idx_hi hx160)) fun a164 hS164 => ?_
          refine st_effS hS164 rfl rfl (e_storeE (n := 1) (bb := false) (kd := (kint .i64)) (j := 0) (x' := wi (x159 + 1)) (us := [.int .i64 (wi (x159 + 1))]) g155 hS164 rfl rfl rfl rfl (by kernel_rfl) rfl rfl (by intro v hv; simp only [List.mem_cons, List.not_mem_nil, or_false] at hv; rcases hv with rfl <;> rfl) h56 hx160 rfl (fun _ _ cs hR => by rw [show cs = _ from hR]; rfl)) ?_
          rintro a165 w166 g166 ⟨h56, F166⟩ hS165
          replace h108 := h108.fr F166 (fun (hm : N + 5 = N + 3) => by omega)
          replace hm123 := OwM.fr hm123 F166 (fun (hm : N + 0 = N + 3) => by omega) (fun (hm : N + 0 + 1 = N + 3) => by omega) (fun (hm : N + 0 + 2 = N + 3) => by omega)
          replace hp1 := RdS.fr hp1 F166 (by decide) (fun q (hq : C1 q) (hm : q = N + 3) => by have := hC1 q hq; omega)
          replace hF := hF.trans F166 (fun c' (hm : c' = N + 3) => by show (r0 ≤ c' ∧ c' < r0 + 2) ∨ (r1 ≤ c' ∧ c' < r1 + 2) ∨ N ≤ c'; omega)
          have hT : Sl 41 a165 [(4, .slice A50 (upd m0_0 x103.Supplier y125).length cap51), (5, .slice A54 m0_1.length cap55), (12, .slice A1 p1.length cap1), (13, .int .i64 (p1.length : Int)), (14, .int .i64 m0_2)] := hS165.re ⟨rfl, rfl, rfl, rfl, rfl, trivial⟩
          replace hS165 : Sl 41 a165 [(4, .slice A50 (upd m0_0 x103.Supplier y125).length cap51), (5, .slice A54 (upd m0_1 x103.Consumer (wi (x159 + 1))).length cap55), (12, .slice A1 p1.length cap1), (13, .int .i64 (p1.length : Int)), (14, .int .i64 m0_2)] := by simpa only [upd_length] using hT
          clear hT
          refine wpList_nil (hK _ _ ?_)
          replace hS : Sl 41 _ [(4, .slice A50 (upd m0_0 x103.Supplier y125).length cap51), (5, .slice A54 (upd m0_1 x103.Consumer (wi (x159 + 1))).length cap55), (12, .slice A1 p1.length cap1), (13, .int .i64 (p1.length : Int)), (14, .int .i64 m0_2)] := hS165.re ⟨rfl, rfl, rfl, rfl, rfl, trivial⟩
          clear hK K
          try clear hS156 hS157 hS158 hS161 hS162 hS163 hS164 hS165
          obtain ⟨a, ha⟩ : ∃ a', a' = a165 := ⟨_, rfl⟩
          rw [← ha] at hS ⊢; clear ha
          change Code.wp _ _ _ _ _
          refine c_pure1 [(4, .slice A50 (upd m0_0 x103.Supplier y125).length cap51), (5, .slice A54 (upd m0_1 x103.Consumer (wi (x159 + 1))).length cap55), (12, .slice A1 p1.length cap1), (13, .int .i64 (p1.length : Int)), (14, .int .i64 (wi (m0_2 + 1)))] (fun R hR => st_val hS rfl rfl rfl (r_bin hS rfl rfl rfl b_add) fun a167 hS167 => st_val hS167 rfl rfl rfl (r_move hS167 rfl rfl) fun a168 hS168 => wpList_nil (hR _ (hS168.re ⟨rfl, rfl, rfl, rfl, rfl, trivial⟩))) ?_
          clear hS
          clear a
          intro a hS
          refine ⟨k100, Nat.lt_succ_self _, ?_⟩
          exact ⟨(upd m0_0 x103.Supplier y125), (upd m0_1 x103.Consumer (wi (x159 + 1))), wi (m0_2 + 1), g166, (upd hs99 x103.Supplier (A147, cap148)), H, hS.re ⟨rfl, rfl, rfl, rfl, rfl, trivial⟩, hm123, h56, hp1, hF⟩
        · replace H := ite_f hb102 H
          refine wp_exit ?_
          have e := Option.some.inj H
          subst e
          exact ⟨g98, hs99, hS.re ⟨rfl, rfl, trivial⟩, h52, h56, hF⟩
  · clear H
    clear hp1 h52 h56 hF
    clear hS
    rintro a w90 ⟨g90, hs91, hS, h52, h56, hF⟩
    have H := Hl94
    clear Hl94
    refine c_pure [(4, .slice A50 v92.1.length cap51), (5, .slice A54 v92.2.length cap55)] (fun R hR => st_val hS rfl rfl rfl (r_move hS rfl rfl) fun a169 hS169 => st_val hS169 rfl rfl rfl (r_move hS169 rfl rfl) fun a170 hS170 => st_val hS170 rfl rfl rfl (r_assign hS170 rfl rfl) fun a171 hS171 => st_val hS171 rfl rfl rfl (r_assign hS171 rfl rfl) fun a172 hS172 => wpList_nil (hR _ (hS172.re ⟨rfl, rfl, trivial⟩))) ?_
    clear hS
    clear a
    intro a hS
    refine wp_ret ?_
    have e := Option.some.inj H
    subst e
    have h173 := OwM.toS (fun _ _ _ _ _ _ _ _ h => h) (by decide) h52
    have F174 := Fr.recol2 w90 g90 (N + 0) r0
    replace h173 := h173.recol2 r0
    replace h56 := OwS.fr h56 F174 (fun c' hc (hm : c' = N + 0 ∨ c' = N + 0 + 1) => by omega)
    replace hF := hF.trans F174 (fun c' (hm : c' = N + 0 ∨ c' = N + 0 + 1) => by show (r0 ≤ c' ∧ c' < r0 + 2) ∨ (r1 ≤ c' ∧ c' < r1 + 2) ∨ N ≤ c'; omega)
    have F175 := Fr.recol2 w90 (recol2 g90 (N + 0) r0) (N + 3) r1
    replace h56 := h56.recol2 r1
    replace h173 := OwS.fr h173 F175 (fun c' hc (hm : c' = N + 3 ∨ c' = N + 3 + 1) => by omega)
    replace hF := hF.trans F175 (fun c' (hm : c' = N + 3 ∨ c' = N + 3 + 1) => by show (r0 ≤ c' ∧ c' < r0 + 2) ∨ (r1 ≤ c' ∧ c' < r1 + 2) ∨ N ≤ c'; omega)
    repeat (with_reducible first | refine then_ret ?_ | refine inBlock_ret ?_)
    exact c_ret2 hS Try.results57 rfl rfl ⟨_, rfl, (recol2 (recol2 g90 (N + 0) r0) (N + 3) r1), A50, cap51, A54, cap55, rfl, h173, h56, hF⟩


end Go.Proofs.Ytcfcffbjdjacfaa.Sim

namespace Go.Proofs.Ytcfcffbjdjacfaa.Sim
open Go
set_option linter.unusedVariables false
set_option linter.unusedSimpArgs false

/-! ### depgraph_closure: function 59 -/
def depgraph_closure.l0 (p0 : Int) (p2 : List Int) : Nat → (List Bool) → (List Int) → Int → Option (Fl ((List Int) × Int) ((List Bool) × (List Int)))
  | 0, _, _, _ => none
  | k28 + 1, m0_0, m0_1, m0_2 => if decide (m0_2 < (p2.length : Int)) = true then (((idx p2 m0_2).bind fun x38 => if ((decide (x38 < 0)) || (decide (p0 ≤ x38))) = true then (some (.out (.out ([], 1)))) else ((idx m0_0 x38).bind fun x64 => if (!x64) = true then ((app m0_1 [x38]).bind fun y82 => some (.nxt ((upd m0_0 x38 true), y82))) else (some (.nxt (m0_0, m0_1)))) : Option (Fl (Fl ((List Int) × Int) ((List Bool) × (List Int))) ((List Bool) × (List Int)))).bind fun o36 => o36.go fun v35 => depgraph_closure.l0 p0 p2 k28 v35.1 v35.2 (wi (m0_2 + 1))) else (some (.nxt (m0_0, m0_1)))
def depgraph_closure.l2 (x134 : List Int) : Nat → (List Bool) → (List Int) → Int → Option ((List Bool) × (List Int))
  | 0, _, _, _ => none
  | k150 + 1, m2_0, m2_1, m2_2 => if decide (m2_2 < (x134.length : Int)) = true then (((idx x134 m2_2).bind fun x160 => (idx m2_0 x160).bind fun x167 => if (!x167) = true then ((app m2_1 [x160]).bind fun y185 => some ((upd m2_0 x160 true), y185)) else (some (m2_0, m2_1)) : Option ((List Bool) × (List Int))).bind fun v157 => depgraph_closure.l2 x134 k150 v157.1 v157.2 (wi (m2_2 + 1))) else (some (m2_0, m2_1))
def depgraph_closure.l1 (p1 : List (List Int)) : Nat → (List Bool) → (List Int) → Option ((List Bool))
  | 0, _, _ => none
  | k101 + 1, m1_0, m1_1 => if decide (0 < (m1_1.length : Int)) = true then (((idx m1_1 (wi ((m1_1.length : Int) - 1))).bind fun x117 => (slc m1_1 0 (wi ((m1_1.length : Int) - 1))).bind fun y126 => (idx p1 x117).bind fun x134 => depgraph_closure.l2 x134 FUEL m1_0 y126 0 : Option ((List Bool) × (List Int))).bind fun v110 => depgraph_closure.l1 p1 k101 v110.1 v110.2) else (some m1_0)
def depgraph_closure.l3 (v94 : (List Bool)) : Nat → (List Int) → Int → Option ((List Int))
  | 0, _, _ => none
  | k211 + 1, m3_0, m3_1 => if decide (m3_1 < (v94.length : Int)) = true then (((idx v94 m3_1).bind fun x222 => if x222 = true then ((app m3_0 [m3_1]).bind fun y237 => some y237) else (some m3_0) : Option ((List Int))).bind fun v218 => depgraph_closure.l3 v94 k211 v218 (wi (m3_1 + 1))) else (some m3_0)
def depgraph_closure.f (p0 : Int) (p1 : List (List Int)) (p2 : List Int) : Option ((List Int) × Int) := (mk p0 false).bind fun y4 => (depgraph_closure.l0 p0 p2 FUEL y4 [] 0 : Option (Fl ((List Int) × Int) ((List Bool) × (List Int)))).bind fun o19 => o19.go fun v18 => (depgraph_closure.l1 p1 FUEL v18.1 v18.2 : Option ((List Bool))).bind fun v94 => (depgraph_closure.l3 v94 FUEL [] 0 : Option ((List Int))).bind fun v201 => some (v201, 0)
set_option maxRecDepth 100000 in
set_option maxHeartbeats 4000000 in
theorem depgraph_closure.calls {p0 : Int} {p1 : List (List Int)} {A1 : Option Addr} {cap1 : Nat} {C1 : Nat → Prop} {p2 : List Int} {A2 : Option Addr} {cap2 : Nat} {C2 : Nat → Prop} {w : World} {g : Nat → Nat} {out : (List Int) × Int} (N : Nat) (r0 : Nat) (hp1 : RdS (kslice (kint .i64) (by decide)) w g C1 A1 cap1 p1) (hC1 : ∀ c, C1 c → c < N) (hp2 : RdS (kint .i64) w g C2 A2 cap2 p2) (hC2 : ∀ c, C2 c → c < N) (hr0 : r0 + 2 ≤ N) (H : depgraph_closure.f p0 p1 p2 = some out) :
    Calls Try.prog 59 #[.int .i64 p0, .slice A1 p1.length cap1, .slice A2 p2.length cap2] w (fun e w' => ∃ v, e = .returned v ∧ ∃ (g' : Nat → Nat) (A_r0 : Option Addr) (cap_r0 : Nat), v = .tuple #[.slice A_r0 out.1.length cap_r0, .int .i64 out.2] ∧ OwS (kint .i64) 3 w' g' r0 A_r0 cap_r0 out.1 ∧ Fr (fun q => (r0 ≤ q ∧ q < r0 + 2) ∨ N ≤ q) w g w' g') := by
  unfold depgraph_closure.f at H
  refine calls_enter Try.func59 rfl Try.ntmps59 rfl (fun a hS => ?_)
  replace hS : Sl 96 a [(0, .int .i64 p0), (1, .slice A1 p1.length cap1), (2, .slice A2 p2.length cap2)] := hS
  have hF : Fr (fun q => (r0 ≤ q ∧ q < r0 + 2) ∨ N ≤ q) w g w g := Fr.refl _ _ _
  refine c_pure [(0, .int .i64 p0), (1, .slice A1 p1.length cap1), (2, .slice A2 p2.length cap2)] (fun R hR => st_val hS rfl rfl rfl (r_assign hS rfl rfl) fun a1 hS1 => st_val hS1 rfl rfl rfl (r_assign hS1 rfl rfl) fun a2 hS2 => wpList_nil (hR _ (hS2.re ⟨rfl, rfl, rfl, trivial⟩))) ?_
  clear hS
  clear a
  intro a hS
  obtain ⟨y4, hy5, H⟩ := bind_el H
  refine c_region (fun K hK => ?_)
  refine st_val hS rfl rfl rfl (r_move hS rfl rfl) fun a3 hS3 => ?_
  refine st_eff hS3 rfl rfl rfl (e_make (e := 4) (sz := 1) (by_ := 1) (z := [.bool false]) (kd := kbool) (N + 0) g hS3 rfl rfl (by kernel_rfl) (by kernel_rfl) rfl rfl rfl (fun _ _ _ => by exact rfl) hy5) ?_
  rintro _ a10 w11 g11 ⟨⟨A6, cap7, rfl, h8⟩, F11⟩ hS10
  replace hp1 := RdS.fr hp1 F11 (by decide) (fun _ _ h => h)
  replace hp2 := RdS.fr hp2 F11 (by decide) (fun _ _ h => h)
  replace hF := hF.trans F11 (fun _ h => h.elim)
  refine st_val hS10 rfl rfl rfl (r_assign hS10 rfl rfl) fun a12 hS12 => wpList_nil (hK _ _ ?_)
  replace hS : Sl 96 _ [(0, .int .i64 p0), (1, .slice A1 p1.length cap1), (2, .slice A2 p2.length cap2), (8, .slice A6 y4.length cap7)] := hS12.re ⟨rfl, rfl, rfl, rfl, trivial⟩
  clear hK K
  try clear hS3 hS10 hS12
  obtain ⟨a, ha⟩ : ∃ a', a' = a12 := ⟨_, rfl⟩
  rw [← ha] at hS ⊢; clear ha
  refine c_pure [(0, .int .i64 p0), (1, .slice A1 p1.length cap1), (2, .slice A2 p2.length cap2), (8, .slice A6 y4.length cap7), (9, .slice none 0 0)] (fun R hR => st_val hS rfl rfl rfl (r_assign hS rfl rfl) fun a13 hS13 => wpList_nil (hR _ (hS13.re ⟨rfl, rfl, rfl, rfl, rfl, trivial⟩))) ?_
  clear hS
  clear a
  intro a hS
  obtain ⟨o19, H, Hl20⟩ := bind_el H
  refine c_cut (fun a w14 => ∃ (v18 : (List Bool) × (List Int)), ∃ (g14 : Nat → Nat), ∃ (A15 : Option Addr), ∃ (cap16 : Nat), o19 = .nxt v18 ∧ Sl 96 a [(1, .slice A1 p1.length cap1), (8, .slice A6 v18.1.length cap7), (9, .slice A15 v18.2.length cap16)] ∧ OwS kbool 4 w14 g14 (N + 0) A6 cap7 v18.1 ∧ OwS (kint .i64) 3 w14 g14 (N + 4) A15 cap16 v18.2 ∧ RdS (kslice (kint .i64) (by decide)) w14 g14 C1 A1 cap1 p1 ∧ Fr (fun q => (r0 ≤ q ∧ q < r0 + 2) ∨ N ≤ q) w g w14 g14) ?_ ?_
  · refine c_pure [(0, .int .i64 p0), (1, .slice A1 p1.length cap1), (8, .slice A6 y4.length cap7), (9, .slice none 0 0), (20, .slice A2 p2.length cap2), (21, .int .i64 (p2.length : Int)), (22, .int .i64 0)] (fun R hR => st_val hS rfl rfl rfl (r_move hS rfl rfl) fun a21 hS21 => st_val hS21 rfl rfl rfl (r_len (e := 3) (sz := 1) (by_ := 8) hS21 rfl rfl (by kernel_rfl)) fun a22 hS22 => st_val hS22 rfl rfl rfl (r_move hS22 rfl rfl) fun a23 hS23 => wpList_nil (hR _ (hS23.re ⟨rfl, rfl, rfl, rfl, rfl, rfl, rfl, trivial⟩))) ?_
    clear hS
    clear a
    intro a hS
    refine wp_block ?_
    refine wp_loop_ghost (fun kq => fun a w24 => ∃ (m0_0 : List Bool), ∃ (m0_1 : List Int), ∃ (m0_2 : Int), ∃ (g24 : Nat → Nat), ∃ (A25 : Option Addr), ∃ (cap26 : Nat), depgraph_closure.l0 p0 p2 kq m0_0 m0_1 m0_2 = some o19 ∧ Sl 96 a [(0, .int .i64 p0), (1, .slice A1 p1.length cap1), (8, .slice A6 m0_0.length cap7), (9, .slice A25 m0_1.length cap26), (20, .slice A2 p2.length cap2), (21, .int .i64 (p2.length : Int)), (22, .int .i64 m0_2)] ∧ OwS kbool 4 w24 g24 (N + 0) A6 cap7 m0_0 ∧ OwS (kint .i64) 3 w24 g24 (N + 4) A25 cap26 m0_1 ∧ RdS (kslice (kint .i64) (by decide)) w24 g24 C1 A1 cap1 p1 ∧ RdS (kint .i64) w24 g24 C2 A2 cap2 p2 ∧ Fr (fun q => (r0 ≤ q ∧ q < r0 + 2) ∨ N ≤ q) w g w24 g24) FUEL ?_ ?_
    · exact ⟨y4, [], 0, g11, none, 0, H, hS.re ⟨rfl, rfl, rfl, rfl, rfl, rfl, rfl, trivial⟩, h8, OwS.nil (kint .i64) 3 w11 g11 (N + 4), hp1, hp2, hF⟩
    · clear H
      clear hp1 hp2 h8 hF
      clear hS
      rintro k28 a w24 ⟨m0_0, m0_1, m0_2, g24, A25, cap26, hpre0, hS, h8, h27, hp1, hp2, hF⟩
      have H := hpre0
      clear hpre0
      cases k28 with
      | zero => exact absurd H (by simp [depgraph_closure.l0])
      | succ k28 =>
        rw [depgraph_closure.l0] at H
        refine c_pure [(0, .int .i64 p0), (1, .slice A1 p1.length cap1), (8, .slice A6 m0_0.length cap7), (9, .slice A25 m0_1.length cap26), (20, .slice A2 p2.length cap2), (21, .int .i64 (p2.length : Int)), (22, .int .i64 m0_2), (23, .bool (decide (m0_2 < (p2.length : Int))))] (fun R hR => st_val hS rfl rfl rfl (r_bin hS rfl rfl rfl b_lss) fun a29 hS29 => wpList_nil (hR _ (hS29.re ⟨rfl, rfl, rfl, rfl, rfl, rfl, rfl, rfl, trivial⟩))) ?_
        clear hS
        clear a
        intro a hS
        refine c_if hS rfl (fun hb30 => ?_) (fun hb30 => ?_)
        · replace H := ite_t hb30 H
          refine wp_skip ?_
          change Code.wp _ _ _ _ _
          obtain ⟨o36, H, Hl37⟩ := bind_el H
          refine c_cut (fun a w31 => ∃ (v35 : (List Bool) × (List Int)), ∃ (g31 : Nat → Nat), ∃ (A32 : Option Addr), ∃ (cap33 : Nat), o36 = .nxt v35 ∧ Sl 96 a [(0, .int .i64 p0), (1, .slice A1 p1.length cap1), (8, .slice A6 v35.1.length cap7), (9, .slice A32 v35.2.length cap33), (20, .slice A2 p2.length cap2), (21, .int .i64 (p2.length : Int)), (22, .int .i64 m0_2)] ∧ OwS kbool 4 w31 g31 (N + 0) A6 cap7 v35.1 ∧ OwS (kint .i64) 3 w31 g31 (N + 4) A32 cap33 v35.2 ∧ RdS (kslice (kint .i64) (by decide)) w31 g31 C1 A1 cap1 p1 ∧ RdS (kint .i64) w31 g31 C2 A2 cap2 p2 ∧ Fr (fun q => (r0 ≤ q ∧ q < r0 + 2) ∨ N ≤ q) w g w31 g31) ?_ ?_
          · refine wp_block ?_
            obtain ⟨x38, hx39, H⟩ := bind_el H
            refine c_pure [(0, .int .i64 p0), (1, .slice A1 p1.length cap1), (8, .slice A6 m0_0.length cap7), (9, .slice A25 m0_1.length cap26), (11, .int .i64 x38), (20, .slice A2 p2.length cap2), (21, .int .i64 (p2.length : Int)), (22, .int .i64 m0_2)] (fun R hR => st_val hS rfl rfl rfl (r_index (e := 3) (sz := 1) (by_ := 8) hS rfl rfl rfl (by kernel_rfl) (RdS.some_ hp2 hx39) (idx_lo hx39) (idx_hi hx39)) fun a40 hS40 => st_val hS40 rfl rfl rfl (r_load1 (n := 1) hS40 rfl rfl (by kernel_rfl) (RdS.cell (i := m0_2) (sz := 1) (j := 0) hp2 hx39 rfl)) fun a41 hS41 => st_val hS41 rfl rfl rfl (r_assign hS41 rfl rfl) fun a42 hS42 => wpList_nil (hR _ (hS42.re ⟨rfl, rfl, rfl, rfl, rfl, rfl, rfl, rfl, trivial⟩))) ?_
            clear hS
            clear a
            intro a hS
            refine wp_seq ?_
            refine c_region (fun K hK => ?_)
            refine st_val hS rfl rfl rfl (r_move hS rfl rfl) fun a43 hS43 => st_val hS43 rfl rfl rfl (r_bin hS43 rfl rfl rfl b_lss) fun a44 hS44 => st_val hS44 rfl rfl rfl (r_move hS44 rfl rfl) fun a45 hS45 => ?_
            refine g_join (N := 96) 4 [(0, .int .i64 p0), (1, .slice A1 p1.length cap1), (8, .slice A6 m0_0.length cap7), (9, .slice A25 m0_1.length cap26), (11, .int .i64 x38), (20, .slice A2 p2.length cap2), (21, .int .i64 (p2.length : Int)), (22, .int .i64 m0_2), (32, .bool ((decide (x38 < 0)) || (decide (p0 ≤ x38))))] ?_ (fun hk => ?_)
            rotate_left
            · rcases Bool.eq_false_or_eq_true (decide (x38 < 0)) with hb46 | hb46
              · refine st_off hS45 (want_off hS45 rfl rfl rfl hb46) rfl rfl fun a50 hS50 => st_off hS50 (want_off hS50 rfl rfl rfl hb46) rfl rfl fun a51 hS51 => st_off hS51 (want_off hS51 rfl rfl rfl hb46) rfl rfl fun a52 hS52 => st_val hS52 rfl rfl rfl (r_pickT hS52 rfl rfl rfl hb46) fun a53 hS53 => hk _ (hS53.re ⟨rfl, rfl, rfl, rfl, rfl, rfl, rfl, rfl, (by rw [hb46]; rfl), trivial⟩)
              · refine st_valW hS45 (want_on hS45 rfl rfl rfl hb46) rfl rfl (r_move hS45 rfl rfl) fun a54 hS54 => st_valW hS54 (want_on hS54 rfl rfl rfl hb46) rfl rfl (r_move hS54 rfl rfl) fun a55 hS55 => st_valW hS55 (want_on hS55 rfl rfl rfl hb46) rfl rfl (r_bin hS55 rfl rfl rfl b_geq) fun a56 hS56 => st_val hS56 rfl rfl rfl (r_pickF hS56 rfl rfl rfl hb46) fun a57 hS57 => hk _ (hS57.re ⟨rfl, rfl, rfl, rfl, rfl, rfl, rfl, rfl, (by rw [hb46]; rfl), trivial⟩)
            intro a58 hS58
            refine wpList_nil (hK _ _ ?_)
            replace hS : Sl 96 _ [(0, .int .i64 p0), (1, .slice A1 p1.length cap1), (8, .slice A6 m0_0.length cap7), (9, .slice A25 m0_1.length cap26), (11, .int .i64 x38), (20, .slice A2 p2.length cap2), (21, .int .i64 (p2.length : Int)), (22, .int .i64 m0_2), (32, .bool ((decide (x38 < 0)) || (decide (p0 ≤ x38))))] := hS58.re ⟨rfl, rfl, rfl, rfl, rfl, rfl, rfl, rfl, rfl, trivial⟩
            clear hK K
            try clear hS43 hS44 hS45 hS58
            obtain ⟨a, ha⟩ : ∃ a', a' = a58 := ⟨_, rfl⟩
            rw [← ha] at hS ⊢; clear ha
            refine c_cond hS rfl (fun hb59 => ?_) (fun hb59 => ?_)
            · replace H := ite_t hb59 H
              refine c_pure [(6, .slice none 0 0), (7, .int .i64 1)] (fun R hR => st_val hS rfl rfl rfl (r_assign hS rfl rfl) fun a60 hS60 => st_val hS60 rfl rfl rfl (r_assign hS60 rfl rfl) fun a61 hS61 => wpList_nil (hR _ (hS61.re ⟨rfl, rfl, trivial⟩))) ?_
              clear hS
              clear a
              intro a hS
              refine wp_ret ?_
              have e := Option.some.inj H
              subst e
              replace H := Fl.go_out Hl37
              have e := Option.some.inj H
              subst e
              replace H := Fl.go_out Hl20
              have e := Option.some.inj H
              subst e
              repeat (with_reducible first | refine then_ret ?_ | refine inBlock_ret ?_)
              exact c_ret2 hS Try.results59 rfl rfl ⟨_, rfl, g24, none, 0, rfl, OwS.nil (kint .i64) 3 w24 g24 r0, hF⟩
            · replace H := ite_f hb59 H
              refine wp_skip ?_
              change Code.wp _ _ _ _ _
              obtain ⟨x64, hx65, H⟩ := bind_el H
              refine c_pure [(0, .int .i64 p0), (1, .slice A1 p1.length cap1), (8, .slice A6 m0_0.length cap7), (9, .slice A25 m0_1.length cap26), (11, .int .i64 x38), (20, .slice A2 p2.length cap2), (21, .int .i64 (p2.length : Int)), (22, .int .i64 m0_2), (37, .bool (!x64))] (fun R hR => st_val hS rfl rfl rfl (r_move hS rfl rfl) fun a62 hS62 => st_val hS62 rfl rfl rfl (r_move hS62 rfl rfl) fun a63 hS63 => st_val hS63 rfl rfl rfl (r_index (e := 4) (sz := 1) (by_ := 1) hS63 rfl rfl rfl (by kernel_rfl) (RdS.some_ (OwS.rd h8) hx65) (idx_lo hx65) (idx_hi hx65)) fun a66 hS66 => st_val hS66 rfl rfl rfl (r_load1 (n := 1) hS66 rfl rfl (by kernel_rfl) (RdS.cell (i := x38) (sz := 1) (j := 0) (OwS.rd h8) hx65 rfl)) fun a67 hS67 => st_val hS67 rfl rfl rfl (r_not hS67 rfl rfl) fun a68 hS68 => wpList_nil (hR _ (hS68.re ⟨rfl, rfl, rfl, rfl, rfl, rfl, rfl, rfl, rfl, trivial⟩))) ?_
              clear hS
              clear a
              intro a hS
              refine c_cond hS rfl (fun hb69 => ?_) (fun hb69 => ?_)
              · replace H := ite_t hb69 H
                refine c_region (fun K hK => ?_)
                refine st_val hS rfl rfl rfl (r_move hS rfl rfl) fun a70 hS70 => st_val hS70 rfl rfl rfl (r_move hS70 rfl rfl) fun a71 hS71 => st_val hS71 rfl rfl rfl (r_index (e := 4) (sz := 1) (by_ := 1) hS71 rfl rfl rfl (by kernel_rfl) (RdS.some_ (OwS.rd h8) hx65) (idx_lo hx65) (idx_hi hx65)) fun a72 hS72 => ?_
                refine st_effS hS72 rfl rfl (e_storeE (n := 1) (bb := false) (kd := kbool) (j := 0) (x' := true) (us := [.bool true]) g24 hS72 rfl rfl rfl rfl (by kernel_rfl) rfl rfl (by intro v hv; simp only [List.mem_cons, List.not_mem_nil, or_false] at hv; rcases hv with rfl <;> rfl) h8 hx65 rfl (fun _ _ cs hR => by rw [show cs = _ from hR]; rfl)) ?_
                rintro a73 w74 g74 ⟨h8, F74⟩ hS73
                replace h27 := OwS.fr h27 F74 (fun c' hc (hm : c' = N + 0) => by omega)
                replace hp1 := RdS.fr hp1 F74 (by decide) (fun q (hq : C1 q) (hm : q = N + 0) => by have := hC1 q hq; omega)
                replace hp2 := RdS.fr hp2 F74 (by decide) (fun q (hq : C2 q) (hm : q = N + 0) => by have := hC2 q hq; omega)
                replace hF := hF.trans F74 (fun c' (hm : c' = N + 0) => by show (r0 ≤ c' ∧ c' < r0 + 2) ∨ N ≤ c'; omega)
                have hT : Sl 96 a73 [(0, .int .i64 p0), (1, .slice A1 p1.length cap1), (8, .slice A6 m0_0.length cap7), (9, .slice A25 m0_1.length cap26), (11, .int .i64 x38), (20, .slice A2 p2.length cap2), (21, .int .i64 (p2.length : Int)), (22, .int .i64 m0_2)] := hS73.re ⟨rfl, rfl, rfl, rfl, rfl, rfl, rfl, rfl, trivial⟩
                replace hS73 : Sl 96 a73 [(0, .int .i64 p0), (1, .slice A1 p1.length cap1), (8, .slice A6 (upd m0_0 x38 true).length cap7), (9, .slice A25 m0_1.length cap26), (11, .int .i64 x38), (20, .slice A2 p2.length cap2), (21, .int .i64 (p2.length : Int)), (22, .int .i64 m0_2)] := by simpa only [upd_length] using hT
                clear hT
                refine wpList_nil (hK _ _ ?_)
                replace hS : Sl 96 _ [(0, .int .i64 p0), (1, .slice A1 p1.length cap1), (8, .slice A6 (upd m0_0 x38 true).length cap7), (9, .slice A25 m0_1.length cap26), (11, .int .i64 x38), (20, .slice A2 p2.length cap2), (21, .int .i64 (p2.length : Int)), (22, .int .i64 m0_2)] := hS73.re ⟨rfl, rfl, rfl, rfl, rfl, rfl, rfl, rfl, trivial⟩
                clear hK K
                try clear hS70 hS71 hS72 hS73
                obtain ⟨a, ha⟩ : ∃ a', a' = a73 := ⟨_, rfl⟩
                rw [← ha] at hS ⊢; clear ha
                obtain ⟨y82, hy83, H⟩ := bind_el H
                refine c_region1 (fun K hK => ?_)
                refine st_val hS rfl rfl rfl (r_move hS rfl rfl) fun a75 hS75 => st_val hS75 rfl rfl rfl (r_move hS75 rfl rfl) fun a76 hS76 => ?_
                refine st_eff hS76 rfl rfl rfl (e_lit (e := 3) (parts := [(0, .int .i64 x38)]) (cs := [.int .i64 x38]) (kint .i64) [x38] (N + 2) g74 hS76 rfl rfl (fun _ => by kernel_rfl) rfl (by decide) (Rows.cons (cs := [.int .i64 x38]) rfl Rows.nil)) ?_
                rintro _ a80 w81 g81 ⟨⟨A77, rfl, h78⟩, F81⟩ hS80
                replace h8 := OwS.fr h8 F81 (fun _ _ h => h)
                replace h27 := OwS.fr h27 F81 (fun _ _ h => h)
                replace hp1 := RdS.fr hp1 F81 (by decide) (fun _ _ h => h)
                replace hp2 := RdS.fr hp2 F81 (by decide) (fun _ _ h => h)
                replace hF := hF.trans F81 (fun _ h => h.elim)
                refine st_eff hS80 rfl rfl rfl (e_append (e := 3) (sz := 1) (by_ := 8) (z := [.int .i64 0]) (kd := (kint .i64)) g81 hS80 rfl rfl rfl rfl (by kernel_rfl) (by kernel_rfl) rfl rfl rfl rfl h27 (OwD.rdx h78) (fun _ _ _ h => h) hy83) ?_
                rintro _ a88 w89 g89 ⟨⟨A84, cap85, rfl, h86⟩, F89⟩ hS88
                replace h78 := OwS.fr h78 F89 (fun c' hc (hm : c' = N + 4) => by omega)
                replace h8 := OwS.fr h8 F89 (fun c' hc (hm : c' = N + 4) => by omega)
                replace hp1 := RdS.fr hp1 F89 (by decide) (fun q (hq : C1 q) (hm : q = N + 4) => by have := hC1 q hq; omega)
                replace hp2 := RdS.fr hp2 F89 (by decide) (fun q (hq : C2 q) (hm : q = N + 4) => by have := hC2 q hq; omega)
                replace hF := hF.trans F89 (fun c' (hm : c' = N + 4) => by show (r0 ≤ c' ∧ c' < r0 + 2) ∨ N ≤ c'; omega)
                refine st_val hS88 rfl rfl rfl (r_assign hS88 rfl rfl) fun a90 hS90 => wpList_nil (hK _ _ ?_)
                replace hS : Sl 96 _ [(0, .int .i64 p0), (1, .slice A1 p1.length cap1), (8, .slice A6 (upd m0_0 x38 true).length cap7), (9, .slice A84 y82.length cap85), (20, .slice A2 p2.length cap2), (21, .int .i64 (p2.length : Int)), (22, .int .i64 m0_2)] := hS90.re ⟨rfl, rfl, rfl, rfl, rfl, rfl, rfl, trivial⟩
                clear hK K
                try clear hS75 hS76 hS80 hS88 hS90
                obtain ⟨a, ha⟩ : ∃ a', a' = a90 := ⟨_, rfl⟩
                rw [← ha] at hS ⊢; clear ha
                have e := Option.some.inj H
                exact ⟨((upd m0_0 x38 true), y82), g89, A84, cap85, e.symm, hS.re ⟨rfl, rfl, rfl, rfl, rfl, rfl, rfl, trivial⟩, h8, h86, hp1, hp2, hF⟩
              · replace H := ite_f hb69 H
                refine wp_skip ?_
                have e := Option.some.inj H
                exact ⟨(m0_0, m0_1), g24, A25, cap26, e.symm, hS.re ⟨rfl, rfl, rfl, rfl, rfl, rfl, rfl, trivial⟩, h8, h27, hp1, hp2, hF⟩
          · clear H
            clear hp1 hp2 h8 h27 hF
            clear hS
            rintro a w31 ⟨v35, g31, A32, cap33, hpre0, hS, h8, h34, hp1, hp2, hF⟩
            subst hpre0
            have H := Fl.go_nxt Hl37
            clear Hl37
            refine c_pure1 [(0, .int .i64 p0), (1, .slice A1 p1.length cap1), (8, .slice A6 v35.1.length cap7), (9, .slice A32 v35.2.length cap33), (20, .slice A2 p2.length cap2), (21, .int .i64 (p2.length : Int)), (22, .int .i64 (wi (m0_2 + 1)))] (fun R hR => st_val hS rfl rfl rfl (r_bin hS rfl rfl rfl b_add) fun a91 hS91 => st_val hS91 rfl rfl rfl (r_move hS91 rfl rfl) fun a92 hS92 => wpList_nil (hR _ (hS92.re ⟨rfl, rfl, rfl, rfl, rfl, rfl, rfl, trivial⟩))) ?_
            clear hS
            clear a
            intro a hS
            refine ⟨k28, Nat.lt_succ_self _, ?_⟩
            exact ⟨v35.1, v35.2, wi (m0_2 + 1), g31, A32, cap33, H, hS.re ⟨rfl, rfl, rfl, rfl, rfl, rfl, rfl, trivial⟩, h8, h34, hp1, hp2, hF⟩
        · replace H := ite_f hb30 H
          refine wp_exit ?_
          have e := Option.some.inj H
          exact ⟨(m0_0, m0_1), g24, A25, cap26, e.symm, hS.re ⟨rfl, rfl, rfl, trivial⟩, h8, h27, hp1, hF⟩
  · clear H
    clear hp1 hp2 h8 hF
    clear hS
    rintro a w14 ⟨v18, g14, A15, cap16, hpre0, hS, h8, h17, hp1, hF⟩
    subst hpre0
    have H := Fl.go_nxt Hl20
    clear Hl20
    obtain ⟨v94, H, Hl96⟩ := bind_el H
    refine c_cut (fun a w93 => ∃ (g93 : Nat → Nat), Sl 96 a [(8, .slice A6 v94.length cap7)] ∧ OwS kbool 4 w93 g93 (N + 0) A6 cap7 v94 ∧ Fr (fun q => (r0 ≤ q ∧ q < r0 + 2) ∨ N ≤ q) w g w93 g93) ?_ ?_
    · refine wp_block ?_
      refine wp_loop_ghost (fun kq => fun a w97 => ∃ (m1_0 : List Bool), ∃ (m1_1 : List Int), ∃ (g97 : Nat → Nat), ∃ (A98 : Option Addr), ∃ (cap99 : Nat), depgraph_closure.l1 p1 kq m1_0 m1_1 = some v94 ∧ Sl 96 a [(1, .slice A1 p1.length cap1), (8, .slice A6 m1_0.length cap7), (9, .slice A98 m1_1.length cap99)] ∧ OwS kbool 4 w97 g97 (N + 0) A6 cap7 m1_0 ∧ OwS (kint .i64) 3 w97 g97 (N + 4) A98 cap99 m1_1 ∧ RdS (kslice (kint .i64) (by decide)) w97 g97 C1 A1 cap1 p1 ∧ Fr (fun q => (r0 ≤ q ∧ q < r0 + 2) ∨ N ≤ q) w g w97 g97) FUEL ?_ ?_
      · exact ⟨v18.1, v18.2, g14, A15, cap16, H, hS.re ⟨rfl, rfl, rfl, trivial⟩, h8, h17, hp1, hF⟩
      · clear H
        clear hp1 h8 h17 hF
        clear hS
        rintro k101 a w97 ⟨m1_0, m1_1, g97, A98, cap99, hpre0, hS, h8, h100, hp1, hF⟩
        have H := hpre0
        clear hpre0
        cases k101 with
        | zero => exact absurd H (by simp [depgraph_closure.l1])
        | succ k101 =>
          rw [depgraph_closure.l1] at H
          refine wp_seq ?_
          refine c_pure [(1, .slice A1 p1.length cap1), (8, .slice A6 m1_0.length cap7), (9, .slice A98 m1_1.length cap99), (48, .bool (decide (0 < (m1_1.length : Int))))] (fun R hR => st_val hS rfl rfl rfl (r_move hS rfl rfl) fun a102 hS102 => st_val hS102 rfl rfl rfl (r_len (e := 3) (sz := 1) (by_ := 8) hS102 rfl rfl (by kernel_rfl)) fun a103 hS103 => st_val hS103 rfl rfl rfl (r_bin hS103 rfl rfl rfl b_gtr) fun a104 hS104 => wpList_nil (hR _ (hS104.re ⟨rfl, rfl, rfl, rfl, trivial⟩))) ?_
          clear hS
          clear a
          intro a hS
          refine c_cond hS rfl (fun hb105 => ?_) (fun hb105 => ?_)
          · replace H := ite_t hb105 H
            refine wp_skip ?_
            change Code.wp _ _ _ _ _
            obtain ⟨v110, H, Hl112⟩ := bind_el H
            refine c_cut1 (fun a w106 => ∃ (g106 : Nat → Nat), ∃ (A107 : Option Addr), ∃ (cap108 : Nat), Sl 96 a [(1, .slice A1 p1.length cap1), (8, .slice A6 v110.1.length cap7), (9, .slice A107 v110.2.length cap108)] ∧ OwS kbool 4 w106 g106 (N + 0) A6 cap7 v110.1 ∧ OwS (kint .i64) 3 w106 g106 (N + 4) A107 cap108 v110.2 ∧ RdS (kslice (kint .i64) (by decide)) w106 g106 C1 A1 cap1 p1 ∧ Fr (fun q => (r0 ≤ q ∧ q < r0 + 2) ∨ N ≤ q) w g w106 g106) ?_ ?_
            · refine wp_block ?_
              obtain ⟨x117, hx118, H⟩ := bind_el H
              refine c_pure [(1, .slice A1 p1.length cap1), (8, .slice A6 m1_0.length cap7), (9, .slice A98 m1_1.length cap99), (12, .int .i64 x117)] (fun R hR => st_val hS rfl rfl rfl (r_move hS rfl rfl) fun a113 hS113 => st_val hS113 rfl rfl rfl (r_move hS113 rfl rfl) fun a114 hS114 => st_val hS114 rfl rfl rfl (r_len (e := 3) (sz := 1) (by_ := 8) hS114 rfl rfl (by kernel_rfl)) fun a115 hS115 => st_val hS115 rfl rfl rfl (r_bin hS115 rfl rfl rfl b_sub) fun a116 hS116 => st_val hS116 rfl rfl rfl (r_index (e := 3) (sz := 1) (by_ := 8) hS116 rfl rfl rfl (by kernel_rfl) (RdS.some_ (OwS.rd h100) hx118) (idx_lo hx118) (idx_hi hx118)) fun a119 hS119 => st_val hS119 rfl rfl rfl (r_load1 (n := 1) hS119 rfl rfl (by kernel_rfl) (RdS.cell (i := wi ((m1_1.length : Int) - 1)) (sz := 1) (j := 0) (OwS.rd h100) hx118 rfl)) fun a120 hS120 => st_val hS120 rfl rfl rfl (r_assign hS120 rfl rfl) fun a121 hS121 => wpList_nil (hR _ (hS121.re ⟨rfl, rfl, rfl, rfl, trivial⟩))) ?_
              clear hS
              clear a
              intro a hS
              obtain ⟨y126, hy127, H⟩ := bind_el H
              refine c_region (fun K hK => ?_)
              refine st_val hS rfl rfl rfl (r_move hS rfl rfl) fun a122 hS122 => st_val hS122 rfl rfl rfl (r_move hS122 rfl rfl) fun a123 hS123 => st_val hS123 rfl rfl rfl (r_len (e := 3) (sz := 1) (by_ := 8) hS123 rfl rfl (by kernel_rfl)) fun a124 hS124 => st_val hS124 rfl rfl rfl (r_bin hS124 rfl rfl rfl b_sub) fun a125 hS125 => ?_
              have h128 := OwS.slc0 h100 hy127
              refine st_val hS125 rfl rfl rfl (r_slice (e := 3) (sz := 1) (by_ := 8) (l := 0) (h := wi ((m1_1.length : Int) - 1)) hS125 rfl rfl (by kernel_rfl) rfl rfl hy127 (OwS.rd h100).1) fun a130 hS130 => st_val hS130 rfl rfl rfl (r_assign hS130 rfl rfl) fun a131 hS131 => wpList_nil (hK _ _ ?_)
              replace hS : Sl 96 _ [(1, .slice A1 p1.length cap1), (8, .slice A6 m1_0.length cap7), (9, .slice (slA A98 cap99 (0 : Int).toNat 1) y126.length (cap99 - (0 : Int).toNat)), (12, .int .i64 x117)] := hS131.re ⟨rfl, rfl, rfl, rfl, trivial⟩
              clear hK K
              try clear hS122 hS123 hS124 hS125 hS130 hS131
              obtain ⟨a, ha⟩ : ∃ a', a' = a131 := ⟨_, rfl⟩
              rw [← ha] at hS ⊢; clear ha
              obtain ⟨x134, hx135, H⟩ := bind_el H
              refine c_region (fun K hK => ?_)
              refine st_val hS rfl rfl rfl (r_move hS rfl rfl) fun a132 hS132 => st_val hS132 rfl rfl rfl (r_move hS132 rfl rfl) fun a133 hS133 => ?_
              obtain ⟨_, ⟨A137, cap138, rfl, h139⟩, hel136⟩ := El.of hp1 hx135 (by decide)
              replace hel136 : El w97 g97 C1 A1 (x117.toNat * 1) [.slice A137 x134.length cap138] := hel136
              refine st_val hS133 rfl rfl rfl (r_index (e := 27) (sz := 1) (by_ := 24) hS133 rfl rfl rfl (by kernel_rfl) (RdS.some_ hp1 hx135) (idx_lo hx135) (idx_hi hx135)) fun a142 hS142 => st_val hS142 rfl rfl rfl (r_load1 (n := 1) hS142 rfl rfl (by kernel_rfl) (El.cell (j := 0) hel136 rfl)) fun a143 hS143 => st_val hS143 rfl rfl rfl (r_len (e := 3) (sz := 1) (by_ := 8) hS143 rfl rfl (by kernel_rfl)) fun a144 hS144 => st_val hS144 rfl rfl rfl (r_move hS144 rfl rfl) fun a145 hS145 => wpList_nil (hK _ _ ?_)
              replace hS : Sl 96 _ [(1, .slice A1 p1.length cap1), (8, .slice A6 m1_0.length cap7), (9, .slice (slA A98 cap99 (0 : Int).toNat 1) y126.length (cap99 - (0 : Int).toNat)), (63, .slice A137 x134.length cap138), (64, .int .i64 (x134.length : Int)), (65, .int .i64 0)] := hS145.re ⟨rfl, rfl, rfl, rfl, rfl, rfl, trivial⟩
              clear hK K
              try clear hS132 hS133 hS142 hS143 hS144 hS145
              obtain ⟨a, ha⟩ : ∃ a', a' = a145 := ⟨_, rfl⟩
              rw [← ha] at hS ⊢; clear ha
              refine wp_block ?_
              refine wp_loop_ghost (fun kq => fun a w146 => ∃ (m2_0 : List Bool), ∃ (m2_1 : List Int), ∃ (m2_2 : Int), ∃ (g146 : Nat → Nat), ∃ (A147 : Option Addr), ∃ (cap148 : Nat), depgraph_closure.l2 x134 kq m2_0 m2_1 m2_2 = some v110 ∧ Sl 96 a [(1, .slice A1 p1.length cap1), (8, .slice A6 m2_0.length cap7), (9, .slice A147 m2_1.length cap148), (63, .slice A137 x134.length cap138), (64, .int .i64 (x134.length : Int)), (65, .int .i64 m2_2)] ∧ RdS (kint .i64) w146 g146 C1 A137 cap138 x134 ∧ OwS kbool 4 w146 g146 (N + 0) A6 cap7 m2_0 ∧ OwS (kint .i64) 3 w146 g146 (N + 4) A147 cap148 m2_1 ∧ RdS (kslice (kint .i64) (by decide)) w146 g146 C1 A1 cap1 p1 ∧ Fr (fun q => (r0 ≤ q ∧ q < r0 + 2) ∨ N ≤ q) w g w146 g146) FUEL ?_ ?_
              · exact ⟨m1_0, y126, 0, g97, (slA A98 cap99 (0 : Int).toNat 1), (cap99 - (0 : Int).toNat), H, hS.re ⟨rfl, rfl, rfl, rfl, rfl, rfl, trivial⟩, h139, h8, h128, hp1, hF⟩
              · clear H
                clear hp1 h8 h128 h139 hF
                clear hS
                rintro k150 a w146 ⟨m2_0, m2_1, m2_2, g146, A147, cap148, hpre0, hS, h139, h8, h149, hp1, hF⟩
                have H := hpre0
                clear hpre0
                cases k150 with
                | zero => exact absurd H (by simp [depgraph_closure.l2])
                | succ k150 =>
                  rw [depgraph_closure.l2] at H
                  refine c_pure [(1, .slice A1 p1.length cap1), (8, .slice A6 m2_0.length cap7), (9, .slice A147 m2_1.length cap148), (63, .slice A137 x134.length cap138), (64, .int .i64 (x134.length : Int)), (65, .int .i64 m2_2), (66, .bool (decide (m2_2 < (x134.length : Int))))] (fun R hR => st_val hS rfl rfl rfl (r_bin hS rfl rfl rfl b_lss) fun a151 hS151 => wpList_nil (hR _ (hS151.re ⟨rfl, rfl, rfl, rfl, rfl, rfl, rfl, trivial⟩))) ?_
                  clear hS
                  clear a
                  intro a hS
                  refine c_if hS rfl (fun hb152 => ?_) (fun hb152 => ?_)
                  · replace H := ite_t hb152 H
                    refine wp_skip ?_
                    change Code.wp _ _ _ _ _
                    obtain ⟨v157, H, Hl159⟩ := bind_el H
                    refine c_cut (fun a w153 => ∃ (g153 : Nat → Nat), ∃ (A154 : Option Addr), ∃ (cap155 : Nat), Sl 96 a [(1, .slice A1 p1.length cap1), (8, .slice A6 v157.1.length cap7), (9, .slice A154 v157.2.length cap155), (63, .slice A137 x134.length cap138), (64, .int .i64 (x134.length : Int)), (65, .int .i64 m2_2)] ∧ RdS (kint .i64) w153 g153 C1 A137 cap138 x134 ∧ OwS kbool 4 w153 g153 (N + 0) A6 cap7 v157.1 ∧ OwS (kint .i64) 3 w153 g153 (N + 4) A154 cap155 v157.2 ∧ RdS (kslice (kint .i64) (by decide)) w153 g153 C1 A1 cap1 p1 ∧ Fr (fun q => (r0 ≤ q ∧ q < r0 + 2) ∨ N ≤ q) w g w153 g153) ?_ ?_
                    · refine wp_block ?_
                      obtain ⟨x160, hx161, H⟩ := bind_el H
                      refine c_pure [(1, .slice A1 p1.length cap1), (8, .slice A6 m2_0.length cap7), (9, .slice A147 m2_1.length cap148), (14, .int .i64 x160), (63, .slice A137 x134.length cap138), (64, .int .i64 (x134.length : Int)), (65, .int .i64 m2_2)] (fun R hR => st_val hS rfl rfl rfl (r_index (e := 3) (sz := 1) (by_ := 8) hS rfl rfl rfl (by kernel_rfl) (RdS.some_ h139 hx161) (idx_lo hx161) (idx_hi hx161)) fun a162 hS162 => st_val hS162 rfl rfl rfl (r_load1 (n := 1) hS162 rfl rfl (by kernel_rfl) (RdS.cell (i := m2_2) (sz := 1) (j := 0) h139 hx161 rfl)) fun a163 hS163 => st_val hS163 rfl rfl rfl (r_assign hS163 rfl rfl) fun a164 hS164 => wpList_nil (hR _ (hS164.re ⟨rfl, rfl, rfl, rfl, rfl, rfl, rfl, trivial⟩))) ?_
                      clear hS
                      clear a
                      intro a hS
                      obtain ⟨x167, hx168, H⟩ := bind_el H
                      refine c_pure [(1, .slice A1 p1.length cap1), (8, .slice A6 m2_0.length cap7), (9, .slice A147 m2_1.length cap148), (14, .int .i64 x160), (63, .slice A137 x134.length cap138), (64, .int .i64 (x134.length : Int)), (65, .int .i64 m2_2), (73, .bool (!x167))] (fun R hR => st_val hS rfl rfl rfl (r_move hS rfl rfl) fun a165 hS165 => st_val hS165 rfl rfl rfl (r_move hS165 rfl rfl) fun a166 hS166 => st_val hS166 rfl rfl rfl (r_index (e := 4) (sz := 1) (by_ := 1) hS166 rfl rfl rfl (by kernel_rfl) (RdS.some_ (OwS.rd h8) hx168) (idx_lo hx168) (idx_hi hx168)) fun a169 hS169 => st_val hS169 rfl rfl rfl (r_load1 (n := 1) hS169 rfl rfl (by kernel_rfl) (RdS.cell (i := x160) (sz := 1) (j := 0) (OwS.rd h8) hx168 rfl)) fun a170 hS170 => st_val hS170 rfl rfl rfl (r_not hS170 rfl rfl) fun a171 hS171 => wpList_nil (hR _ (hS171.re ⟨rfl, rfl, rfl, rfl, rfl, rfl, rfl, rfl, trivial⟩))) ?_
                      clear hS
                      clear a
                      intro a hS
                      refine c_cond hS rfl (fun hb172 => ?_) (fun hb172 => ?_)
                      · replace H := ite_t hb172 H
                        refine c_region (fun K hK => ?_)
                        refine st_val hS rfl rfl rfl (r_move hS rfl rfl) fun a173 hS173 => st_val hS173 rfl rfl rfl (r_move hS173 rfl rfl) fun a174 hS174 => st_val hS174 rfl rfl rfl (r_index (e := 4) (sz := 1) (by_ := 1) hS174 rfl rfl rfl (by kernel_rfl) (RdS.some_ (OwS.rd h8) hx168) (idx_lo hx168) (idx_hi hx168)) fun a175 hS175 => ?_
                        refine st_effS hS175 rfl rfl (e_storeE (n := 1) (bb := false) (kd := kbool) (j := 0) (x' := true) (us := [.bool true]) g146 hS175 rfl rfl rfl rfl (by kernel_rfl) rfl rfl (by intro v hv; simp only [List.mem_cons, List.not_mem_nil, or_false] at hv; rcases hv with rfl <;> rfl) h8 hx168 rfl (fun _ _ cs hR => by rw [show cs = _ from hR]; rfl)) ?_
                        rintro a176 w177 g177 ⟨h8, F177⟩ hS176
                        replace h139 := RdS.fr h139 F177 (by decide) (fun q (hq : C1 q) (hm : q = N + 0) => by have := hC1 q hq; omega)
                        replace h149 := OwS.fr h149 F177 (fun c' hc (hm : c' = N + 0) => by omega)
                        replace hp1 := RdS.fr hp1 F177 (by decide) (fun q (hq : C1 q) (hm : q = N + 0) => by have := hC1 q hq; omega)
                        replace hF := hF.trans F177 (fun c' (hm : c' = N + 0) => by show (r0 ≤ c' ∧ c' < r0 + 2) ∨ N ≤ c'; omega)
                        have hT : Sl 96 a176 [(1, .slice A1 p1.length cap1), (8, .slice A6 m2_0.length cap7), (9, .slice A147 m2_1.length cap148), (14, .int .i64 x160), (63, .slice A137 x134.length cap138), (64, .int .i64 (x134.length : Int)), (65, .int .i64 m2_2)] := hS176.re ⟨rfl, rfl, rfl, rfl, rfl, rfl, rfl, trivial⟩
                        replace hS176 : Sl 96 a176 [(1, .slice A1 p1.length cap1), (8, .slice A6 (upd m2_0 x160 true).length cap7), (9, .slice A147 m2_1.length cap148), (14, .int .i64 x160), (63, .slice A137 x134.length cap138), (64, .int .i64 (x134.length : Int)), (65, .int .i64 m2_2)] := by simpa only [upd_length] using hT
                        clear hT
                        refine wpList_nil (hK _ _ ?_)
                        replace hS : Sl 96 _ [(1, .slice A1 p1.length cap1), (8, .slice A6 (upd m2_0 x160 true).length cap7), (9, .slice A147 m2_1.length cap148), (14, .int .i64 x160), (63, .slice A137 x134.length cap138), (64, .int .i64 (x134.length : Int)), (65, .int .i64 m2_2)] := hS176.re ⟨rfl, rfl, rfl, rfl, rfl, rfl, rfl, trivial⟩
                        clear hK K
                        try clear hS173 hS174 hS175 hS176
                        obtain ⟨a, ha⟩ : ∃ a', a' = a176 := ⟨_, rfl⟩
                        rw [← ha] at hS ⊢; clear ha
                        obtain ⟨y185, hy186, H⟩ := bind_el H
                        refine c_region1 (fun K hK => ?_)
                        refine st_val hS rfl rfl rfl (r_move hS rfl rfl) fun a178 hS178 => st_val hS178 rfl rfl rfl (r_move hS178 rfl rfl) fun a179 hS179 => ?_
                        refine st_eff hS179 rfl rfl rfl (e_lit (e := 3) (parts := [(0, .int .i64 x160)]) (cs := [.int .i64 x160]) (kint .i64) [x160] (N + 6) g177 hS179 rfl rfl (fun _ => by kernel_rfl) rfl (by decide) (Rows.cons (cs := [.int .i64 x160]) rfl Rows.nil)) ?_
                        rintro _ a183 w184 g184 ⟨⟨A180, rfl, h181⟩, F184⟩ hS183
                        replace h139 := RdS.fr h139 F184 (by decide) (fun _ _ h => h)
                        replace h8 := OwS.fr h8 F184 (fun _ _ h => h)
                        replace h149 := OwS.fr h149 F184 (fun _ _ h => h)
                        replace hp1 := RdS.fr hp1 F184 (by decide) (fun _ _ h => h)
                        replace hF := hF.trans F184 (fun _ h => h.elim)
                        refine st_eff hS183 rfl rfl rfl (e_append (e := 3) (sz := 1) (by_ := 8) (z := [.int .i64 0]) (kd := (kint .i64)) g184 hS183 rfl rfl rfl rfl (by kernel_rfl) (by kernel_rfl) rfl rfl rfl rfl h149 (OwD.rdx h181) (fun _ _ _ h => h) hy186) ?_
                        rintro _ a191 w192 g192 ⟨⟨A187, cap188, rfl, h189⟩, F192⟩ hS191
                        replace h139 := RdS.fr h139 F192 (by decide) (fun q (hq : C1 q) (hm : q = N + 4) => by have := hC1 q hq; omega)
                        replace h181 := OwS.fr h181 F192 (fun c' hc (hm : c' = N + 4) => by omega)
                        replace h8 := OwS.fr h8 F192 (fun c' hc (hm : c' = N + 4) => by omega)
                        replace hp1 := RdS.fr hp1 F192 (by decide) (fun q (hq : C1 q) (hm : q = N + 4) => by have := hC1 q hq; omega)
                        replace hF := hF.trans F192 (fun c' (hm : c' = N + 4) => by show (r0 ≤ c' ∧ c' < r0 + 2) ∨ N ≤ c'; omega)
                        refine st_val hS191 rfl rfl rfl (r_assign hS191 rfl rfl) fun a193 hS193 => wpList_nil (hK _ _ ?_)
                        replace hS : Sl 96 _ [(1, .slice A1 p1.length cap1), (8, .slice A6 (upd m2_0 x160 true).length cap7), (9, .slice A187 y185.length cap188), (63, .slice A137 x134.length cap138), (64, .int .i64 (x134.length : Int)), (65, .int .i64 m2_2)] := hS193.re ⟨rfl, rfl, rfl, rfl, rfl, rfl, trivial⟩
                        clear hK K
                        try clear hS178 hS179 hS183 hS191 hS193
                        obtain ⟨a, ha⟩ : ∃ a', a' = a193 := ⟨_, rfl⟩
                        rw [← ha] at hS ⊢; clear ha
                        have e := Option.some.inj H
                        subst e
                        exact ⟨g192, A187, cap188, hS.re ⟨rfl, rfl, rfl, rfl, rfl, rfl, trivial⟩, h139, h8, h189, hp1, hF⟩
                      · replace H := ite_f hb172 H
                        refine wp_skip ?_
                        have e := Option.some.inj H
                        subst e
                        exact ⟨g146, A147, cap148, hS.re ⟨rfl, rfl, rfl, rfl, rfl, rfl, trivial⟩, h139, h8, h149, hp1, hF⟩
                    · clear H
                      clear hp1 h8 h139 h149 hF
                      clear hS
                      rintro a w153 ⟨g153, A154, cap155, hS, h139, h8, h156, hp1, hF⟩
                      have H := Hl159
                      clear Hl159
                      refine c_pure1 [(1, .slice A1 p1.length cap1), (8, .slice A6 v157.1.length cap7), (9, .slice A154 v157.2.length cap155), (63, .slice A137 x134.length cap138), (64, .int .i64 (x134.length : Int)), (65, .int .i64 (wi (m2_2 + 1)))] (fun R hR => st_val hS rfl rfl rfl (r_bin hS rfl rfl rfl b_add) fun a194 hS194 => st_val hS194 rfl rfl rfl (r_move hS194 rfl rfl) fun a195 hS195 => wpList_nil (hR _ (hS195.re ⟨rfl, rfl, rfl, rfl, rfl, rfl, trivial⟩))) ?_
                      clear hS
                      clear a
                      intro a hS
                      refine ⟨k150, Nat.lt_succ_self _, ?_⟩
                      exact ⟨v157.1, v157.2, wi (m2_2 + 1), g153, A154, cap155, H, hS.re ⟨rfl, rfl, rfl, rfl, rfl, rfl, trivial⟩, h139, h8, h156, hp1, hF⟩
                  · replace H := ite_f hb152 H
                    refine wp_exit ?_
                    have e := Option.some.inj H
                    subst e
                    exact ⟨g146, A147, cap148, hS.re ⟨rfl, rfl, rfl, trivial⟩, h8, h149, hp1, hF⟩
            · clear H
              clear hp1 h8 h100 hF
              clear hS
              rintro a w106 ⟨g106, A107, cap108, hS, h8, h109, hp1, hF⟩
              have H := Hl112
              clear Hl112
              refine ⟨k101, Nat.lt_succ_self _, ?_⟩
              exact ⟨v110.1, v110.2, g106, A107, cap108, H, hS.re ⟨rfl, rfl, rfl, trivial⟩, h8, h109, hp1, hF⟩
          · replace H := ite_f hb105 H
            refine wp_exit ?_
            have e := Option.some.inj H
            subst e
            exact ⟨g97, hS.re ⟨rfl, trivial⟩, h8, hF⟩
    · clear H
      clear hp1 h8 h17 hF
      clear hS
      rintro a w93 ⟨g93, hS, h8, hF⟩
      have H := Hl96
      clear Hl96
      refine c_pure [(8, .slice A6 v94.length cap7), (15, .slice none 0 0)] (fun R hR => st_val hS rfl rfl rfl (r_assign hS rfl rfl) fun a196 hS196 => wpList_nil (hR _ (hS196.re ⟨rfl, rfl, trivial⟩))) ?_
      clear hS
      clear a
      intro a hS
      obtain ⟨v201, H, Hl203⟩ := bind_el H
      refine c_cut (fun a w197 => ∃ (g197 : Nat → Nat), ∃ (A198 : Option Addr), ∃ (cap199 : Nat), Sl 96 a [(15, .slice A198 v201.length cap199)] ∧ OwS (kint .i64) 3 w197 g197 (N + 10) A198 cap199 v201 ∧ Fr (fun q => (r0 ≤ q ∧ q < r0 + 2) ∨ N ≤ q) w g w197 g197) ?_ ?_
      · refine c_pure [(15, .slice none 0 0), (82, .slice A6 v94.length cap7), (83, .int .i64 (v94.length : Int)), (84, .int .i64 0)] (fun R hR => st_val hS rfl rfl rfl (r_move hS rfl rfl) fun a204 hS204 => st_val hS204 rfl rfl rfl (r_len (e := 4) (sz := 1) (by_ := 1) hS204 rfl rfl (by kernel_rfl)) fun a205 hS205 => st_val hS205 rfl rfl rfl (r_move hS205 rfl rfl) fun a206 hS206 => wpList_nil (hR _ (hS206.re ⟨rfl, rfl, rfl, rfl, trivial⟩))) ?_
        clear hS
        clear a
        intro a hS
        refine wp_block ?_
        refine wp_loop_ghost (fun kq => fun a w207 => ∃ (m3_0 : List Int), ∃ (m3_1 : Int), ∃ (g207 : Nat → Nat), ∃ (A208 : Option Addr), ∃ (cap209 : Nat), depgraph_closure.l3 v94 kq m3_0 m3_1 = some v201 ∧ Sl 96 a [(15, .slice A208 m3_0.length cap209), (82, .slice A6 v94.length cap7), (83, .int .i64 (v94.length : Int)), (84, .int .i64 m3_1)] ∧ OwS kbool 4 w207 g207 (N + 0) A6 cap7 v94 ∧ OwS (kint .i64) 3 w207 g207 (N + 10) A208 cap209 m3_0 ∧ Fr (fun q => (r0 ≤ q ∧ q < r0 + 2) ∨ N ≤ q) w g w207 g207) FUEL ?_ ?_
        · exact ⟨[], 0, g93, none, 0, H, hS.re ⟨rfl, rfl, rfl, rfl, trivial⟩, h8, OwS.nil (kint .i64) 3 w93 g93 (N + 10), hF⟩
        · clear H
          clear h8 hF
          clear hS
          rintro k211 a w207 ⟨m3_0, m3_1, g207, A208, cap209, hpre0, hS, h8, h210, hF⟩
          have H := hpre0
          clear hpre0
          cases k211 with
          | zero => exact absurd H (by simp [depgraph_closure.l3])
          | succ k211 =>
            rw [depgraph_closure.l3] at H
            refine c_pure [(15, .slice A208 m3_0.length cap209), (82, .slice A6 v94.length cap7), (83, .int .i64 (v94.length : Int)), (84, .int .i64 m3_1), (85, .bool (decide (m3_1 < (v94.length : Int))))] (fun R hR => st_val hS rfl rfl rfl (r_bin hS rfl rfl rfl b_lss) fun a212 hS212 => wpList_nil (hR _ (hS212.re ⟨rfl, rfl, rfl, rfl, rfl, trivial⟩))) ?_
            clear hS
            clear a
            intro a hS
            refine c_if hS rfl (fun hb213 => ?_) (fun hb213 => ?_)
            · replace H := ite_t hb213 H
              refine wp_skip ?_
              change Code.wp _ _ _ _ _
              obtain ⟨v218, H, Hl220⟩ := bind_el H
              refine c_cut (fun a w214 => ∃ (g214 : Nat → Nat), ∃ (A215 : Option Addr), ∃ (cap216 : Nat), Sl 96 a [(15, .slice A215 v218.length cap216), (82, .slice A6 v94.length cap7), (83, .int .i64 (v94.length : Int)), (84, .int .i64 m3_1)] ∧ OwS kbool 4 w214 g214 (N + 0) A6 cap7 v94 ∧ OwS (kint .i64) 3 w214 g214 (N + 10) A215 cap216 v218 ∧ Fr (fun q => (r0 ≤ q ∧ q < r0 + 2) ∨ N ≤ q) w g w214 g214) ?_ ?_
              · refine wp_block ?_
                obtain ⟨x222, hx223, H⟩ := bind_el H
                refine c_pure [(15, .slice A208 m3_0.length cap209), (16, .int .i64 m3_1), (17, .bool x222), (82, .slice A6 v94.length cap7), (83, .int .i64 (v94.length : Int)), (84, .int .i64 m3_1)] (fun R hR => st_val hS rfl rfl rfl (r_move hS rfl rfl) fun a221 hS221 => st_val hS221 rfl rfl rfl (r_index (e := 4) (sz := 1) (by_ := 1) hS221 rfl rfl rfl (by kernel_rfl) (RdS.some_ (OwS.rd h8) hx223) (idx_lo hx223) (idx_hi hx223)) fun a224 hS224 => st_val hS224 rfl rfl rfl (r_load1 (n := 1) hS224 rfl rfl (by kernel_rfl) (RdS.cell (i := m3_1) (sz := 1) (j := 0) (OwS.rd h8) hx223 rfl)) fun a225 hS225 => st_val hS225 rfl rfl rfl (r_assign hS225 rfl rfl) fun a226 hS226 => st_val hS226 rfl rfl rfl (r_assign hS226 rfl rfl) fun a227 hS227 => wpList_nil (hR _ (hS227.re ⟨rfl, rfl, rfl, rfl, rfl, rfl, trivial⟩))) ?_
                clear hS
                clear a
                intro a hS
                refine c_pure [(15, .slice A208 m3_0.length cap209), (16, .int .i64 m3_1), (82, .slice A6 v94.length cap7), (83, .int .i64 (v94.length : Int)), (84, .int .i64 m3_1), (89, .bool x222)] (fun R hR => st_val hS rfl rfl rfl (r_move hS rfl rfl) fun a228 hS228 => wpList_nil (hR _ (hS228.re ⟨rfl, rfl, rfl, rfl, rfl, rfl, trivial⟩))) ?_
                clear hS
                clear a
                intro a hS
                refine c_cond hS rfl (fun hb229 => ?_) (fun hb229 => ?_)
                · replace H := ite_t hb229 H
                  obtain ⟨y237, hy238, H⟩ := bind_el H
                  refine c_region1 (fun K hK => ?_)
                  refine st_val hS rfl rfl rfl (r_move hS rfl rfl) fun a230 hS230 => st_val hS230 rfl rfl rfl (r_move hS230 rfl rfl) fun a231 hS231 => ?_
                  refine st_eff hS231 rfl rfl rfl (e_lit (e := 3) (parts := [(0, .int .i64 m3_1)]) (cs := [.int .i64 m3_1]) (kint .i64) [m3_1] (N + 8) g207 hS231 rfl rfl (fun _ => by kernel_rfl) rfl (by decide) (Rows.cons (cs := [.int .i64 m3_1]) rfl Rows.nil)) ?_
                  rintro _ a235 w236 g236 ⟨⟨A232, rfl, h233⟩, F236⟩ hS235
                  replace h8 := OwS.fr h8 F236 (fun _ _ h => h)
                  replace h210 := OwS.fr h210 F236 (fun _ _ h => h)
                  replace hF := hF.trans F236 (fun _ h => h.elim)
                  refine st_eff hS235 rfl rfl rfl (e_append (e := 3) (sz := 1) (by_ := 8) (z := [.int .i64 0]) (kd := (kint .i64)) g236 hS235 rfl rfl rfl rfl (by kernel_rfl) (by kernel_rfl) rfl rfl rfl rfl h210 (OwD.rdx h233) (fun _ _ _ h => h) hy238) ?_
                  rintro _ a243 w244 g244 ⟨⟨A239, cap240, rfl, h241⟩, F244⟩ hS243
                  replace h233 := OwS.fr h233 F244 (fun c' hc (hm : c' = N + 10) => by omega)
                  replace h8 := OwS.fr h8 F244 (fun c' hc (hm : c' = N + 10) => by omega)
                  replace hF := hF.trans F244 (fun c' (hm : c' = N + 10) => by show (r0 ≤ c' ∧ c' < r0 + 2) ∨ N ≤ c'; omega)
                  refine st_val hS243 rfl rfl rfl (r_assign hS243 rfl rfl) fun a245 hS245 => wpList_nil (hK _ _ ?_)
                  replace hS : Sl 96 _ [(15, .slice A239 y237.length cap240), (82, .slice A6 v94.length cap7), (83, .int .i64 (v94.length : Int)), (84, .int .i64 m3_1)] := hS245.re ⟨rfl, rfl, rfl, rfl, trivial⟩
                  clear hK K
                  try clear hS230 hS231 hS235 hS243 hS245
                  obtain ⟨a, ha⟩ : ∃ a', a' = a245 := ⟨_, rfl⟩
                  rw [← ha] at hS ⊢; clear ha
                  have e := Option.some.inj H
                  subst e
                  exact ⟨g244, A239, cap240, hS.re ⟨rfl, rfl, rfl, rfl, trivial⟩, h8, h241, hF⟩
                · replace H := ite_f hb229 H
                  refine wp_skip ?_
                  have e := Option.some.inj H
                  subst e
                  exact ⟨g207, A208, cap209, hS.re ⟨rfl, rfl, rfl, rfl, trivial⟩, h8, h210, hF⟩
              · clear H
                clear h8 h210 hF
                clear hS
                rintro a w214 ⟨g214, A215, cap216, hS, h8, h217, hF⟩
                have H := Hl220
                clear Hl220
                refine c_pure1 [(15, .slice A215 v218.length cap216), (82, .slice A6 v94.length cap7), (83, .int .i64 (v94.length : Int)), (84, .int .i64 (wi (m3_1 + 1)))] (fun R hR => st_val hS rfl rfl rfl (r_bin hS rfl rfl rfl b_add) fun a246 hS246 => st_val hS246 rfl rfl rfl (r_move hS246 rfl rfl) fun a247 hS247 => wpList_nil (hR _ (hS247.re ⟨rfl, rfl, rfl, rfl, trivial⟩))) ?_
                clear hS
                clear a
                intro a hS
                refine ⟨k211, Nat.lt_succ_self _, ?_⟩
                exact ⟨v218, wi (m3_1 + 1), g214, A215, cap216, H, hS.re ⟨rfl, rfl, rfl, rfl, trivial⟩, h8, h217, hF⟩
            · replace H := ite_f hb213 H
              refine wp_exit ?_
              have e := Option.some.inj H
              subst e
              exact ⟨g207, A208, cap209, hS.re ⟨rfl, trivial⟩, h210, hF⟩
      · clear H
        clear h8 hF
        clear hS
        rintro a w197 ⟨g197, A198, cap199, hS, h200, hF⟩
        have H := Hl203
        clear Hl203
        refine c_pure [(6, .slice A198 v201.length cap199), (7, .int .i64 0)] (fun R hR => st_val hS rfl rfl rfl (r_move hS rfl rfl) fun a248 hS248 => st_val hS248 rfl rfl rfl (r_assign hS248 rfl rfl) fun a249 hS249 => st_val hS249 rfl rfl rfl (r_assign hS249 rfl rfl) fun a250 hS250 => wpList_nil (hR _ (hS250.re ⟨rfl, rfl, trivial⟩))) ?_
        clear hS
        clear a
        intro a hS
        refine wp_ret ?_
        have e := Option.some.inj H
        subst e
        have F251 := Fr.recol2 w197 g197 (N + 10) r0
        replace h200 := h200.recol2 r0
        replace hF := hF.trans F251 (fun c' (hm : c' = N + 10 ∨ c' = N + 10 + 1) => by show (r0 ≤ c' ∧ c' < r0 + 2) ∨ N ≤ c'; omega)
        repeat (with_reducible first | refine then_ret ?_ | refine inBlock_ret ?_)
        exact c_ret2 hS Try.results59 rfl rfl ⟨_, rfl, (recol2 g197 (N + 10) r0), A198, cap199, rfl, h200, hF⟩


end Go.Proofs.Ytcfcffbjdjacfaa.Sim

namespace Go.Proofs.Ytcfcffbjdjacfaa.Sim
open Go
set_option linter.unusedVariables false
set_option linter.unusedSimpArgs false

/-! ### depgraph_reversed: function 58 -/
def depgraph_reversed.l0 (p0 : List api_Link) : Nat → (List api_Link) → Int → Option ((List api_Link))
  | 0, _, _ => none
  | k17 + 1, m0_0, m0_1 => if decide (m0_1 < (p0.length : Int)) = true then ((idx p0 m0_1).bind fun x20 => (app m0_0 [(api_Link.mk x20.Supplier x20.Consumer)]).bind fun y42 => depgraph_reversed.l0 p0 k17 y42 (wi (m0_1 + 1))) else (some m0_0)
def depgraph_reversed.f (p0 : List api_Link) : Option ((List api_Link)) := (depgraph_reversed.l0 p0 FUEL [] 0 : Option ((List api_Link))).bind fun v7 => some v7
set_option maxRecDepth 100000 in
set_option maxHeartbeats 4000000 in
theorem depgraph_reversed.calls {p0 : List api_Link} {A0 : Option Addr} {cap0 : Nat} {C0 : Nat → Prop} {w : World} {g : Nat → Nat} {out : (List api_Link)} (N : Nat) (r0 : Nat) (hp0 : RdS kd_api_Link w g C0 A0 cap0 p0) (hC0 : ∀ c, C0 c → c < N) (hr0 : r0 + 2 ≤ N) (H : depgraph_reversed.f p0 = some out) :
    Calls Try.prog 58 #[.slice A0 p0.length cap0] w (fun e w' => ∃ v, e = .returned v ∧ ∃ (g' : Nat → Nat) (A_r0 : Option Addr) (cap_r0 : Nat), v = .slice A_r0 out.length cap_r0 ∧ OwS kd_api_Link 67 w' g' r0 A_r0 cap_r0 out ∧ Fr (fun q => (r0 ≤ q ∧ q < r0 + 2) ∨ N ≤ q) w g w' g') := by
  unfold depgraph_reversed.f at H
  refine calls_enter Try.func58 rfl Try.ntmps58 rfl (fun a hS => ?_)
  replace hS : Sl 22 a [(0, .slice A0 p0.length cap0)] := hS
  have hF : Fr (fun q => (r0 ≤ q ∧ q < r0 + 2) ∨ N ≤ q) w g w g := Fr.refl _ _ _
  refine c_pure [(0, .slice A0 p0.length cap0)] (fun R hR => st_val hS rfl rfl rfl (r_assign hS rfl rfl) fun a1 hS1 => wpList_nil (hR _ (hS1.re ⟨rfl, trivial⟩))) ?_
  clear hS
  clear a
  intro a hS
  refine c_pure [(0, .slice A0 p0.length cap0), (3, .slice none 0 0)] (fun R hR => st_val hS rfl rfl rfl (r_assign hS rfl rfl) fun a2 hS2 => wpList_nil (hR _ (hS2.re ⟨rfl, rfl, trivial⟩))) ?_
  clear hS
  clear a
  intro a hS
  obtain ⟨v7, H, Hl9⟩ := bind_el H
  refine c_cut (fun a w3 => ∃ (g3 : Nat → Nat), ∃ (A4 : Option Addr), ∃ (cap5 : Nat), Sl 22 a [(3, .slice A4 v7.length cap5)] ∧ OwS kd_api_Link 67 w3 g3 (N + 4) A4 cap5 v7 ∧ Fr (fun q => (r0 ≤ q ∧ q < r0 + 2) ∨ N ≤ q) w g w3 g3) ?_ ?_
  · refine c_pure [(3, .slice none 0 0), (6, .slice A0 p0.length cap0), (7, .int .i64 (p0.length : Int)), (8, .int .i64 0)] (fun R hR => st_val hS rfl rfl rfl (r_move hS rfl rfl) fun a10 hS10 => st_val hS10 rfl rfl rfl (r_len (e := 67) (sz := 2) (by_ := 16) hS10 rfl rfl (by kernel_rfl)) fun a11 hS11 => st_val hS11 rfl rfl rfl (r_move hS11 rfl rfl) fun a12 hS12 => wpList_nil (hR _ (hS12.re ⟨rfl, rfl, rfl, rfl, trivial⟩))) ?_
    clear hS
    clear a
    intro a hS
    refine wp_block ?_
    refine wp_loop_ghost (fun kq => fun a w13 => ∃ (m0_0 : List api_Link), ∃ (m0_1 : Int), ∃ (g13 : Nat → Nat), ∃ (A14 : Option Addr), ∃ (cap15 : Nat), depgraph_reversed.l0 p0 kq m0_0 m0_1 = some v7 ∧ Sl 22 a [(3, .slice A14 m0_0.length cap15), (6, .slice A0 p0.length cap0), (7, .int .i64 (p0.length : Int)), (8, .int .i64 m0_1)] ∧ OwS kd_api_Link 67 w13 g13 (N + 4) A14 cap15 m0_0 ∧ RdS kd_api_Link w13 g13 C0 A0 cap0 p0 ∧ Fr (fun q => (r0 ≤ q ∧ q < r0 + 2) ∨ N ≤ q) w g w13 g13) FUEL ?_ ?_
    · exact ⟨[], 0, g, none, 0, H, hS.re ⟨rfl, rfl, rfl, rfl, trivial⟩, OwS.nil kd_api_Link 67 w g (N + 4), hp0, hF⟩
    · clear H
      clear hp0 hF
      clear hS
      rintro k17 a w13 ⟨m0_0, m0_1, g13, A14, cap15, hpre0, hS, h16, hp0, hF⟩
      have H := hpre0
      clear hpre0
      cases k17 with
      | zero => exact absurd H (by simp [depgraph_reversed.l0])
      | succ k17 =>
        rw [depgraph_reversed.l0] at H
        refine c_pure [(3, .slice A14 m0_0.length cap15), (6, .slice A0 p0.length cap0), (7, .int .i64 (p0.length : Int)), (8, .int .i64 m0_1), (9, .bool (decide (m0_1 < (p0.length : Int))))] (fun R hR => st_val hS rfl rfl rfl (r_bin hS rfl rfl rfl b_lss) fun a18 hS18 => wpList_nil (hR _ (hS18.re ⟨rfl, rfl, rfl, rfl, rfl, trivial⟩))) ?_
        clear hS
        clear a
        intro a hS
        refine c_if hS rfl (fun hb19 => ?_) (fun hb19 => ?_)
        · replace H := ite_t hb19 H
          refine wp_skip ?_
          change Code.wp _ _ _ _ _
          refine wp_seq ?_
          refine wp_block ?_
          obtain ⟨x20, hx21, H⟩ := bind_el H
          refine c_region (fun K hK => ?_)
          refine st_val hS rfl rfl rfl (r_index (e := 67) (sz := 2) (by_ := 16) hS rfl rfl rfl (by kernel_rfl) (RdS.some_ hp0 hx21) (idx_lo hx21) (idx_hi hx21)) fun a22 hS22 => st_val hS22 rfl rfl rfl (r_loadN (n := 2) (cs := [.int .i64 x20.Consumer, .int .i64 x20.Supplier]) hS22 rfl rfl (by kernel_rfl) rfl (RdS.cells_off hp0 hx21 0 2)) fun a23 hS23 => ?_
          refine st_eff hS23 rfl rfl rfl (e_alloc (cs := [.int .i64 0, .int .i64 0]) (N + 0) g13 hS23 rfl (by kernel_rfl)) ?_
          rintro _ a27 w28 g28 ⟨⟨b24, rfl, h25⟩, F28⟩ hS27
          replace h16 := OwS.fr h16 F28 (fun _ _ h => h)
          replace hp0 := RdS.fr hp0 F28 (by decide) (fun _ _ h => h)
          replace hF := hF.trans F28 (fun _ h => h.elim)
          refine st_effS hS27 rfl rfl (e_storeB (n := 2) (bb := true) (cs' := [.int .i64 x20.Consumer, .int .i64 x20.Supplier]) g28 hS27 rfl rfl rfl (by kernel_rfl) rfl rfl rfl h25 rfl rfl) ?_
          rintro a29 w30 g30 ⟨h25, F30⟩ hS29
          replace h16 := OwS.fr h16 F30 (fun c' hc (hm : c' = N + 0) => by omega)
          replace hp0 := RdS.fr hp0 F30 (by decide) (fun q (hq : C0 q) (hm : q = N + 0) => by have := hC0 q hq; omega)
          replace hF := hF.trans F30 (fun c' (hm : c' = N + 0) => by show (r0 ≤ c' ∧ c' < r0 + 2) ∨ N ≤ c'; omega)
          refine wpList_nil (hK _ _ ?_)
          replace hS : Sl 22 _ [(3, .slice A14 m0_0.length cap15), (5, .pointer (some ⟨b24, 0, none⟩)), (6, .slice A0 p0.length cap0), (7, .int .i64 (p0.length : Int)), (8, .int .i64 m0_1)] := hS29.re ⟨rfl, rfl, rfl, rfl, rfl, trivial⟩
          clear hK K
          try clear hS22 hS23 hS27 hS29
          obtain ⟨a, ha⟩ : ∃ a', a' = a29 := ⟨_, rfl⟩
          rw [← ha] at hS ⊢; clear ha
          obtain ⟨y42, hy43, H⟩ := bind_el H
          refine c_region1 (fun K hK => ?_)
          refine st_val hS rfl rfl rfl (r_move hS rfl rfl) fun a31 hS31 => st_val hS31 rfl rfl rfl (r_fieldB (off := 1) hS31 rfl rfl (by kernel_rfl)) fun a32 hS32 => st_val hS32 rfl rfl rfl (r_load1 (n := 1) hS32 rfl rfl (by kernel_rfl) (Bx.cell h25 rfl)) fun a33 hS33 => st_val hS33 rfl rfl rfl (r_fieldB (off := 0) hS33 rfl rfl (by kernel_rfl)) fun a34 hS34 => st_val hS34 rfl rfl rfl (r_load1 (n := 1) hS34 rfl rfl (by kernel_rfl) (Bx.cell h25 rfl)) fun a35 hS35 => st_val hS35 rfl rfl rfl (r_build (parts := [(0, .int .i64 x20.Supplier), (1, .int .i64 x20.Consumer)]) (u := .agg #[.int .i64 x20.Supplier, .int .i64 x20.Consumer]) hS35 rfl rfl (fun _ => by kernel_rfl)) fun a36 hS36 => ?_
          refine st_eff hS36 rfl rfl rfl (e_lit (e := 67) (parts := [(0, .agg #[.int .i64 x20.Supplier, .int .i64 x20.Consumer])]) (cs := [.int .i64 x20.Supplier, .int .i64 x20.Consumer]) kd_api_Link [(api_Link.mk x20.Supplier x20.Consumer)] (N + 2) g30 hS36 rfl rfl (fun _ => by kernel_rfl) rfl (by decide) (Rows.cons (cs := [.int .i64 x20.Supplier, .int .i64 x20.Consumer]) rfl Rows.nil)) ?_
          rintro _ a40 w41 g41 ⟨⟨A37, rfl, h38⟩, F41⟩ hS40
          replace h25 := h25.fr F41 (fun h => h)
          replace h16 := OwS.fr h16 F41 (fun _ _ h => h)
          replace hp0 := RdS.fr hp0 F41 (by decide) (fun _ _ h => h)
          replace hF := hF.trans F41 (fun _ h => h.elim)
          refine st_eff hS40 rfl rfl rfl (e_append (e := 67) (sz := 2) (by_ := 16) (z := [.int .i64 0, .int .i64 0]) (kd := kd_api_Link) g41 hS40 rfl rfl rfl rfl (by kernel_rfl) (by kernel_rfl) rfl rfl rfl rfl h16 (OwD.rdx h38) (fun _ _ _ h => h) hy43) ?_
          rintro _ a48 w49 g49 ⟨⟨A44, cap45, rfl, h46⟩, F49⟩ hS48
          replace h25 := h25.fr F49 (fun (hm : N + 0 = N + 4) => by omega)
          replace h38 := OwS.fr h38 F49 (fun c' hc (hm : c' = N + 4) => by omega)
          replace hp0 := RdS.fr hp0 F49 (by decide) (fun q (hq : C0 q) (hm : q = N + 4) => by have := hC0 q hq; omega)
          replace hF := hF.trans F49 (fun c' (hm : c' = N + 4) => by show (r0 ≤ c' ∧ c' < r0 + 2) ∨ N ≤ c'; omega)
          refine st_val hS48 rfl rfl rfl (r_assign hS48 rfl rfl) fun a50 hS50 => wpList_nil (hK _ _ ?_)
          replace hS : Sl 22 _ [(3, .slice A44 y42.length cap45), (6, .slice A0 p0.length cap0), (7, .int .i64 (p0.length : Int)), (8, .int .i64 m0_1)] := hS50.re ⟨rfl, rfl, rfl, rfl, trivial⟩
          clear hK K
          try clear hS31 hS32 hS33 hS34 hS35 hS36 hS40 hS48 hS50
          obtain ⟨a, ha⟩ : ∃ a', a' = a50 := ⟨_, rfl⟩
          rw [← ha] at hS ⊢; clear ha
          change Code.wp _ _ _ _ _
          refine c_pure1 [(3, .slice A44 y42.length cap45), (6, .slice A0 p0.length cap0), (7, .int .i64 (p0.length : Int)), (8, .int .i64 (wi (m0_1 + 1)))] (fun R hR => st_val hS rfl rfl rfl (r_bin hS rfl rfl rfl b_add) fun a51 hS51 => st_val hS51 rfl rfl rfl (r_move hS51 rfl rfl) fun a52 hS52 => wpList_nil (hR _ (hS52.re ⟨rfl, rfl, rfl, rfl, trivial⟩))) ?_
          clear hS
          clear a
          intro a hS
          refine ⟨k17, Nat.lt_succ_self _, ?_⟩
          exact ⟨y42, wi (m0_1 + 1), g49, A44, cap45, H, hS.re ⟨rfl, rfl, rfl, rfl, trivial⟩, h46, hp0, hF⟩
        · replace H := ite_f hb19 H
          refine wp_exit ?_
          have e := Option.some.inj H
          subst e
          exact ⟨g13, A14, cap15, hS.re ⟨rfl, trivial⟩, h16, hF⟩
  · clear H
    clear hp0 hF
    clear hS
    rintro a w3 ⟨g3, A4, cap5, hS, h6, hF⟩
    have H := Hl9
    clear Hl9
    refine c_pure [(2, .slice A4 v7.length cap5)] (fun R hR => st_val hS rfl rfl rfl (r_move hS rfl rfl) fun a53 hS53 => st_val hS53 rfl rfl rfl (r_assign hS53 rfl rfl) fun a54 hS54 => wpList_nil (hR _ (hS54.re ⟨rfl, trivial⟩))) ?_
    clear hS
    clear a
    intro a hS
    refine wp_ret ?_
    have e := Option.some.inj H
    subst e
    have F55 := Fr.recol2 w3 g3 (N + 4) r0
    replace h6 := h6.recol2 r0
    replace hF := hF.trans F55 (fun c' (hm : c' = N + 4 ∨ c' = N + 4 + 1) => by show (r0 ≤ c' ∧ c' < r0 + 2) ∨ N ≤ c'; omega)
    repeat (with_reducible first | refine then_ret ?_ | refine inBlock_ret ?_)
    exact c_ret1 hS Try.results58 rfl ⟨_, rfl, (recol2 g3 (N + 4) r0), A4, cap5, rfl, h6, hF⟩


end Go.Proofs.Ytcfcffbjdjacfaa.Sim

namespace Go.Proofs.Ytcfcffbjdjacfaa.Sim
open Go
set_option linter.unusedVariables false
set_option linter.unusedSimpArgs false

/-! ### depgraph_validate: function 56 -/
def depgraph_validate.l0 (p0 : Int) (p1 : List api_Link) : Nat → Int → Option (Fl (Int) (Unit))
  | 0, _ => none
  | k39 + 1, m0_0 => if decide (m0_0 < (p1.length : Int)) = true then ((idx p1 m0_0).bind fun x42 => if ((((decide (x42.Consumer < 0)) || (decide (p0 ≤ x42.Consumer))) || (decide (x42.Supplier < 0))) || (decide (p0 ≤ x42.Supplier))) = true then (some (.out 1)) else (depgraph_validate.l0 p0 p1 k39 (wi (m0_0 + 1)))) else (some (.nxt ()))
def depgraph_validate.l1 (p1 : List api_Link) : Nat → (List api_Link) → Int → Option (Fl (Int) (Unit))
  | 0, _, _ => none
  | k122 + 1, m1_0, m1_1 => if decide (m1_1 < (p1.length : Int)) = true then ((idx p1 m1_1).bind fun x125 => if decide (x125 ∈ m1_0) = true then (some (.out 7)) else (depgraph_validate.l1 p1 k122 (m1_0 ++ [x125]) (wi (m1_1 + 1)))) else (some (.nxt ()))
def depgraph_validate.f (p0 : Int) (p1 : List api_Link) : Option (Int) := if (((decide (p0 < 0)) || (decide (128 < p0))) || (decide (1024 < (p1.length : Int)))) = true then (some 1) else ((depgraph_validate.l0 p0 p1 FUEL 0 : Option (Fl (Int) (Unit))).bind fun o33 => o33.go fun _ => (depgraph_validate.l1 p1 FUEL ([] : List api_Link) 0 : Option (Fl (Int) (Unit))).bind fun o116 => o116.go fun _ => some 0)
set_option maxRecDepth 100000 in
set_option maxHeartbeats 4000000 in
theorem depgraph_validate.calls {p0 : Int} {p1 : List api_Link} {A1 : Option Addr} {cap1 : Nat} {C1 : Nat → Prop} {w : World} {g : Nat → Nat} {out : Int} (N : Nat) (hp1 : RdS kd_api_Link w g C1 A1 cap1 p1) (hC1 : ∀ c, C1 c → c < N) (H : depgraph_validate.f p0 p1 = some out) :
    Calls Try.prog 56 #[.int .i64 p0, .slice A1 p1.length cap1] w (fun e w' => ∃ v, e = .returned v ∧ ∃ (g' : Nat → Nat), v = .int .i64 out ∧ Fr (fun q => N ≤ q) w g w' g') := by
  unfold depgraph_validate.f at H
  refine calls_enter Try.func56 rfl Try.ntmps56 rfl (fun a hS => ?_)
  replace hS : Sl 61 a [(0, .int .i64 p0), (1, .slice A1 p1.length cap1)] := hS
  have hF : Fr (fun q => N ≤ q) w g w g := Fr.refl _ _ _
  refine c_pure [(0, .int .i64 p0), (1, .slice A1 p1.length cap1)] (fun R hR => st_val hS rfl rfl rfl (r_assign hS rfl rfl) fun a1 hS1 => wpList_nil (hR _ (hS1.re ⟨rfl, rfl, trivial⟩))) ?_
  clear hS
  clear a
  intro a hS
  refine wp_seq ?_
  refine c_region (fun K hK => ?_)
  refine st_val hS rfl rfl rfl (r_move hS rfl rfl) fun a2 hS2 => st_val hS2 rfl rfl rfl (r_bin hS2 rfl rfl rfl b_lss) fun a3 hS3 => st_val hS3 rfl rfl rfl (r_move hS3 rfl rfl) fun a4 hS4 => ?_
  refine g_join (N := 61) 3 [(0, .int .i64 p0), (1, .slice A1 p1.length cap1), (15, .bool ((decide (p0 < 0)) || (decide (128 < p0))))] ?_ (fun hk => ?_)
  rotate_left
  · rcases Bool.eq_false_or_eq_true (decide (p0 < 0)) with hb5 | hb5
    · refine st_off hS4 (want_off hS4 rfl rfl rfl hb5) rfl rfl fun a8 hS8 => st_off hS8 (want_off hS8 rfl rfl rfl hb5) rfl rfl fun a9 hS9 => st_val hS9 rfl rfl rfl (r_pickT hS9 rfl rfl rfl hb5) fun a10 hS10 => hk _ (hS10.re ⟨rfl, rfl, (by rw [hb5]; rfl), trivial⟩)
    · refine st_valW hS4 (want_on hS4 rfl rfl rfl hb5) rfl rfl (r_move hS4 rfl rfl) fun a11 hS11 => st_valW hS11 (want_on hS11 rfl rfl rfl hb5) rfl rfl (r_bin hS11 rfl rfl rfl b_gtr) fun a12 hS12 => st_val hS12 rfl rfl rfl (r_pickF hS12 rfl rfl rfl hb5) fun a13 hS13 => hk _ (hS13.re ⟨rfl, rfl, (by rw [hb5]; rfl), trivial⟩)
  intro a14 hS14
  refine st_val hS14 rfl rfl rfl (r_move hS14 rfl rfl) fun a15 hS15 => ?_
  refine g_join (N := 61) 4 [(0, .int .i64 p0), (1, .slice A1 p1.length cap1), (20, .bool (((decide (p0 < 0)) || (decide (128 < p0))) || (decide (1024 < (p1.length : Int)))))] ?_ (fun hk => ?_)
  rotate_left
  · rcases Bool.eq_false_or_eq_true (((decide (p0 < 0)) || (decide (128 < p0)))) with hb16 | hb16
    · refine st_off hS15 (want_off hS15 rfl rfl rfl hb16) rfl rfl fun a20 hS20 => st_off hS20 (want_off hS20 rfl rfl rfl hb16) rfl rfl fun a21 hS21 => st_off hS21 (want_off hS21 rfl rfl rfl hb16) rfl rfl fun a22 hS22 => st_val hS22 rfl rfl rfl (r_pickT hS22 rfl rfl rfl hb16) fun a23 hS23 => hk _ (hS23.re ⟨rfl, rfl, (by rw [hb16]; rfl), trivial⟩)
    · refine st_valW hS15 (want_on hS15 rfl rfl rfl hb16) rfl rfl (r_move hS15 rfl rfl) fun a24 hS24 => st_valW hS24 (want_on hS24 rfl rfl rfl hb16) rfl rfl (r_len (e := 67) (sz := 2) (by_ := 16) hS24 rfl rfl (by kernel_rfl)) fun a25 hS25 => st_valW hS25 (want_on hS25 rfl rfl rfl hb16) rfl rfl (r_bin hS25 rfl rfl rfl b_gtr) fun a26 hS26 => st_val hS26 rfl rfl rfl (r_pickF hS26 rfl rfl rfl hb16) fun a27 hS27 => hk _ (hS27.re ⟨rfl, rfl, (by rw [hb16]; rfl), trivial⟩)
  intro a28 hS28
  refine wpList_nil (hK _ _ ?_)
  replace hS : Sl 61 _ [(0, .int .i64 p0), (1, .slice A1 p1.length cap1), (20, .bool (((decide (p0 < 0)) || (decide (128 < p0))) || (decide (1024 < (p1.length : Int)))))] := hS28.re ⟨rfl, rfl, rfl, trivial⟩
  clear hK K
  try clear hS2 hS3 hS4 hS14 hS15 hS28
  obtain ⟨a, ha⟩ : ∃ a', a' = a28 := ⟨_, rfl⟩
  rw [← ha] at hS ⊢; clear ha
  refine c_cond hS rfl (fun hb29 => ?_) (fun hb29 => ?_)
  · replace H := ite_t hb29 H
    refine c_pure [(4, .int .i64 1)] (fun R hR => st_val hS rfl rfl rfl (r_assign hS rfl rfl) fun a30 hS30 => wpList_nil (hR _ (hS30.re ⟨rfl, trivial⟩))) ?_
    clear hS
    clear a
    intro a hS
    refine wp_ret ?_
    have e := Option.some.inj H
    subst e
    repeat (with_reducible first | refine then_ret ?_ | refine inBlock_ret ?_)
    exact c_ret1 hS Try.results56 rfl ⟨_, rfl, g, rfl, hF⟩
  · replace H := ite_f hb29 H
    refine wp_skip ?_
    change Code.wp _ _ _ _ _
    obtain ⟨o33, H, Hl34⟩ := bind_el H
    refine c_cut (fun a w31 => ∃ (g31 : Nat → Nat), o33 = .nxt () ∧ Sl 61 a [(1, .slice A1 p1.length cap1)] ∧ RdS kd_api_Link w31 g31 C1 A1 cap1 p1 ∧ Fr (fun q => N ≤ q) w g w31 g31) ?_ ?_
    · refine c_pure [(0, .int .i64 p0), (1, .slice A1 p1.length cap1), (21, .slice A1 p1.length cap1), (22, .int .i64 (p1.length : Int)), (23, .int .i64 0)] (fun R hR => st_val hS rfl rfl rfl (r_move hS rfl rfl) fun a35 hS35 => st_val hS35 rfl rfl rfl (r_len (e := 67) (sz := 2) (by_ := 16) hS35 rfl rfl (by kernel_rfl)) fun a36 hS36 => st_val hS36 rfl rfl rfl (r_move hS36 rfl rfl) fun a37 hS37 => wpList_nil (hR _ (hS37.re ⟨rfl, rfl, rfl, rfl, rfl, trivial⟩))) ?_
      clear hS
      clear a
      intro a hS
      refine wp_block ?_
      refine wp_loop_ghost (fun kq => fun a w38 => ∃ (m0_0 : Int), ∃ (g38 : Nat → Nat), depgraph_validate.l0 p0 p1 kq m0_0 = some o33 ∧ Sl 61 a [(0, .int .i64 p0), (1, .slice A1 p1.length cap1), (21, .slice A1 p1.length cap1), (22, .int .i64 (p1.length : Int)), (23, .int .i64 m0_0)] ∧ RdS kd_api_Link w38 g38 C1 A1 cap1 p1 ∧ Fr (fun q => N ≤ q) w g w38 g38) FUEL ?_ ?_
      · exact ⟨0, g, H, hS.re ⟨rfl, rfl, rfl, rfl, rfl, trivial⟩, hp1, hF⟩
      · clear H
        clear hp1 hF
        clear hS
        rintro k39 a w38 ⟨m0_0, g38, hpre0, hS, hp1, hF⟩
        have H := hpre0
        clear hpre0
        cases k39 with
        | zero => exact absurd H (by simp [depgraph_validate.l0])
        | succ k39 =>
          rw [depgraph_validate.l0] at H
          refine c_pure [(0, .int .i64 p0), (1, .slice A1 p1.length cap1), (21, .slice A1 p1.length cap1), (22, .int .i64 (p1.length : Int)), (23, .int .i64 m0_0), (24, .bool (decide (m0_0 < (p1.length : Int))))] (fun R hR => st_val hS rfl rfl rfl (r_bin hS rfl rfl rfl b_lss) fun a40 hS40 => wpList_nil (hR _ (hS40.re ⟨rfl, rfl, rfl, rfl, rfl, rfl, trivial⟩))) ?_
          clear hS
          clear a
          intro a hS
          refine c_if hS rfl (fun hb41 => ?_) (fun hb41 => ?_)
          · replace H := ite_t hb41 H
            refine wp_skip ?_
            change Code.wp _ _ _ _ _
            refine wp_seq ?_
            refine wp_block ?_
            obtain ⟨x42, hx43, H⟩ := bind_el H
            refine c_region (fun K hK => ?_)
            refine st_val hS rfl rfl rfl (r_index (e := 67) (sz := 2) (by_ := 16) hS rfl rfl rfl (by kernel_rfl) (RdS.some_ hp1 hx43) (idx_lo hx43) (idx_hi hx43)) fun a44 hS44 => st_val hS44 rfl rfl rfl (r_loadN (n := 2) (cs := [.int .i64 x42.Consumer, .int .i64 x42.Supplier]) hS44 rfl rfl (by kernel_rfl) rfl (RdS.cells_off hp1 hx43 0 2)) fun a45 hS45 => ?_
            refine st_eff hS45 rfl rfl rfl (e_alloc (cs := [.int .i64 0, .int .i64 0]) (N + 0) g38 hS45 rfl (by kernel_rfl)) ?_
            rintro _ a49 w50 g50 ⟨⟨b46, rfl, h47⟩, F50⟩ hS49
            replace hp1 := RdS.fr hp1 F50 (by decide) (fun _ _ h => h)
            replace hF := hF.trans F50 (fun _ h => h.elim)
            refine st_effS hS49 rfl rfl (e_storeB (n := 2) (bb := true) (cs' := [.int .i64 x42.Consumer, .int .i64 x42.Supplier]) g50 hS49 rfl rfl rfl (by kernel_rfl) rfl rfl rfl h47 rfl rfl) ?_
            rintro a51 w52 g52 ⟨h47, F52⟩ hS51
            replace hp1 := RdS.fr hp1 F52 (by decide) (fun q (hq : C1 q) (hm : q = N + 0) => by have := hC1 q hq; omega)
            replace hF := hF.trans F52 (fun c' (hm : c' = N + 0) => by show N ≤ c'; omega)
            refine wpList_nil (hK _ _ ?_)
            replace hS : Sl 61 _ [(0, .int .i64 p0), (1, .slice A1 p1.length cap1), (6, .pointer (some ⟨b46, 0, none⟩)), (21, .slice A1 p1.length cap1), (22, .int .i64 (p1.length : Int)), (23, .int .i64 m0_0)] := hS51.re ⟨rfl, rfl, rfl, rfl, rfl, rfl, trivial⟩
            clear hK K
            try clear hS44 hS45 hS49 hS51
            obtain ⟨a, ha⟩ : ∃ a', a' = a51 := ⟨_, rfl⟩
            rw [← ha] at hS ⊢; clear ha
            refine c_region (fun K hK => ?_)
            refine st_val hS rfl rfl rfl (r_fieldB (off := 0) hS rfl rfl (by kernel_rfl)) fun a53 hS53 => st_val hS53 rfl rfl rfl (r_load1 (n := 1) hS53 rfl rfl (by kernel_rfl) (Bx.cell h47 rfl)) fun a54 hS54 => st_val hS54 rfl rfl rfl (r_bin hS54 rfl rfl rfl b_lss) fun a55 hS55 => st_val hS55 rfl rfl rfl (r_move hS55 rfl rfl) fun a56 hS56 => ?_
            refine g_join (N := 61) 5 [(0, .int .i64 p0), (1, .slice A1 p1.length cap1), (6, .pointer (some ⟨b46, 0, none⟩)), (21, .slice A1 p1.length cap1), (22, .int .i64 (p1.length : Int)), (23, .int .i64 m0_0), (35, .bool ((decide (x42.Consumer < 0)) || (decide (p0 ≤ x42.Consumer))))] ?_ (fun hk => ?_)
            rotate_left
            · rcases Bool.eq_false_or_eq_true (decide (x42.Consumer < 0)) with hb57 | hb57
              · refine st_off hS56 (want_off hS56 rfl rfl rfl hb57) rfl rfl fun a62 hS62 => st_off hS62 (want_off hS62 rfl rfl rfl hb57) rfl rfl fun a63 hS63 => st_off hS63 (want_off hS63 rfl rfl rfl hb57) rfl rfl fun a64 hS64 => st_off hS64 (want_off hS64 rfl rfl rfl hb57) rfl rfl fun a65 hS65 => st_val hS65 rfl rfl rfl (r_pickT hS65 rfl rfl rfl hb57) fun a66 hS66 => hk _ (hS66.re ⟨rfl, rfl, rfl, rfl, rfl, rfl, (by rw [hb57]; rfl), trivial⟩)
              · refine st_valW hS56 (want_on hS56 rfl rfl rfl hb57) rfl rfl (r_fieldB (off := 0) hS56 rfl rfl (by kernel_rfl)) fun a67 hS67 => st_valW hS67 (want_on hS67 rfl rfl rfl hb57) rfl rfl (r_load1 (n := 1) hS67 rfl rfl (by kernel_rfl) (Bx.cell h47 rfl)) fun a68 hS68 => st_valW hS68 (want_on hS68 rfl rfl rfl hb57) rfl rfl (r_move hS68 rfl rfl) fun a69 hS69 => st_valW hS69 (want_on hS69 rfl rfl rfl hb57) rfl rfl (r_bin hS69 rfl rfl rfl b_geq) fun a70 hS70 => st_val hS70 rfl rfl rfl (r_pickF hS70 rfl rfl rfl hb57) fun a71 hS71 => hk _ (hS71.re ⟨rfl, rfl, rfl, rfl, rfl, rfl, (by rw [hb57]; rfl), trivial⟩)
            intro a72 hS72
            refine st_val hS72 rfl rfl rfl (r_move hS72 rfl rfl) fun a73 hS73 => ?_
            refine g_join (N := 61) 4 [(0, .int .i64 p0), (1, .slice A1 p1.length cap1), (6, .pointer (some ⟨b46, 0, none⟩)), (21, .slice A1 p1.length cap1), (22, .int .i64 (p1.length : Int)), (23, .int .i64 m0_0), (40, .bool (((decide (x42.Consumer < 0)) || (decide (p0 ≤ x42.Consumer))) || (decide (x42.Supplier < 0))))] ?_ (fun hk => ?_)
            rotate_left
            · rcases Bool.eq_false_or_eq_true (((decide (x42.Consumer < 0)) || (decide (p0 ≤ x42.Consumer)))) with hb74 | hb74
              · refine st_off hS73 (want_off hS73 rfl rfl rfl hb74) rfl rfl fun a78 hS78 => st_off hS78 (want_off hS78 rfl rfl rfl hb74) rfl rfl fun a79 hS79 => st_off hS79 (want_off hS79 rfl rfl rfl hb74) rfl rfl fun a80 hS80 => st_val hS80 rfl rfl rfl (r_pickT hS80 rfl rfl rfl hb74) fun a81 hS81 => hk _ (hS81.re ⟨rfl, rfl, rfl, rfl, rfl, rfl, (by rw [hb74]; rfl), trivial⟩)
              · refine st_valW hS73 (want_on hS73 rfl rfl rfl hb74) rfl rfl (r_fieldB (off := 1) hS73 rfl rfl (by kernel_rfl)) fun a82 hS82 => st_valW hS82 (want_on hS82 rfl rfl rfl hb74) rfl rfl (r_load1 (n := 1) hS82 rfl rfl (by kernel_rfl) (Bx.cell h47 rfl)) fun a83 hS83 => st_valW hS83 (want_on hS83 rfl rfl rfl hb74) rfl rfl (r_bin hS83 rfl rfl rfl b_lss) fun a84 hS84 => st_val hS84 rfl rfl rfl (r_pickF hS84 rfl rfl rfl hb74) fun a85 hS85 => hk _ (hS85.re ⟨rfl, rfl, rfl, rfl, rfl, rfl, (by rw [hb74]; rfl), trivial⟩)
            intro a86 hS86
            refine st_val hS86 rfl rfl rfl (r_move hS86 rfl rfl) fun a87 hS87 => ?_
            refine g_join (N := 61) 5 [(0, .int .i64 p0), (1, .slice A1 p1.length cap1), (21, .slice A1 p1.length cap1), (22, .int .i64 (p1.length : Int)), (23, .int .i64 m0_0), (46, .bool ((((decide (x42.Consumer < 0)) || (decide (p0 ≤ x42.Consumer))) || (decide (x42.Supplier < 0))) || (decide (p0 ≤ x42.Supplier))))] ?_ (fun hk => ?_)
            rotate_left
            · rcases Bool.eq_false_or_eq_true ((((decide (x42.Consumer < 0)) || (decide (p0 ≤ x42.Consumer))) || (decide (x42.Supplier < 0)))) with hb88 | hb88
              · refine st_off hS87 (want_off hS87 rfl rfl rfl hb88) rfl rfl fun a93 hS93 => st_off hS93 (want_off hS93 rfl rfl rfl hb88) rfl rfl fun a94 hS94 => st_off hS94 (want_off hS94 rfl rfl rfl hb88) rfl rfl fun a95 hS95 => st_off hS95 (want_off hS95 rfl rfl rfl hb88) rfl rfl fun a96 hS96 => st_val hS96 rfl rfl rfl (r_pickT hS96 rfl rfl rfl hb88) fun a97 hS97 => hk _ (hS97.re ⟨rfl, rfl, rfl, rfl, rfl, (by rw [hb88]; rfl), trivial⟩)
              · refine st_valW hS87 (want_on hS87 rfl rfl rfl hb88) rfl rfl (r_fieldB (off := 1) hS87 rfl rfl (by kernel_rfl)) fun a98 hS98 => st_valW hS98 (want_on hS98 rfl rfl rfl hb88) rfl rfl (r_load1 (n := 1) hS98 rfl rfl (by kernel_rfl) (Bx.cell h47 rfl)) fun a99 hS99 => st_valW hS99 (want_on hS99 rfl rfl rfl hb88) rfl rfl (r_move hS99 rfl rfl) fun a100 hS100 => st_valW hS100 (want_on hS100 rfl rfl rfl hb88) rfl rfl (r_bin hS100 rfl rfl rfl b_geq) fun a101 hS101 => st_val hS101 rfl rfl rfl (r_pickF hS101 rfl rfl rfl hb88) fun a102 hS102 => hk _ (hS102.re ⟨rfl, rfl, rfl, rfl, rfl, (by rw [hb88]; rfl), trivial⟩)
            intro a103 hS103
            refine wpList_nil (hK _ _ ?_)
            replace hS : Sl 61 _ [(0, .int .i64 p0), (1, .slice A1 p1.length cap1), (21, .slice A1 p1.length cap1), (22, .int .i64 (p1.length : Int)), (23, .int .i64 m0_0), (46, .bool ((((decide (x42.Consumer < 0)) || (decide (p0 ≤ x42.Consumer))) || (decide (x42.Supplier < 0))) || (decide (p0 ≤ x42.Supplier))))] := hS103.re ⟨rfl, rfl, rfl, rfl, rfl, rfl, trivial⟩
            clear hK K
            try clear hS53 hS54 hS55 hS56 hS72 hS73 hS86 hS87 hS103
            obtain ⟨a, ha⟩ : ∃ a', a' = a103 := ⟨_, rfl⟩
            rw [← ha] at hS ⊢; clear ha
            refine c_cond hS rfl (fun hb104 => ?_) (fun hb104 => ?_)
            · replace H := ite_t hb104 H
              refine c_pure [(4, .int .i64 1)] (fun R hR => st_val hS rfl rfl rfl (r_assign hS rfl rfl) fun a105 hS105 => wpList_nil (hR _ (hS105.re ⟨rfl, trivial⟩))) ?_
              clear hS
              clear a
              intro a hS
              refine wp_ret ?_
              have e := Option.some.inj H
              subst e
              replace H := Fl.go_out Hl34
              have e := Option.some.inj H
              subst e
              repeat (with_reducible first | refine then_ret ?_ | refine inBlock_ret ?_)
              exact c_ret1 hS Try.results56 rfl ⟨_, rfl, g52, rfl, hF⟩
            · replace H := ite_f hb104 H
              refine wp_skip ?_
              change Code.wp _ _ _ _ _
              refine c_pure1 [(0, .int .i64 p0), (1, .slice A1 p1.length cap1), (21, .slice A1 p1.length cap1), (22, .int .i64 (p1.length : Int)), (23, .int .i64 (wi (m0_0 + 1)))] (fun R hR => st_val hS rfl rfl rfl (r_bin hS rfl rfl rfl b_add) fun a106 hS106 => st_val hS106 rfl rfl rfl (r_move hS106 rfl rfl) fun a107 hS107 => wpList_nil (hR _ (hS107.re ⟨rfl, rfl, rfl, rfl, rfl, trivial⟩))) ?_
              clear hS
              clear a
              intro a hS
              refine ⟨k39, Nat.lt_succ_self _, ?_⟩
              exact ⟨wi (m0_0 + 1), g52, H, hS.re ⟨rfl, rfl, rfl, rfl, rfl, trivial⟩, hp1, hF⟩
          · replace H := ite_f hb41 H
            refine wp_exit ?_
            have e := Option.some.inj H
            exact ⟨g38, e.symm, hS.re ⟨rfl, trivial⟩, hp1, hF⟩
    · clear H
      clear hp1 hF
      clear hS
      rintro a w31 ⟨g31, hpre0, hS, hp1, hF⟩
      subst hpre0
      have H := Fl.go_nxt Hl34
      clear Hl34
      refine c_region (fun K hK => ?_)
      refine st_eff hS rfl rfl rfl (e_makeMap enc_api_Link (N + 2) g31 hS rfl) ?_
      rintro _ a111 w112 g112 ⟨⟨b108, rfl, h109⟩, F112⟩ hS111
      replace hp1 := RdS.fr hp1 F112 (by decide) (fun _ _ h => h)
      replace hF := hF.trans F112 (fun _ h => h.elim)
      refine st_val hS111 rfl rfl rfl (r_assign hS111 rfl rfl) fun a113 hS113 => wpList_nil (hK _ _ ?_)
      replace hS : Sl 61 _ [(1, .slice A1 p1.length cap1), (7, .map (some b108))] := hS113.re ⟨rfl, rfl, trivial⟩
      clear hK K
      try clear hS111 hS113
      obtain ⟨a, ha⟩ : ∃ a', a' = a113 := ⟨_, rfl⟩
      rw [← ha] at hS ⊢; clear ha
      obtain ⟨o116, H, Hl117⟩ := bind_el H
      refine c_cut (fun a w114 => ∃ (g114 : Nat → Nat), o116 = .nxt () ∧ Sl 61 a [] ∧ Fr (fun q => N ≤ q) w g w114 g114) ?_ ?_
      · refine c_pure [(7, .map (some b108)), (49, .slice A1 p1.length cap1), (50, .int .i64 (p1.length : Int)), (51, .int .i64 0)] (fun R hR => st_val hS rfl rfl rfl (r_move hS rfl rfl) fun a118 hS118 => st_val hS118 rfl rfl rfl (r_len (e := 67) (sz := 2) (by_ := 16) hS118 rfl rfl (by kernel_rfl)) fun a119 hS119 => st_val hS119 rfl rfl rfl (r_move hS119 rfl rfl) fun a120 hS120 => wpList_nil (hR _ (hS120.re ⟨rfl, rfl, rfl, rfl, trivial⟩))) ?_
        clear hS
        clear a
        intro a hS
        refine wp_block ?_
        refine wp_loop_ghost (fun kq => fun a w121 => ∃ (m1_0 : List api_Link), ∃ (m1_1 : Int), ∃ (g121 : Nat → Nat), depgraph_validate.l1 p1 kq m1_0 m1_1 = some o116 ∧ Sl 61 a [(7, .map (some b108)), (49, .slice A1 p1.length cap1), (50, .int .i64 (p1.length : Int)), (51, .int .i64 m1_1)] ∧ MapS enc_api_Link w121 g121 (N + 2) b108 m1_0 ∧ RdS kd_api_Link w121 g121 C1 A1 cap1 p1 ∧ Fr (fun q => N ≤ q) w g w121 g121) FUEL ?_ ?_
        · exact ⟨([] : List api_Link), 0, g112, H, hS.re ⟨rfl, rfl, rfl, rfl, trivial⟩, h109, hp1, hF⟩
        · clear H
          clear hp1 h109 hF
          clear hS
          rintro k122 a w121 ⟨m1_0, m1_1, g121, hpre0, hS, h109, hp1, hF⟩
          have H := hpre0
          clear hpre0
          cases k122 with
          | zero => exact absurd H (by simp [depgraph_validate.l1])
          | succ k122 =>
            rw [depgraph_validate.l1] at H
            refine c_pure [(7, .map (some b108)), (49, .slice A1 p1.length cap1), (50, .int .i64 (p1.length : Int)), (51, .int .i64 m1_1), (52, .bool (decide (m1_1 < (p1.length : Int))))] (fun R hR => st_val hS rfl rfl rfl (r_bin hS rfl rfl rfl b_lss) fun a123 hS123 => wpList_nil (hR _ (hS123.re ⟨rfl, rfl, rfl, rfl, rfl, trivial⟩))) ?_
            clear hS
            clear a
            intro a hS
            refine c_if hS rfl (fun hb124 => ?_) (fun hb124 => ?_)
            · replace H := ite_t hb124 H
              refine wp_skip ?_
              change Code.wp _ _ _ _ _
              refine wp_seq ?_
              refine wp_block ?_
              obtain ⟨x125, hx126, H⟩ := bind_el H
              refine c_region (fun K hK => ?_)
              refine st_val hS rfl rfl rfl (r_index (e := 67) (sz := 2) (by_ := 16) hS rfl rfl rfl (by kernel_rfl) (RdS.some_ hp1 hx126) (idx_lo hx126) (idx_hi hx126)) fun a127 hS127 => st_val hS127 rfl rfl rfl (r_loadN (n := 2) (cs := [.int .i64 x125.Consumer, .int .i64 x125.Supplier]) hS127 rfl rfl (by kernel_rfl) rfl (RdS.cells_off hp1 hx126 0 2)) fun a128 hS128 => ?_
              refine st_eff hS128 rfl rfl rfl (e_alloc (cs := [.int .i64 0, .int .i64 0]) (N + 4) g121 hS128 rfl (by kernel_rfl)) ?_
              rintro _ a132 w133 g133 ⟨⟨b129, rfl, h130⟩, F133⟩ hS132
              replace h109 := MapS.fr h109 F133 (fun h => h)
              replace hp1 := RdS.fr hp1 F133 (by decide) (fun _ _ h => h)
              replace hF := hF.trans F133 (fun _ h => h.elim)
              refine st_effS hS132 rfl rfl (e_storeB (n := 2) (bb := true) (cs' := [.int .i64 x125.Consumer, .int .i64 x125.Supplier]) g133 hS132 rfl rfl rfl (by kernel_rfl) rfl rfl rfl h130 rfl rfl) ?_
              rintro a134 w135 g135 ⟨h130, F135⟩ hS134
              replace h109 := MapS.fr h109 F135 (fun (hm : N + 2 = N + 4) => by omega)
              replace hp1 := RdS.fr hp1 F135 (by decide) (fun q (hq : C1 q) (hm : q = N + 4) => by have := hC1 q hq; omega)
              replace hF := hF.trans F135 (fun c' (hm : c' = N + 4) => by show N ≤ c'; omega)
              refine wpList_nil (hK _ _ ?_)
              replace hS : Sl 61 _ [(7, .map (some b108)), (9, .pointer (some ⟨b129, 0, none⟩)), (49, .slice A1 p1.length cap1), (50, .int .i64 (p1.length : Int)), (51, .int .i64 m1_1)] := hS134.re ⟨rfl, rfl, rfl, rfl, rfl, trivial⟩
              clear hK K
              try clear hS127 hS128 hS132 hS134
              obtain ⟨a, ha⟩ : ∃ a', a' = a134 := ⟨_, rfl⟩
              rw [← ha] at hS ⊢; clear ha
              refine wp_seq ?_
              refine c_pure [(7, .map (some b108)), (9, .pointer (some ⟨b129, 0, none⟩)), (49, .slice A1 p1.length cap1), (50, .int .i64 (p1.length : Int)), (51, .int .i64 m1_1), (57, .bool (decide (x125 ∈ m1_0)))] (fun R hR => st_val hS rfl rfl rfl (r_move hS rfl rfl) fun a136 hS136 => st_val hS136 rfl rfl rfl (r_loadN (n := 2) (cs := [.int .i64 x125.Consumer, .int .i64 x125.Supplier]) hS136 rfl rfl (by kernel_rfl) rfl (Bx.cells_off h130 0 2)) fun a137 hS137 => st_val hS137 rfl rfl rfl (r_lookup (K := 67) (E := 4) (enc := enc_api_Link) (k := x125) hS137 rfl rfl rfl (by kernel_rfl) (by kernel_rfl) key_api_Link h109) fun a138 hS138 => wpList_nil (hR _ (hS138.re ⟨rfl, rfl, rfl, rfl, rfl, rfl, trivial⟩))) ?_
              clear hS
              clear a
              intro a hS
              refine c_cond hS rfl (fun hb139 => ?_) (fun hb139 => ?_)
              · replace H := ite_t hb139 H
                refine c_pure [(4, .int .i64 7)] (fun R hR => st_val hS rfl rfl rfl (r_assign hS rfl rfl) fun a140 hS140 => wpList_nil (hR _ (hS140.re ⟨rfl, trivial⟩))) ?_
                clear hS
                clear a
                intro a hS
                refine wp_ret ?_
                have e := Option.some.inj H
                subst e
                replace H := Fl.go_out Hl117
                have e := Option.some.inj H
                subst e
                repeat (with_reducible first | refine then_ret ?_ | refine inBlock_ret ?_)
                exact c_ret1 hS Try.results56 rfl ⟨_, rfl, g135, rfl, hF⟩
              · replace H := ite_f hb139 H
                refine wp_skip ?_
                change Code.wp _ _ _ _ _
                refine c_region1 (fun K hK => ?_)
                refine st_val hS rfl rfl rfl (r_move hS rfl rfl) fun a141 hS141 => st_val hS141 rfl rfl rfl (r_loadN (n := 2) (cs := [.int .i64 x125.Consumer, .int .i64 x125.Supplier]) hS141 rfl rfl (by kernel_rfl) rfl (Bx.cells_off h130 0 2)) fun a142 hS142 => ?_
                refine st_effS hS142 rfl rfl (e_mapUpdate (K := 67) (E := 4) (enc := enc_api_Link) (k := x125) g135 hS142 rfl rfl rfl rfl (by kernel_rfl) key_api_Link h109 hb139) ?_
                rintro a143 w144 g144 ⟨h109, F144⟩ hS143
                replace h130 := h130.fr F144 (fun (hm : N + 4 = N + 2) => by omega)
                replace hp1 := RdS.fr hp1 F144 (by decide) (fun q (hq : C1 q) (hm : q = N + 2) => by have := hC1 q hq; omega)
                replace hF := hF.trans F144 (fun c' (hm : c' = N + 2) => by show N ≤ c'; omega)
                refine wpList_nil (hK _ _ ?_)
                replace hS : Sl 61 _ [(7, .map (some b108)), (49, .slice A1 p1.length cap1), (50, .int .i64 (p1.length : Int)), (51, .int .i64 m1_1)] := hS143.re ⟨rfl, rfl, rfl, rfl, trivial⟩
                clear hK K
                try clear hS141 hS142 hS143
                obtain ⟨a, ha⟩ : ∃ a', a' = a143 := ⟨_, rfl⟩
                rw [← ha] at hS ⊢; clear ha
                change Code.wp _ _ _ _ _
                refine c_pure1 [(7, .map (some b108)), (49, .slice A1 p1.length cap1), (50, .int .i64 (p1.length : Int)), (51, .int .i64 (wi (m1_1 + 1)))] (fun R hR => st_val hS rfl rfl rfl (r_bin hS rfl rfl rfl b_add) fun a145 hS145 => st_val hS145 rfl rfl rfl (r_move hS145 rfl rfl) fun a146 hS146 => wpList_nil (hR _ (hS146.re ⟨rfl, rfl, rfl, rfl, trivial⟩))) ?_
                clear hS
                clear a
                intro a hS
                refine ⟨k122, Nat.lt_succ_self _, ?_⟩
                exact ⟨(m1_0 ++ [x125]), wi (m1_1 + 1), g144, H, hS.re ⟨rfl, rfl, rfl, rfl, trivial⟩, h109, hp1, hF⟩
            · replace H := ite_f hb124 H
              refine wp_exit ?_
              have e := Option.some.inj H
              exact ⟨g121, e.symm, hS.re trivial, hF⟩
      · clear H
        clear hp1 h109 hF
        clear hS
        rintro a w114 ⟨g114, hpre0, hS, hF⟩
        subst hpre0
        have H := Fl.go_nxt Hl117
        clear Hl117
        refine c_pure [(4, .int .i64 0)] (fun R hR => st_val hS rfl rfl rfl (r_assign hS rfl rfl) fun a147 hS147 => wpList_nil (hR _ (hS147.re ⟨rfl, trivial⟩))) ?_
        clear hS
        clear a
        intro a hS
        refine wp_ret ?_
        have e := Option.some.inj H
        subst e
        repeat (with_reducible first | refine then_ret ?_ | refine inBlock_ret ?_)
        exact c_ret1 hS Try.results56 rfl ⟨_, rfl, g114, rfl, hF⟩


end Go.Proofs.Ytcfcffbjdjacfaa.Sim

namespace Go.Proofs.Ytcfcffbjdjacfaa.Sim
open Go
set_option linter.unusedVariables false
set_option linter.unusedSimpArgs false

/-! ### depgraph_Suppliers: function 35 -/
def depgraph_Suppliers.f (p0 : Int) (p1 : List api_Link) (p2 : List Int) : Option ((List Int) × Int) := (depgraph_validate.f p0 p1).bind fun r5 => if (r5 != 0) = true then (some ([], r5)) else ((depgraph_reversed.f p1).bind fun r18 => (depgraph_adjacent.f p0 r18).bind fun r26 => (depgraph_closure.f p0 r26.1 p2).bind fun r46 => some (r46.1, r46.2))
set_option maxRecDepth 100000 in
set_option maxHeartbeats 4000000 in
theorem depgraph_Suppliers.calls {p0 : Int} {p1 : List api_Link} {A1 : Option Addr} {cap1 : Nat} {C1 : Nat → Prop} {p2 : List Int} {A2 : Option Addr} {cap2 : Nat} {C2 : Nat → Prop} {w : World} {g : Nat → Nat} {out : (List Int) × Int} (N : Nat) (r0 : Nat) (hp1 : RdS kd_api_Link w g C1 A1 cap1 p1) (hC1 : ∀ c, C1 c → c < N) (hp2 : RdS (kint .i64) w g C2 A2 cap2 p2) (hC2 : ∀ c, C2 c → c < N) (hr0 : r0 + 2 ≤ N) (H : depgraph_Suppliers.f p0 p1 p2 = some out) :
    Calls Try.prog 35 #[.int .i64 p0, .slice A1 p1.length cap1, .slice A2 p2.length cap2] w (fun e w' => ∃ v, e = .returned v ∧ ∃ (g' : Nat → Nat) (A_r0 : Option Addr) (cap_r0 : Nat), v = .tuple #[.slice A_r0 out.1.length cap_r0, .int .i64 out.2] ∧ OwS (kint .i64) 3 w' g' r0 A_r0 cap_r0 out.1 ∧ Fr (fun q => (r0 ≤ q ∧ q < r0 + 2) ∨ N ≤ q) w g w' g') := by
  unfold depgraph_Suppliers.f at H
  refine calls_enter Try.func35 rfl Try.ntmps35 rfl (fun a hS => ?_)
  replace hS : Sl 30 a [(0, .int .i64 p0), (1, .slice A1 p1.length cap1), (2, .slice A2 p2.length cap2)] := hS
  have hF : Fr (fun q => (r0 ≤ q ∧ q < r0 + 2) ∨ N ≤ q) w g w g := Fr.refl _ _ _
  refine c_pure [(0, .int .i64 p0), (1, .slice A1 p1.length cap1), (2, .slice A2 p2.length cap2)] (fun R hR => st_val hS rfl rfl rfl (r_assign hS rfl rfl) fun a1 hS1 => st_val hS1 rfl rfl rfl (r_assign hS1 rfl rfl) fun a2 hS2 => wpList_nil (hR _ (hS2.re ⟨rfl, rfl, rfl, trivial⟩))) ?_
  clear hS
  clear a
  intro a hS
  refine wp_seq ?_
  obtain ⟨r5, hr6, H⟩ := bind_el H
  refine c_region (fun K hK => ?_)
  refine st_val hS rfl rfl rfl (r_move hS rfl rfl) fun a3 hS3 => st_val hS3 rfl rfl rfl (r_move hS3 rfl rfl) fun a4 hS4 => ?_
  refine st_enter hS4 rfl rfl rfl (r_call hS4 rfl rfl (by kernel_rfl)) (depgraph_validate.calls (C1 := C1) (p0 := p0) (p1 := p1) (g := g) (N + 8)  hp1 (fun q (hq : C1 q) => by have := hC1 q hq; omega) hr6) ?_
  rintro _ a7 w8 ⟨g8, rfl, F8⟩ hS7
  replace hp1 := RdS.fr hp1 F8 (by decide) (fun q (hq : C1 q) (hm : N + 8 ≤ q) => by have := hC1 q hq; omega)
  replace hp2 := RdS.fr hp2 F8 (by decide) (fun q (hq : C2 q) (hm : N + 8 ≤ q) => by have := hC2 q hq; omega)
  replace hF := hF.trans F8 (fun c' (hm : N + 8 ≤ c') => by show (r0 ≤ c' ∧ c' < r0 + 2) ∨ N ≤ c'; omega)
  refine st_val hS7 rfl rfl rfl (r_assign hS7 rfl rfl) fun a9 hS9 => wpList_nil (hK _ _ ?_)
  replace hS : Sl 30 _ [(0, .int .i64 p0), (1, .slice A1 p1.length cap1), (2, .slice A2 p2.length cap2), (8, .int .i64 r5)] := hS9.re ⟨rfl, rfl, rfl, rfl, trivial⟩
  clear hK K
  try clear hS3 hS4 hS7 hS9
  obtain ⟨a, ha⟩ : ∃ a', a' = a9 := ⟨_, rfl⟩
  rw [← ha] at hS ⊢; clear ha
  refine c_pure [(0, .int .i64 p0), (1, .slice A1 p1.length cap1), (2, .slice A2 p2.length cap2), (8, .int .i64 r5), (15, .bool (r5 != 0))] (fun R hR => st_val hS rfl rfl rfl (r_move hS rfl rfl) fun a10 hS10 => st_val hS10 rfl rfl rfl (r_bin hS10 rfl rfl rfl b_neq) fun a11 hS11 => wpList_nil (hR _ (hS11.re ⟨rfl, rfl, rfl, rfl, rfl, trivial⟩))) ?_
  clear hS
  clear a
  intro a hS
  refine c_cond hS rfl (fun hb12 => ?_) (fun hb12 => ?_)
  · replace H := ite_t hb12 H
    refine c_pure [(6, .slice none 0 0), (7, .int .i64 r5)] (fun R hR => st_val hS rfl rfl rfl (r_move hS rfl rfl) fun a13 hS13 => st_val hS13 rfl rfl rfl (r_assign hS13 rfl rfl) fun a14 hS14 => st_val hS14 rfl rfl rfl (r_assign hS14 rfl rfl) fun a15 hS15 => wpList_nil (hR _ (hS15.re ⟨rfl, rfl, trivial⟩))) ?_
    clear hS
    clear a
    intro a hS
    refine wp_ret ?_
    have e := Option.some.inj H
    subst e
    repeat (with_reducible first | refine then_ret ?_ | refine inBlock_ret ?_)
    exact c_ret2 hS Try.results35 rfl rfl ⟨_, rfl, g8, none, 0, rfl, OwS.nil (kint .i64) 3 w8 g8 r0, hF⟩
  · replace H := ite_f hb12 H
    refine wp_skip ?_
    change Code.wp _ _ _ _ _
    obtain ⟨r18, hr19, H⟩ := bind_el H
    obtain ⟨r26, hr27, H⟩ := bind_el H
    refine c_region (fun K hK => ?_)
    refine st_val hS rfl rfl rfl (r_move hS rfl rfl) fun a16 hS16 => st_val hS16 rfl rfl rfl (r_move hS16 rfl rfl) fun a17 hS17 => ?_
    refine st_enter hS17 rfl rfl rfl (r_call hS17 rfl rfl (by kernel_rfl)) (depgraph_reversed.calls (C0 := C1) (p0 := p1) (g := g8) (N + 8) (N + 0) hp1 (fun q (hq : C1 q) => by have := hC1 q hq; omega) (by omega) hr19) ?_
    rintro _ a24 w25 ⟨g25, A20, cap21, rfl, h22, F25⟩ hS24
    replace hp1 := RdS.fr hp1 F25 (by decide) (fun q (hq : C1 q) (hm : (N + 0 ≤ q ∧ q < N + 0 + 2) ∨ N + 8 ≤ q) => by have := hC1 q hq; omega)
    replace hp2 := RdS.fr hp2 F25 (by decide) (fun q (hq : C2 q) (hm : (N + 0 ≤ q ∧ q < N + 0 + 2) ∨ N + 8 ≤ q) => by have := hC2 q hq; omega)
    replace hF := hF.trans F25 (fun c' (hm : (N + 0 ≤ c' ∧ c' < N + 0 + 2) ∨ N + 8 ≤ c') => by show (r0 ≤ c' ∧ c' < r0 + 2) ∨ N ≤ c'; omega)
    refine st_enter hS24 rfl rfl rfl (r_call hS24 rfl rfl (by kernel_rfl)) (depgraph_adjacent.calls (C1 := (fun q => q = N + 0)) (p0 := p0) (p1 := r18) (g := g25) (N + 8) (N + 2) (N + 4) (OwD.rdf (fun _ _ _ _ _ _ h => h) h22) (fun q (hq : q = N + 0) => by omega) (by omega) (by omega) (by omega) hr27) ?_
    rintro _ a36 w37 ⟨g37, A28, cap29, A32, cap33, rfl, h30, h34, F37⟩ hS36
    replace h22 := OwS.fr h22 F37 (fun c' hc (hm : (N + 2 ≤ c' ∧ c' < N + 2 + 2) ∨ (N + 4 ≤ c' ∧ c' < N + 4 + 2) ∨ N + 8 ≤ c') => by omega)
    replace hp1 := RdS.fr hp1 F37 (by decide) (fun q (hq : C1 q) (hm : (N + 2 ≤ q ∧ q < N + 2 + 2) ∨ (N + 4 ≤ q ∧ q < N + 4 + 2) ∨ N + 8 ≤ q) => by have := hC1 q hq; omega)
    replace hp2 := RdS.fr hp2 F37 (by decide) (fun q (hq : C2 q) (hm : (N + 2 ≤ q ∧ q < N + 2 + 2) ∨ (N + 4 ≤ q ∧ q < N + 4 + 2) ∨ N + 8 ≤ q) => by have := hC2 q hq; omega)
    replace hF := hF.trans F37 (fun c' (hm : (N + 2 ≤ c' ∧ c' < N + 2 + 2) ∨ (N + 4 ≤ c' ∧ c' < N + 4 + 2) ∨ N + 8 ≤ c') => by show (r0 ≤ c' ∧ c' < r0 + 2) ∨ N ≤ c'; omega)
    refine st_val hS36 rfl rfl rfl (r_move hS36 rfl rfl) fun a38 hS38 => st_val hS38 rfl rfl rfl (r_extract hS38 rfl rfl rfl) fun a39 hS39 => st_val hS39 rfl rfl rfl (r_extract hS39 rfl rfl rfl) fun a40 hS40 => st_val hS40 rfl rfl rfl (r_assign hS40 rfl rfl) fun a41 hS41 => st_val hS41 rfl rfl rfl (r_assign hS41 rfl rfl) fun a42 hS42 => wpList_nil (hK _ _ ?_)
    replace hS : Sl 30 _ [(0, .int .i64 p0), (2, .slice A2 p2.length cap2), (9, .slice A28 r26.1.length cap29)] := hS42.re ⟨rfl, rfl, rfl, trivial⟩
    clear hK K
    try clear hS16 hS17 hS24 hS36 hS38 hS39 hS40 hS41 hS42
    obtain ⟨a, ha⟩ : ∃ a', a' = a42 := ⟨_, rfl⟩
    rw [← ha] at hS ⊢; clear ha
    obtain ⟨r46, hr47, H⟩ := bind_el H
    refine c_region (fun K hK => ?_)
    refine st_val hS rfl rfl rfl (r_move hS rfl rfl) fun a43 hS43 => st_val hS43 rfl rfl rfl (r_move hS43 rfl rfl) fun a44 hS44 => st_val hS44 rfl rfl rfl (r_move hS44 rfl rfl) fun a45 hS45 => ?_
    refine st_enter hS45 rfl rfl rfl (r_call hS45 rfl rfl (by kernel_rfl)) (depgraph_closure.calls (C1 := (fun q => q = N + 2 ∨ q = N + 2 + 1)) (C2 := C2) (p0 := p0) (p1 := r26.1) (p2 := p2) (g := g37) (N + 8) (N + 6) (OwS.rd h30) (fun q (hq : q = N + 2 ∨ q = N + 2 + 1) => by rcases hq with hq | hq; all_goals first | (omega; done) | (omega; done)) hp2 (fun q (hq : C2 q) => by have := hC2 q hq; omega) (by omega) hr47) ?_
    rintro _ a52 w53 ⟨g53, A48, cap49, rfl, h50, F53⟩ hS52
    replace h30 := OwS.fr h30 F53 (fun c' hc (hm : (N + 6 ≤ c' ∧ c' < N + 6 + 2) ∨ N + 8 ≤ c') => by omega)
    replace hp2 := RdS.fr hp2 F53 (by decide) (fun q (hq : C2 q) (hm : (N + 6 ≤ q ∧ q < N + 6 + 2) ∨ N + 8 ≤ q) => by have := hC2 q hq; omega)
    replace hF := hF.trans F53 (fun c' (hm : (N + 6 ≤ c' ∧ c' < N + 6 + 2) ∨ N + 8 ≤ c') => by show (r0 ≤ c' ∧ c' < r0 + 2) ∨ N ≤ c'; omega)
    refine st_val hS52 rfl rfl rfl (r_extract hS52 rfl rfl rfl) fun a54 hS54 => st_val hS54 rfl rfl rfl (r_extract hS54 rfl rfl rfl) fun a55 hS55 => st_val hS55 rfl rfl rfl (r_assign hS55 rfl rfl) fun a56 hS56 => st_val hS56 rfl rfl rfl (r_assign hS56 rfl rfl) fun a57 hS57 => wpList_nil (hK _ _ ?_)
    replace hS : Sl 30 _ [(6, .slice A48 r46.1.length cap49), (7, .int .i64 r46.2)] := hS57.re ⟨rfl, rfl, trivial⟩
    clear hK K
    try clear hS43 hS44 hS45 hS52 hS54 hS55 hS56 hS57
    obtain ⟨a, ha⟩ : ∃ a', a' = a57 := ⟨_, rfl⟩
    rw [← ha] at hS ⊢; clear ha
    refine wp_ret ?_
    have e := Option.some.inj H
    subst e
    have F58 := Fr.recol2 w53 g53 (N + 6) r0
    replace h50 := h50.recol2 r0
    replace hF := hF.trans F58 (fun c' (hm : c' = N + 6 ∨ c' = N + 6 + 1) => by show (r0 ≤ c' ∧ c' < r0 + 2) ∨ N ≤ c'; omega)
    repeat (with_reducible first | refine then_ret ?_ | refine inBlock_ret ?_)
    exact c_ret2 hS Try.results35 rfl rfl ⟨_, rfl, (recol2 g53 (N + 6) r0), A48, cap49, rfl, h50, hF⟩


end Go.Proofs.Ytcfcffbjdjacfaa.Sim

namespace Go.Proofs.Ytcfcffbjdjacfaa.Sim
open Go
set_option linter.unusedVariables false
set_option linter.unusedSimpArgs false

/-! ### runtimepm_Manager_has: function 50 -/
def runtimepm_Manager_has.f (p0 : runtimepm_Manager) (p1 : Int) : Option (Bool) := some ((decide (0 ≤ p1)) && (decide (p1 < (p0.devices.length : Int))))
set_option maxRecDepth 100000 in
set_option maxHeartbeats 4000000 in
theorem runtimepm_Manager_has.calls {p0 : runtimepm_Manager} {c0 : Nat}  {b_p0 : Nat} {A_devices_p0 : Option Addr} {cap_devices_p0 : Nat} {A_links_p0 : Option Addr} {cap_links_p0 : Nat} {A_order_p0 : Option Addr} {cap_order_p0 : Nat} {p1 : Int} {w : World} {g : Nat → Nat} {out : Bool} (N : Nat) (hp0 : runtimepm_Manager_At w g c0 b_p0 A_devices_p0 cap_devices_p0 A_links_p0 cap_links_p0 A_order_p0 cap_order_p0 p0) (hc0 : c0 + 7 ≤ N) (H : runtimepm_Manager_has.f p0 p1 = some out) :
    Calls Try.prog 50 #[.pointer (some ⟨b_p0, 0, none⟩), .int .i64 p1] w (fun e w' => ∃ v, e = .returned v ∧ ∃ (g' : Nat → Nat), v = .bool out ∧ Fr (fun q => N ≤ q) w g w' g') := by
  unfold runtimepm_Manager_has.f at H
  refine calls_enter Try.func50 rfl Try.ntmps50 rfl (fun a hS => ?_)
  replace hS : Sl 16 a [(0, .pointer (some ⟨b_p0, 0, none⟩)), (1, .int .i64 p1)] := hS
  have hF : Fr (fun q => N ≤ q) w g w g := Fr.refl _ _ _
  obtain ⟨hb0, hf0_devices, hf0_links, hf0_order⟩ := hp0
  refine c_pure [(0, .pointer (some ⟨b_p0, 0, none⟩)), (1, .int .i64 p1)] (fun R hR => st_val hS rfl rfl rfl (r_assign hS rfl rfl) fun a1 hS1 => wpList_nil (hR _ (hS1.re ⟨rfl, rfl, trivial⟩))) ?_
  clear hS
  clear a
  intro a hS
  refine c_region (fun K hK => ?_)
  refine st_val hS rfl rfl rfl (r_move hS rfl rfl) fun a2 hS2 => st_val hS2 rfl rfl rfl (r_bin hS2 rfl rfl rfl b_geq) fun a3 hS3 => st_val hS3 rfl rfl rfl (r_move hS3 rfl rfl) fun a4 hS4 => ?_
  refine g_join (N := 16) 8 [(15, .bool ((decide (0 ≤ p1)) && (decide (p1 < (p0.devices.length : Int)))))] ?_ (fun hk => ?_)
  rotate_left
  · rcases Bool.eq_false_or_eq_true (decide (0 ≤ p1)) with hb5 | hb5
    · refine st_valW hS4 (want_on hS4 rfl rfl rfl hb5) rfl rfl (r_move hS4 rfl rfl) fun a13 hS13 => st_valW hS13 (want_on hS13 rfl rfl rfl hb5) rfl rfl (r_move hS13 rfl rfl) fun a14 hS14 => st_valW hS14 (want_on hS14 rfl rfl rfl hb5) rfl rfl (r_nil hS14 rfl rfl) fun a15 hS15 => st_valW hS15 (want_on hS15 rfl rfl rfl hb5) rfl rfl (r_fieldB (off := 0) hS15 rfl rfl (by kernel_rfl)) fun a16 hS16 => st_valW hS16 (want_on hS16 rfl rfl rfl hb5) rfl rfl (r_load1 (n := 1) hS16 rfl rfl (by kernel_rfl) (Bx.cell hb0 rfl)) fun a17 hS17 => st_valW hS17 (want_on hS17 rfl rfl rfl hb5) rfl rfl (r_len (e := 88) (sz := 6) (by_ := 80) hS17 rfl rfl (by kernel_rfl)) fun a18 hS18 => st_valW hS18 (want_on hS18 rfl rfl rfl hb5) rfl rfl (r_bin hS18 rfl rfl rfl b_lss) fun a19 hS19 => st_val hS19 rfl rfl rfl (r_pickT hS19 rfl rfl rfl hb5) fun a20 hS20 => hk _ (hS20.re ⟨(by rw [hb5]; rfl), trivial⟩)
    · refine st_off hS4 (want_off hS4 rfl rfl rfl hb5) rfl rfl fun a21 hS21 => st_off hS21 (want_off hS21 rfl rfl rfl hb5) rfl rfl fun a22 hS22 => st_off hS22 (want_off hS22 rfl rfl rfl hb5) rfl rfl fun a23 hS23 => st_off hS23 (want_off hS23 rfl rfl rfl hb5) rfl rfl fun a24 hS24 => st_off hS24 (want_off hS24 rfl rfl rfl hb5) rfl rfl fun a25 hS25 => st_off hS25 (want_off hS25 rfl rfl rfl hb5) rfl rfl fun a26 hS26 => st_off hS26 (want_off hS26 rfl rfl rfl hb5) rfl rfl fun a27 hS27 => st_val hS27 rfl rfl rfl (r_pickF hS27 rfl rfl rfl hb5) fun a28 hS28 => hk _ (hS28.re ⟨(by rw [hb5]; rfl), trivial⟩)
  intro a29 hS29
  refine st_val hS29 rfl rfl rfl (r_assign hS29 rfl rfl) fun a30 hS30 => wpList_nil (hK _ _ ?_)
  replace hS : Sl 16 _ [(4, .bool ((decide (0 ≤ p1)) && (decide (p1 < (p0.devices.length : Int)))))] := hS30.re ⟨rfl, trivial⟩
  clear hK K
  try clear hS2 hS3 hS4 hS29 hS30
  obtain ⟨a, ha⟩ : ∃ a', a' = a30 := ⟨_, rfl⟩
  rw [← ha] at hS ⊢; clear ha
  refine wp_ret ?_
  have e := Option.some.inj H
  subst e
  repeat (with_reducible first | refine then_ret ?_ | refine inBlock_ret ?_)
  exact c_ret1 hS Try.results50 rfl ⟨_, rfl, g, rfl, hF⟩


end Go.Proofs.Ytcfcffbjdjacfaa.Sim

namespace Go.Proofs.Ytcfcffbjdjacfaa.Sim
open Go
set_option linter.unusedVariables false
set_option linter.unusedSimpArgs false

/-! ### slices_Index_int_int: function 90 -/
def slices_Index_int_int.l0 (p0 : List Int) (p1 : Int) : Nat → Int → Option (Fl (Int) (Unit))
  | 0, _ => none
  | k8 + 1, m0_0 => if decide (m0_0 < (p0.length : Int)) = true then ((idx p0 m0_0).bind fun x16 => if (p1 == x16) = true then (some (.out m0_0)) else (slices_Index_int_int.l0 p0 p1 k8 (wi (m0_0 + 1)))) else (some (.nxt ()))
def slices_Index_int_int.f (p0 : List Int) (p1 : Int) : Option (Int) := (slices_Index_int_int.l0 p0 p1 FUEL 0 : Option (Fl (Int) (Unit))).bind fun o3 => o3.go fun _ => some (-1)
set_option maxRecDepth 100000 in
set_option maxHeartbeats 4000000 in
theorem slices_Index_int_int.calls {p0 : List Int} {A0 : Option Addr} {cap0 : Nat} {C0 : Nat → Prop} {p1 : Int} {w : World} {g : Nat → Nat} {out : Int} (N : Nat) (hp0 : RdS (kint .i64) w g C0 A0 cap0 p0) (hC0 : ∀ c, C0 c → c < N) (H : slices_Index_int_int.f p0 p1 = some out) :
    Calls Try.prog 90 #[.slice A0 p0.length cap0, .int .i64 p1] w (fun e w' => ∃ v, e = .returned v ∧ ∃ (g' : Nat → Nat), v = .int .i64 out ∧ Fr (fun q => N ≤ q) w g w' g') := by
  unfold slices_Index_int_int.f at H
  refine calls_enter Try.func90 rfl Try.ntmps90 rfl (fun a hS => ?_)
  replace hS : Sl 19 a [(0, .slice A0 p0.length cap0), (1, .int .i64 p1)] := hS
  have hF : Fr (fun q => N ≤ q) w g w g := Fr.refl _ _ _
  refine c_pure [(0, .slice A0 p0.length cap0), (1, .int .i64 p1)] (fun R hR => st_val hS rfl rfl rfl (r_assign hS rfl rfl) fun a1 hS1 => wpList_nil (hR _ (hS1.re ⟨rfl, rfl, trivial⟩))) ?_
  clear hS
  clear a
  intro a hS
  obtain ⟨o3, H, Hl4⟩ := bind_el H
  refine c_cut (fun a w' => o3 = .nxt () ∧ w = w' ∧ Sl 19 a []) ?_ ?_
  · refine c_pure [(0, .slice A0 p0.length cap0), (1, .int .i64 p1), (7, .int .i64 (p0.length : Int)), (8, .int .i64 0)] (fun R hR => st_val hS rfl rfl rfl (r_move hS rfl rfl) fun a5 hS5 => st_val hS5 rfl rfl rfl (r_len (e := 3) (sz := 1) (by_ := 8) hS5 rfl rfl (by kernel_rfl)) fun a6 hS6 => st_val hS6 rfl rfl rfl (r_move hS6 rfl rfl) fun a7 hS7 => wpList_nil (hR _ (hS7.re ⟨rfl, rfl, rfl, rfl, trivial⟩))) ?_
    clear hS
    clear a
    intro a hS
    refine wp_block ?_
    refine wp_loop_ghost (fun kq => fun a w' => ∃ (m0_0 : Int), slices_Index_int_int.l0 p0 p1 kq m0_0 = some o3 ∧ w = w' ∧ Sl 19 a [(0, .slice A0 p0.length cap0), (1, .int .i64 p1), (7, .int .i64 (p0.length : Int)), (8, .int .i64 m0_0)]) FUEL ?_ ?_
    · exact ⟨0, H, rfl, hS.re ⟨rfl, rfl, rfl, rfl, trivial⟩⟩
    · clear H
      clear hS
      rintro k8 a w' ⟨m0_0, hpre0, hw, hS⟩
      subst hw
      have H := hpre0
      clear hpre0
      cases k8 with
      | zero => exact absurd H (by simp [slices_Index_int_int.l0])
      | succ k8 =>
        rw [slices_Index_int_int.l0] at H
        refine c_pure [(0, .slice A0 p0.length cap0), (1, .int .i64 p1), (7, .int .i64 (p0.length : Int)), (8, .int .i64 m0_0), (9, .bool (decide (m0_0 < (p0.length : Int))))] (fun R hR => st_val hS rfl rfl rfl (r_bin hS rfl rfl rfl b_lss) fun a9 hS9 => wpList_nil (hR _ (hS9.re ⟨rfl, rfl, rfl, rfl, rfl, trivial⟩))) ?_
        clear hS
        clear a
        intro a hS
        refine c_if hS rfl (fun hb10 => ?_) (fun hb10 => ?_)
        · replace H := ite_t hb10 H
          refine wp_skip ?_
          change Code.wp _ _ _ _ _
          refine wp_seq ?_
          refine wp_block ?_
          refine c_pure [(0, .slice A0 p0.length cap0), (1, .int .i64 p1), (5, .int .i64 m0_0), (7, .int .i64 (p0.length : Int)), (8, .int .i64 m0_0)] (fun R hR => st_val hS rfl rfl rfl (r_move hS rfl rfl) fun a11 hS11 => st_val hS11 rfl rfl rfl (r_assign hS11 rfl rfl) fun a12 hS12 => wpList_nil (hR _ (hS12.re ⟨rfl, rfl, rfl, rfl, rfl, trivial⟩))) ?_
          clear hS
          clear a
          intro a hS
          obtain ⟨x16, hx17, H⟩ := bind_el H
          refine c_pure [(0, .slice A0 p0.length cap0), (1, .int .i64 p1), (5, .int .i64 m0_0), (7, .int .i64 (p0.length : Int)), (8, .int .i64 m0_0), (16, .bool (p1 == x16))] (fun R hR => st_val hS rfl rfl rfl (r_move hS rfl rfl) fun a13 hS13 => st_val hS13 rfl rfl rfl (r_move hS13 rfl rfl) fun a14 hS14 => st_val hS14 rfl rfl rfl (r_move hS14 rfl rfl) fun a15 hS15 => st_val hS15 rfl rfl rfl (r_index (e := 3) (sz := 1) (by_ := 8) hS15 rfl rfl rfl (by kernel_rfl) (RdS.some_ hp0 hx17) (idx_lo hx17) (idx_hi hx17)) fun a18 hS18 => st_val hS18 rfl rfl rfl (r_load1 (n := 1) hS18 rfl rfl (by kernel_rfl) (RdS.cell (i := m0_0) (sz := 1) (j := 0) hp0 hx17 rfl)) fun a19 hS19 => st_val hS19 rfl rfl rfl (r_bin hS19 rfl rfl rfl b_eql) fun a20 hS20 => wpList_nil (hR _ (hS20.re ⟨rfl, rfl, rfl, rfl, rfl, rfl, trivial⟩))) ?_
          clear hS
          clear a
          intro a hS
          refine c_cond hS rfl (fun hb21 => ?_) (fun hb21 => ?_)
          · replace H := ite_t hb21 H
            refine c_pure [(4, .int .i64 m0_0)] (fun R hR => st_val hS rfl rfl rfl (r_move hS rfl rfl) fun a22 hS22 => st_val hS22 rfl rfl rfl (r_assign hS22 rfl rfl) fun a23 hS23 => wpList_nil (hR _ (hS23.re ⟨rfl, trivial⟩))) ?_
            clear hS
            clear a
            intro a hS
            refine wp_ret ?_
            have e := Option.some.inj H
            subst e
            replace H := Fl.go_out Hl4
            have e := Option.some.inj H
            subst e
            repeat (with_reducible first | refine then_ret ?_ | refine inBlock_ret ?_)
            exact c_ret1 hS Try.results90 rfl ⟨_, rfl, g, rfl, hF⟩
          · replace H := ite_f hb21 H
            refine wp_skip ?_
            change Code.wp _ _ _ _ _
            refine c_pure1 [(0, .slice A0 p0.length cap0), (1, .int .i64 p1), (7, .int .i64 (p0.length : Int)), (8, .int .i64 (wi (m0_0 + 1)))] (fun R hR => st_val hS rfl rfl rfl (r_bin hS rfl rfl rfl b_add) fun a24 hS24 => st_val hS24 rfl rfl rfl (r_move hS24 rfl rfl) fun a25 hS25 => wpList_nil (hR _ (hS25.re ⟨rfl, rfl, rfl, rfl, trivial⟩))) ?_
            clear hS
            clear a
            intro a hS
            refine ⟨k8, Nat.lt_succ_self _, ?_⟩
            exact ⟨wi (m0_0 + 1), H, rfl, hS.re ⟨rfl, rfl, rfl, rfl, trivial⟩⟩
        · replace H := ite_f hb10 H
          refine wp_exit ?_
          have e := Option.some.inj H
          exact ⟨e.symm, rfl, hS.re trivial⟩
  · clear H
    clear hS
    rintro a w' ⟨hpre0, hw, hS⟩
    subst hpre0
    subst hw
    have H := Fl.go_nxt Hl4
    clear Hl4
    refine c_pure [(4, .int .i64 (-1))] (fun R hR => st_val hS rfl rfl rfl (r_assign hS rfl rfl) fun a26 hS26 => wpList_nil (hR _ (hS26.re ⟨rfl, trivial⟩))) ?_
    clear hS
    clear a
    intro a hS
    refine wp_ret ?_
    have e := Option.some.inj H
    subst e
    repeat (with_reducible first | refine then_ret ?_ | refine inBlock_ret ?_)
    exact c_ret1 hS Try.results90 rfl ⟨_, rfl, g, rfl, hF⟩


end Go.Proofs.Ytcfcffbjdjacfaa.Sim

namespace Go.Proofs.Ytcfcffbjdjacfaa.Sim
open Go
set_option linter.unusedVariables false
set_option linter.unusedSimpArgs false

/-! ### slices_Contains_int_int: function 69 -/
def slices_Contains_int_int.f (p0 : List Int) (p1 : Int) : Option (Bool) := (slices_Index_int_int.f p0 p1).bind fun r4 => some (decide (0 ≤ r4))
set_option maxRecDepth 100000 in
set_option maxHeartbeats 4000000 in
theorem slices_Contains_int_int.calls {p0 : List Int} {A0 : Option Addr} {cap0 : Nat} {C0 : Nat → Prop} {p1 : Int} {w : World} {g : Nat → Nat} {out : Bool} (N : Nat) (hp0 : RdS (kint .i64) w g C0 A0 cap0 p0) (hC0 : ∀ c, C0 c → c < N) (H : slices_Contains_int_int.f p0 p1 = some out) :
    Calls Try.prog 69 #[.slice A0 p0.length cap0, .int .i64 p1] w (fun e w' => ∃ v, e = .returned v ∧ ∃ (g' : Nat → Nat), v = .bool out ∧ Fr (fun q => N ≤ q) w g w' g') := by
  unfold slices_Contains_int_int.f at H
  refine calls_enter Try.func69 rfl Try.ntmps69 rfl (fun a hS => ?_)
  replace hS : Sl 9 a [(0, .slice A0 p0.length cap0), (1, .int .i64 p1)] := hS
  have hF : Fr (fun q => N ≤ q) w g w g := Fr.refl _ _ _
  refine c_pure [(0, .slice A0 p0.length cap0), (1, .int .i64 p1)] (fun R hR => st_val hS rfl rfl rfl (r_assign hS rfl rfl) fun a1 hS1 => wpList_nil (hR _ (hS1.re ⟨rfl, rfl, trivial⟩))) ?_
  clear hS
  clear a
  intro a hS
  obtain ⟨r4, hr5, H⟩ := bind_el H
  refine c_region (fun K hK => ?_)
  refine st_val hS rfl rfl rfl (r_move hS rfl rfl) fun a2 hS2 => st_val hS2 rfl rfl rfl (r_move hS2 rfl rfl) fun a3 hS3 => ?_
  refine st_enter hS3 rfl rfl rfl (r_call hS3 rfl rfl (by kernel_rfl)) (slices_Index_int_int.calls (C0 := C0) (p0 := p0) (p1 := p1) (g := g) (N + 0)  hp0 (fun q (hq : C0 q) => by have := hC0 q hq; omega) hr5) ?_
  rintro _ a6 w7 ⟨g7, rfl, F7⟩ hS6
  replace hp0 := RdS.fr hp0 F7 (by decide) (fun q (hq : C0 q) (hm : N + 0 ≤ q) => by have := hC0 q hq; omega)
  replace hF := hF.trans F7 (fun c' (hm : N + 0 ≤ c') => by show N ≤ c'; omega)
  refine st_val hS6 rfl rfl rfl (r_bin hS6 rfl rfl rfl b_geq) fun a8 hS8 => st_val hS8 rfl rfl rfl (r_assign hS8 rfl rfl) fun a9 hS9 => wpList_nil (hK _ _ ?_)
  replace hS : Sl 9 _ [(4, .bool (decide (0 ≤ r4)))] := hS9.re ⟨rfl, trivial⟩
  clear hK K
  try clear hS2 hS3 hS6 hS8 hS9
  obtain ⟨a, ha⟩ : ∃ a', a' = a9 := ⟨_, rfl⟩
  rw [← ha] at hS ⊢; clear ha
  refine wp_ret ?_
  have e := Option.some.inj H
  subst e
  repeat (with_reducible first | refine then_ret ?_ | refine inBlock_ret ?_)
  exact c_ret1 hS Try.results69 rfl ⟨_, rfl, g7, rfl, hF⟩


end Go.Proofs.Ytcfcffbjdjacfaa.Sim

namespace Go.Proofs.Ytcfcffbjdjacfaa.Sim
open Go
set_option linter.unusedVariables false
set_option linter.unusedSimpArgs false

/-! ### runtimepm_Manager_Get: function 43 -/
def runtimepm_Manager_Get.l0 (p2 : Int) (r49 : runtimepm_Manager × (List api_PowerOp)) (r86 : (List Int) × Int) : Nat → runtimepm_Manager → (List api_PowerOp) → Int → Option ((List api_PowerOp) × runtimepm_Manager)
  | 0, _, _, _ => none
  | k136 + 1, m0_0, m0_1, m0_2 => if decide (m0_2 < (r49.1.order.length : Int)) = true then (((idx m0_0.order m0_2).bind fun x146 => (slices_Contains_int_int.f r86.1 x146).bind fun r153 => (if r153 = true then (idx m0_0.devices x146).bind fun x164 => some (!x164.active) else some false).bind fun t180 => if t180 = true then ((idx m0_0.devices x146).bind fun x223 => (app m0_1 [(api_PowerOp.mk x146 true p2)]).bind fun y248 => some ((runtimepm_Manager.mk (upd m0_0.devices x146 ({ x223 with active := true } : runtimepm_device)) m0_0.links m0_0.order m0_0.now), y248)) else (some (m0_0, m0_1)) : Option (runtimepm_Manager × (List api_PowerOp))).bind fun v143 => runtimepm_Manager_Get.l0 p2 r49 r86 k136 v143.1 v143.2 (wi (m0_2 + 1))) else (some (m0_1, m0_0))
def runtimepm_Manager_Get.f (p0 : runtimepm_Manager) (p1 : Int) (p2 : Int) : Option (runtimepm_Manager × (List api_PowerOp) × Int) := (runtimepm_Manager_has.f p0 p1).bind fun r5 => (if (!r5) = true then some true else (runtimepm_Manager_valid.f p0 p2).bind fun r14 => some (!r14)).bind fun t19 => if t19 = true then (some (p0, [], 1)) else ((runtimepm_Manager_expire.f (runtimepm_Manager.mk p0.devices p0.links p0.order p2) p2).bind fun r49 => (idx r49.1.devices p1).bind fun x63 => (depgraph_Suppliers.f ((upd r49.1.devices p1 ({ x63 with count := wi (x63.count + 1) } : runtimepm_device)).length : Int) r49.1.links [p1]).bind fun r86 => (runtimepm_Manager_Get.l0 p2 r49 r86 FUEL (runtimepm_Manager.mk (upd r49.1.devices p1 ({ x63 with count := wi (x63.count + 1) } : runtimepm_device)) r49.1.links r49.1.order r49.1.now) r49.2 0 : Option ((List api_PowerOp) × runtimepm_Manager)).bind fun v123 => some (v123.2, v123.1, 0))
set_option maxRecDepth 100000 in
set_option maxHeartbeats 4000000 in
theorem runtimepm_Manager_Get.calls {p0 : runtimepm_Manager} {c0 : Nat}  {b_p0 : Nat} {A_devices_p0 : Option Addr} {cap_devices_p0 : Nat} {A_links_p0 : Option Addr} {cap_links_p0 : Nat} {A_order_p0 : Option Addr} {cap_order_p0 : Nat} {p1 : Int} {p2 : Int} {w : World} {g : Nat → Nat} {out : runtimepm_Manager × (List api_PowerOp) × Int} (N : Nat) (r0 : Nat) (hp0 : runtimepm_Manager_At w g c0 b_p0 A_devices_p0 cap_devices_p0 A_links_p0 cap_links_p0 A_order_p0 cap_order_p0 p0) (hc0 : c0 + 7 ≤ N) (hr0 : r0 + 2 ≤ N) (hq0_0 : r0 + 2 ≤ c0 ∨ c0 + 7 ≤ r0) (H : runtimepm_Manager_Get.f p0 p1 p2 = some out) :
    Calls Try.prog 43 #[.pointer (some ⟨b_p0, 0, none⟩), .int .i64 p1, .int .u64 p2] w (fun e w' => ∃ v, e = .returned v ∧ ∃ (g' : Nat → Nat) (A_r0 : Option Addr) (cap_r0 : Nat), v = .tuple #[.slice A_r0 out.2.1.length cap_r0, .int .i64 out.2.2] ∧ runtimepm_Manager_At w' g' c0 b_p0 A_devices_p0 cap_devices_p0 A_links_p0 cap_links_p0 A_order_p0 cap_order_p0 out.1 ∧ OwS kd_api_PowerOp 47 w' g' r0 A_r0 cap_r0 out.2.1 ∧ Fr (fun q => (c0 ≤ q ∧ q < c0 + 7) ∨ (r0 ≤ q ∧ q < r0 + 2) ∨ N ≤ q) w g w' g') := by
  unfold runtimepm_Manager_Get.f at H
  refine calls_enter Try.func43 rfl Try.ntmps43 rfl (fun a hS => ?_)
  replace hS : Sl 94 a [(0, .pointer (some ⟨b_p0, 0, none⟩)), (1, .int .i64 p1), (2, .int .u64 p2)] := hS
  have hF : Fr (fun q => (c0 ≤ q ∧ q < c0 + 7) ∨ (r0 ≤ q ∧ q < r0 + 2) ∨ N ≤ q) w g w g := Fr.refl _ _ _
  obtain ⟨hb0, hf0_devices, hf0_links, hf0_order⟩ := hp0
  refine c_pure [(0, .pointer (some ⟨b_p0, 0, none⟩)), (1, .int .i64 p1), (2, .int .u64 p2)] (fun R hR => st_val hS rfl rfl rfl (r_assign hS rfl rfl) fun a1 hS1 => st_val hS1 rfl rfl rfl (r_assign hS1 rfl rfl) fun a2 hS2 => wpList_nil (hR _ (hS2.re ⟨rfl, rfl, rfl, trivial⟩))) ?_
  clear hS
  clear a
  intro a hS
  refine wp_seq ?_
  obtain ⟨r5, hr6, H⟩ := bind_el H
  obtain ⟨t19, ht20, H⟩ := bind_el H
  refine c_region (fun K hK => ?_)
  refine st_val hS rfl rfl rfl (r_move hS rfl rfl) fun a3 hS3 => st_val hS3 rfl rfl rfl (r_move hS3 rfl rfl) fun a4 hS4 => ?_
  refine st_enter hS4 rfl rfl rfl (r_call hS4 rfl rfl (by kernel_rfl)) (runtimepm_Manager_has.calls (c0 := c0) (b_p0 := b_p0) (A_devices_p0 := A_devices_p0) (cap_devices_p0 := cap_devices_p0) (A_links_p0 := A_links_p0) (cap_links_p0 := cap_links_p0) (A_order_p0 := A_order_p0) (cap_order_p0 := cap_order_p0) (p0 := p0) (p1 := p1) (g := g) (N + 8)  ⟨hb0, hf0_devices, hf0_links, hf0_order⟩ (by omega) hr6) ?_
  rintro _ a7 w8 ⟨g8, rfl, F8⟩ hS7
  replace hb0 := hb0.fr F8 (fun (hm : N + 8 ≤ c0) => by omega)
  replace hf0_devices := OwS.fr hf0_devices F8 (fun c' hc (hm : N + 8 ≤ c') => by omega)
  replace hf0_links := OwS.fr hf0_links F8 (fun c' hc (hm : N + 8 ≤ c') => by omega)
  replace hf0_order := OwS.fr hf0_order F8 (fun c' hc (hm : N + 8 ≤ c') => by omega)
  replace hF := hF.trans F8 (fun c' (hm : N + 8 ≤ c') => by show (c0 ≤ c' ∧ c' < c0 + 7) ∨ (r0 ≤ c' ∧ c' < r0 + 2) ∨ N ≤ c'; omega)
  refine st_val hS7 rfl rfl rfl (r_not hS7 rfl rfl) fun a9 hS9 => st_val hS9 rfl rfl rfl (r_move hS9 rfl rfl) fun a10 hS10 => ?_
  refine g_joinR 5 (fun a w21 => ∃ (g21 : Nat → Nat), Sl 94 a [(0, .pointer (some ⟨b_p0, 0, none⟩)), (1, .int .i64 p1), (2, .int .u64 p2), (22, .bool t19)] ∧ Bx w21 g21 (c0) b_p0 85 [.slice A_devices_p0 p0.devices.length cap_devices_p0, .slice A_links_p0 p0.links.length cap_links_p0, .slice A_order_p0 p0.order.length cap_order_p0, .int .u64 p0.now] ∧ OwS kd_runtimepm_device 88 w21 g21 (c0 + 1) A_devices_p0 cap_devices_p0 p0.devices ∧ OwS kd_api_Link 67 w21 g21 (c0 + 3) A_links_p0 cap_links_p0 p0.links ∧ OwS (kint .i64) 3 w21 g21 (c0 + 5) A_order_p0 cap_order_p0 p0.order ∧ Fr (fun q => (c0 ≤ q ∧ q < c0 + 7) ∨ (r0 ≤ q ∧ q < r0 + 2) ∨ N ≤ q) w g w21 g21) ?_ (fun hk => ?_)
  rotate_left
  · rcases Bool.eq_false_or_eq_true ((!r5)) with hb11 | hb11
    · have H := ite_t hb11 ht20
      have e22 := Option.some.inj H
      refine st_off hS10 (want_off hS10 rfl rfl rfl hb11) rfl rfl fun a23 hS23 => st_off hS23 (want_off hS23 rfl rfl rfl hb11) rfl rfl fun a24 hS24 => st_off hS24 (want_off hS24 rfl rfl rfl hb11) rfl rfl fun a25 hS25 => st_off hS25 (want_off hS25 rfl rfl rfl hb11) rfl rfl fun a26 hS26 => st_val hS26 rfl rfl rfl (r_pickT hS26 rfl rfl rfl hb11) fun a27 hS27 => hk _ _ ?_
      exact ⟨g8, hS27.re ⟨rfl, rfl, rfl, (by rw [← e22]; rfl), trivial⟩, hb0, hf0_devices, hf0_links, hf0_order, hF⟩
    · have H := ite_f hb11 ht20
      obtain ⟨r30, hr31, H⟩ := bind_el H
      have e35 := Option.some.inj H
      refine st_valW hS10 (want_on hS10 rfl rfl rfl hb11) rfl rfl (r_move hS10 rfl rfl) fun a28 hS28 => st_valW hS28 (want_on hS28 rfl rfl rfl hb11) rfl rfl (r_move hS28 rfl rfl) fun a29 hS29 => ?_
      refine st_enterW hS29 (want_on hS29 rfl rfl rfl hb11) rfl rfl (r_call hS29 rfl rfl (by kernel_rfl)) (runtimepm_Manager_valid.calls (c0 := c0) (b_p0 := b_p0) (A_devices_p0 := A_devices_p0) (cap_devices_p0 := cap_devices_p0) (A_links_p0 := A_links_p0) (cap_links_p0 := cap_links_p0) (A_order_p0 := A_order_p0) (cap_order_p0 := cap_order_p0) (p0 := p0) (p1 := p2) (g := g8) (N + 8)  ⟨hb0, hf0_devices, hf0_links, hf0_order⟩ (by omega) hr31) ?_
      rintro _ a32 w33 ⟨g33, rfl, F33⟩ hS32
      replace hb0 := hb0.fr F33 (fun (hm : N + 8 ≤ c0) => by omega)
      replace hf0_devices := OwS.fr hf0_devices F33 (fun c' hc (hm : N + 8 ≤ c') => by omega)
      replace hf0_links := OwS.fr hf0_links F33 (fun c' hc (hm : N + 8 ≤ c') => by omega)
      replace hf0_order := OwS.fr hf0_order F33 (fun c' hc (hm : N + 8 ≤ c') => by omega)
      replace hF := hF.trans F33 (fun c' (hm : N + 8 ≤ c') => by show (c0 ≤ c' ∧ c' < c0 + 7) ∨ (r0 ≤ c' ∧ c' < r0 + 2) ∨ N ≤ c'; omega)
      refine st_valW hS32 (want_on hS32 rfl rfl rfl hb11) rfl rfl (r_not hS32 rfl rfl) fun a34 hS34 => ?_
      refine st_val hS34 rfl rfl rfl (r_pickF hS34 rfl rfl rfl hb11) fun a36 hS36 => hk _ _ ?_
      exact ⟨g33, hS36.re ⟨rfl, rfl, rfl, (by rw [← e35]; rfl), trivial⟩, hb0, hf0_devices, hf0_links, hf0_order, hF⟩
  rintro a37 w21 ⟨g21, hS37, hb0, hf0_devices, hf0_links, hf0_order, hF⟩
  refine wpList_nil (hK _ _ ?_)
  replace hS : Sl 94 _ [(0, .pointer (some ⟨b_p0, 0, none⟩)), (1, .int .i64 p1), (2, .int .u64 p2), (22, .bool t19)] := hS37.re ⟨rfl, rfl, rfl, rfl, trivial⟩
  clear hK K
  try clear hS3 hS4 hS7 hS9 hS10 hS37
  obtain ⟨a, ha⟩ : ∃ a', a' = a37 := ⟨_, rfl⟩
  rw [← ha] at hS ⊢; clear ha
  refine c_cond hS rfl (fun hb38 => ?_) (fun hb38 => ?_)
  · replace H := ite_t hb38 H
    refine c_pure [(6, .slice none 0 0), (7, .int .i64 1)] (fun R hR => st_val hS rfl rfl rfl (r_assign hS rfl rfl) fun a39 hS39 => st_val hS39 rfl rfl rfl (r_assign hS39 rfl rfl) fun a40 hS40 => wpList_nil (hR _ (hS40.re ⟨rfl, rfl, trivial⟩))) ?_
    clear hS
    clear a
    intro a hS
    refine wp_ret ?_
    have e := Option.some.inj H
    subst e
    repeat (with_reducible first | refine then_ret ?_ | refine inBlock_ret ?_)
    exact c_ret2 hS Try.results43 rfl rfl ⟨_, rfl, g21, none, 0, rfl, ⟨hb0, hf0_devices, hf0_links, hf0_order⟩, OwS.nil kd_api_PowerOp 47 w21 g21 r0, hF⟩
  · replace H := ite_f hb38 H
    refine wp_skip ?_
    change Code.wp _ _ _ _ _
    refine c_region (fun K hK => ?_)
    refine st_val hS rfl rfl rfl (r_move hS rfl rfl) fun a41 hS41 => st_val hS41 rfl rfl rfl (r_move hS41 rfl rfl) fun a42 hS42 => st_val hS42 rfl rfl rfl (r_nil hS42 rfl rfl) fun a43 hS43 => st_val hS43 rfl rfl rfl (r_fieldB (off := 3) hS43 rfl rfl (by kernel_rfl)) fun a44 hS44 => ?_
    refine st_effS hS44 rfl rfl (e_storeB (n := 1) (bb := false) (cs' := [.slice A_devices_p0 p0.devices.length cap_devices_p0, .slice A_links_p0 p0.links.length cap_links_p0, .slice A_order_p0 p0.order.length cap_order_p0, .int .u64 p2]) g21 hS44 rfl rfl rfl (by kernel_rfl) rfl rfl rfl hb0 rfl rfl) ?_
    rintro a45 w46 g46 ⟨hb0, F46⟩ hS45
    replace hf0_devices := OwS.fr hf0_devices F46 (fun c' hc (hm : c' = c0) => by omega)
    replace hf0_links := OwS.fr hf0_links F46 (fun c' hc (hm : c' = c0) => by omega)
    replace hf0_order := OwS.fr hf0_order F46 (fun c' hc (hm : c' = c0) => by omega)
    replace hF := hF.trans F46 (fun c' (hm : c' = c0) => by show (c0 ≤ c' ∧ c' < c0 + 7) ∨ (r0 ≤ c' ∧ c' < r0 + 2) ∨ N ≤ c'; omega)
    refine wpList_nil (hK _ _ ?_)
    replace hS : Sl 94 _ [(0, .pointer (some ⟨b_p0, 0, none⟩)), (1, .int .i64 p1), (2, .int .u64 p2)] := hS45.re ⟨rfl, rfl, rfl, trivial⟩
    clear hK K
    try clear hS41 hS42 hS43 hS44 hS45
    obtain ⟨a, ha⟩ : ∃ a', a' = a45 := ⟨_, rfl⟩
    rw [← ha] at hS ⊢; clear ha
    obtain ⟨r49, hr50, H⟩ := bind_el H
    refine c_region (fun K hK => ?_)
    refine st_val hS rfl rfl rfl (r_move hS rfl rfl) fun a47 hS47 => st_val hS47 rfl rfl rfl (r_move hS47 rfl rfl) fun a48 hS48 => ?_
    refine st_enter hS48 rfl rfl rfl (r_call hS48 rfl rfl (by kernel_rfl)) (runtimepm_Manager_expire.calls (c0 := c0) (b_p0 := b_p0) (A_devices_p0 := A_devices_p0) (cap_devices_p0 := cap_devices_p0) (A_links_p0 := A_links_p0) (cap_links_p0 := cap_links_p0) (A_order_p0 := A_order_p0) (cap_order_p0 := cap_order_p0) (p0 := (runtimepm_Manager.mk p0.devices p0.links p0.order p2)) (p1 := p2) (g := g46) (N + 8) (N + 0) ⟨hb0, hf0_devices, hf0_links, hf0_order⟩ (by omega) (by omega) (by omega) hr50) ?_
    rintro _ a55 w56 ⟨g56, A51, cap52, rfl, ⟨hb0, hf0_devices, hf0_links, hf0_order⟩, h53, F56⟩ hS55
    replace hF := hF.trans F56 (fun c' (hm : (c0 ≤ c' ∧ c' < c0 + 7) ∨ (N + 0 ≤ c' ∧ c' < N + 0 + 2) ∨ N + 8 ≤ c') => by show (c0 ≤ c' ∧ c' < c0 + 7) ∨ (r0 ≤ c' ∧ c' < r0 + 2) ∨ N ≤ c'; omega)
    refine st_val hS55 rfl rfl rfl (r_assign hS55 rfl rfl) fun a57 hS57 => wpList_nil (hK _ _ ?_)
    replace hS : Sl 94 _ [(0, .pointer (some ⟨b_p0, 0, none⟩)), (1, .int .i64 p1), (2, .int .u64 p2), (8, .slice A51 r49.2.length cap52)] := hS57.re ⟨rfl, rfl, rfl, rfl, trivial⟩
    clear hK K
    try clear hS47 hS48 hS55 hS57
    obtain ⟨a, ha⟩ : ∃ a', a' = a57 := ⟨_, rfl⟩
    rw [← ha] at hS ⊢; clear ha
    obtain ⟨x63, hx64, H⟩ := bind_el H
    refine c_region (fun K hK => ?_)
    refine st_val hS rfl rfl rfl (r_move hS rfl rfl) fun a58 hS58 => st_val hS58 rfl rfl rfl (r_nil hS58 rfl rfl) fun a59 hS59 => st_val hS59 rfl rfl rfl (r_fieldB (off := 0) hS59 rfl rfl (by kernel_rfl)) fun a60 hS60 => st_val hS60 rfl rfl rfl (r_load1 (n := 1) hS60 rfl rfl (by kernel_rfl) (Bx.cell hb0 rfl)) fun a61 hS61 => st_val hS61 rfl rfl rfl (r_move hS61 rfl rfl) fun a62 hS62 => ?_
    obtain ⟨_, ⟨A66, cap67, A70, cap71, rfl, h68, h72⟩, hel65⟩ := El.of (OwD.rdx hf0_devices) hx64 (by decide)
    replace hel65 : El w56 g56 (fun q => q = c0 + 1) A_devices_p0 (p1.toNat * 6) [.int .u64 x63.delay, .slice A66 x63.suppliers.length cap67, .slice A70 x63.consumers.length cap71, .bool x63.active, .int .i64 x63.count, .int .u64 x63.idle] := hel65
    refine st_val hS62 rfl rfl rfl (r_index (e := 88) (sz := 6) (by_ := 80) hS62 rfl rfl rfl (by kernel_rfl) (RdS.some_ (OwS.rd hf0_devices) hx64) (idx_lo hx64) (idx_hi hx64)) fun a75 hS75 => st_val hS75 rfl rfl rfl (r_fieldE (off := 4) hS75 rfl rfl (by kernel_rfl)) fun a76 hS76 => st_val hS76 rfl rfl rfl (r_load1 (n := 1) hS76 rfl rfl (by kernel_rfl) (El.cell (j := 4) hel65 rfl)) fun a77 hS77 => st_val hS77 rfl rfl rfl (r_bin hS77 rfl rfl rfl b_add) fun a78 hS78 => st_val hS78 rfl rfl rfl (r_index (e := 88) (sz := 6) (by_ := 80) hS78 rfl rfl rfl (by kernel_rfl) (RdS.some_ (OwS.rd hf0_devices) hx64) (idx_lo hx64) (idx_hi hx64)) fun a79 hS79 => st_val hS79 rfl rfl rfl (r_fieldE (off := 4) hS79 rfl rfl (by kernel_rfl)) fun a80 hS80 => ?_
    refine st_effS hS80 rfl rfl (e_storeE (n := 1) (bb := false) (kd := kd_runtimepm_device) (j := 4) (x' := ({ x63 with count := wi (x63.count + 1) } : runtimepm_device)) (us := [.int .i64 (wi (x63.count + 1))]) g56 hS80 rfl rfl rfl rfl (by kernel_rfl) rfl rfl (by intro v hv; simp only [List.mem_cons, List.not_mem_nil, or_false] at hv; rcases hv with rfl <;> rfl) hf0_devices hx64 rfl (fun _ _ cs hR => by obtain ⟨A0, cap0, A1, cap1, rfl, h0, h1⟩ := hR; exact ⟨A0, cap0, A1, cap1, rfl, h0, h1⟩)) ?_
    rintro a81 w82 g82 ⟨hf0_devices, F82⟩ hS81
    replace h53 := OwS.fr h53 F82 (fun c' hc (hm : c' = c0 + 1) => by omega)
    replace h68 := RdS.fr h68 F82 (by decide) (fun q (hq : q = c0 + 1 + 1) (hm : q = c0 + 1) => by omega)
    replace h72 := RdS.fr h72 F82 (by decide) (fun q (hq : q = c0 + 1 + 1) (hm : q = c0 + 1) => by omega)
    replace hb0 := hb0.fr F82 (fun (hm : c0 = c0 + 1) => by omega)
    replace hf0_links := OwS.fr hf0_links F82 (fun c' hc (hm : c' = c0 + 1) => by omega)
    replace hf0_order := OwS.fr hf0_order F82 (fun c' hc (hm : c' = c0 + 1) => by omega)
    replace hF := hF.trans F82 (fun c' (hm : c' = c0 + 1) => by show (c0 ≤ c' ∧ c' < c0 + 7) ∨ (r0 ≤ c' ∧ c' < r0 + 2) ∨ N ≤ c'; omega)
    replace hb0 : Bx w82 g82 (c0) b_p0 85 [.slice A_devices_p0 (upd r49.1.devices p1 ({ x63 with count := wi (x63.count + 1) } : runtimepm_device)).length cap_devices_p0, .slice A_links_p0 r49.1.links.length cap_links_p0, .slice A_order_p0 r49.1.order.length cap_order_p0, .int .u64 r49.1.now] := by simpa only [upd_length] using hb0
    refine wpList_nil (hK _ _ ?_)
    replace hS : Sl 94 _ [(0, .pointer (some ⟨b_p0, 0, none⟩)), (1, .int .i64 p1), (2, .int .u64 p2), (8, .slice A51 r49.2.length cap52)] := hS81.re ⟨rfl, rfl, rfl, rfl, trivial⟩
    clear hK K
    try clear hS58 hS59 hS60 hS61 hS62 hS75 hS76 hS77 hS78 hS79 hS80 hS81
    obtain ⟨a, ha⟩ : ∃ a', a' = a81 := ⟨_, rfl⟩
    rw [← ha] at hS ⊢; clear ha
    obtain ⟨r86, hr87, H⟩ := bind_el H
    refine c_draw (fun K hK => d_start (fun q => N + 8 ≤ q ∨ (N + 4 ≤ q ∧ q < N + 4 + 2)) g82 [] 17 #[false, false, false, false, false, false, false, false, false, false, false, false, false, false, false, false, false] (by kernel_rfl) rfl rfl (fun w92 hw92 => ?_))
    have F92 : Fr (fun _ => False) w82 g82 w92 g82 := by rw [hw92]; exact Fr.drew _ _ _
    replace h53 := OwS.fr h53 F92 (fun _ _ h => h)
    replace hb0 := hb0.fr F92 (fun h => h)
    replace hf0_devices := OwS.fr hf0_devices F92 (fun _ _ h => h)
    replace hf0_links := OwS.fr hf0_links F92 (fun _ _ h => h)
    replace hf0_order := OwS.fr hf0_order F92 (fun _ _ h => h)
    replace hF := hF.trans F92 (fun _ h => h.elim)
    have hC : Fr (fun q => N + 8 ≤ q ∨ (N + 4 ≤ q ∧ q < N + 4 + 2)) w92 g82 w92 g82 := Fr.refl _ _ _
    refine d_pure hS 0 #[true, false, false, false, false, false, false, false, false, false, false, false, false, false, false, false, false] rfl rfl rfl rfl (by kernel_rfl) (fun _ _ _ h => h) (fun _ => (r_move hS rfl rfl)) fun a93 hS93 => d_pure hS93 1 #[true, true, false, false, false, false, false, false, false, false, false, false, false, false, false, false, false] rfl rfl rfl rfl (by kernel_rfl) (fun _ _ _ h => h) (fun _ => (r_nil hS93 rfl rfl)) fun a94 hS94 => d_pure hS94 2 #[true, true, true, false, false, false, false, false, false, false, false, false, false, false, false, false, false] rfl rfl rfl rfl (by kernel_rfl) (fun _ _ _ h => h) (fun _ => (r_fieldB (off := 0) hS94 rfl rfl (by kernel_rfl))) fun a95 hS95 => d_take hS95 3 #[true, true, true, true, false, false, false, false, false, false, false, false, false, false, false, false, false] rfl rfl rfl rfl (by kernel_rfl) (fun _ _ _ h => h) ⟨_, hC⟩ (fun w' g' Fz => (r_load1 (n := 1) hS95 rfl rfl (by kernel_rfl) (Bx.cell (hb0.fr Fz (fun (hm : N + 8 ≤ c0 ∨ (N + 4 ≤ c0 ∧ c0 < N + 4 + 2)) => by omega)) rfl))) fun a96 hS96 => d_pure hS96 4 #[true, true, true, true, true, false, false, false, false, false, false, false, false, false, false, false, false] rfl rfl rfl rfl (by kernel_rfl) (fun _ _ _ h => h) (fun _ => (r_len (e := 88) (sz := 6) (by_ := 80) hS96 rfl rfl (by kernel_rfl))) fun a97 hS97 => d_pure hS97 5 #[true, true, true, true, true, true, false, false, false, false, false, false, false, false, false, false, false] rfl rfl rfl rfl (by kernel_rfl) (fun _ _ _ h => h) (fun _ => (r_move hS97 rfl rfl)) fun a98 hS98 => d_pure hS98 6 #[true, true, true, true, true, true, true, false, false, false, false, false, false, false, false, false, false] rfl rfl rfl rfl (by kernel_rfl) (fun _ _ _ h => h) (fun _ => (r_nil hS98 rfl rfl)) fun a99 hS99 => d_pure hS99 7 #[true, true, true, true, true, true, true, true, false, false, false, false, false, false, false, false, false] rfl rfl rfl rfl (by kernel_rfl) (fun _ _ _ h => h) (fun _ => (r_fieldB (off := 1) hS99 rfl rfl (by kernel_rfl))) fun a100 hS100 => d_take hS100 8 #[true, true, true, true, true, true, true, true, true, false, false, false, false, false, false, false, false] rfl rfl rfl rfl (by kernel_rfl) (fun _ _ _ h => h) ⟨_, hC⟩ (fun w' g' Fz => (r_load1 (n := 1) hS100 rfl rfl (by kernel_rfl) (Bx.cell (hb0.fr Fz (fun (hm : N + 8 ≤ c0 ∨ (N + 4 ≤ c0 ∧ c0 < N + 4 + 2)) => by omega)) rfl))) fun a101 hS101 => d_pure hS101 9 #[true, true, true, true, true, true, true, true, true, true, false, false, false, false, false, false, false] rfl rfl rfl rfl (by kernel_rfl) (fun _ _ _ h => h) (fun _ => (r_move hS101 rfl rfl)) fun a102 hS102 => ?_
    refine d_one 10 #[true, true, true, true, true, true, true, true, true, true, true, false, false, false, false, false, false] rfl (by kernel_rfl) (arm_eff hS102 rfl rfl rfl (e_lit (e := 3) (parts := [(0, .int .i64 p1)]) (cs := [.int .i64 p1]) (kint .i64) [p1] (N + 2) g82 hS102 rfl rfl (fun _ => by kernel_rfl) rfl (by decide) (Rows.cons (cs := [.int .i64 p1]) rfl Rows.nil)) (fun _ _ g' hR _ => ⟨g', hC.trans hR.2 (fun _ h => h.elim)⟩) ?_)
    rintro _ a106 w107 g107 ⟨⟨A103, rfl, h104⟩, F107⟩ hS106
    have hC107 := hC.trans F107 (fun _ h => h.elim)
    replace h53 := OwS.fr h53 F107 (fun _ _ h => h)
    replace hb0 := hb0.fr F107 (fun h => h)
    replace hf0_devices := OwS.fr hf0_devices F107 (fun _ _ h => h)
    replace hf0_links := OwS.fr hf0_links F107 (fun _ _ h => h)
    replace hf0_order := OwS.fr hf0_order F107 (fun _ _ h => h)
    replace hF := hF.trans F107 (fun _ h => h.elim)
    refine d_one 11 #[true, true, true, true, true, true, true, true, true, true, true, true, false, false, false, false, false] rfl (by kernel_rfl) (arm_call hS106 rfl rfl rfl (r_call hS106 rfl rfl (by kernel_rfl)) (depgraph_Suppliers.calls (C1 := (fun q => q = c0 + 3)) (C2 := (fun q => q = N + 2)) (p0 := ((upd r49.1.devices p1 ({ x63 with count := wi (x63.count + 1) } : runtimepm_device)).length : Int)) (p1 := r49.1.links) (p2 := [p1]) (g := g107) (N + 8) (N + 4) (OwD.rdf (fun _ _ _ _ _ _ h => h) hf0_links) (fun q (hq : q = c0 + 3) => by omega) (OwD.rdf (fun _ _ _ _ _ _ h => h) h104) (fun q (hq : q = N + 2) => by omega) (by omega) hr87) (fun _ _ ⟨g', _, _, _, _, Fz⟩ _ => ⟨g', hC107.trans Fz (fun c' (hm : (N + 4 ≤ c' ∧ c' < N + 4 + 2) ∨ N + 8 ≤ c') => by show N + 8 ≤ c' ∨ (N + 4 ≤ c' ∧ c' < N + 4 + 2); omega)⟩) ?_)
    rintro _ a112 w113 ⟨g113, A108, cap109, rfl, h110, F113⟩ hS112
    have hC113 := hC107.trans F113 (fun c' (hm : (N + 4 ≤ c' ∧ c' < N + 4 + 2) ∨ N + 8 ≤ c') => by show N + 8 ≤ c' ∨ (N + 4 ≤ c' ∧ c' < N + 4 + 2); omega)
    replace h104 := OwS.fr h104 F113 (fun c' hc (hm : (N + 4 ≤ c' ∧ c' < N + 4 + 2) ∨ N + 8 ≤ c') => by omega)
    replace h53 := OwS.fr h53 F113 (fun c' hc (hm : (N + 4 ≤ c' ∧ c' < N + 4 + 2) ∨ N + 8 ≤ c') => by omega)
    replace hb0 := hb0.fr F113 (fun (hm : (N + 4 ≤ c0 ∧ c0 < N + 4 + 2) ∨ N + 8 ≤ c0) => by omega)
    replace hf0_devices := OwS.fr hf0_devices F113 (fun c' hc (hm : (N + 4 ≤ c' ∧ c' < N + 4 + 2) ∨ N + 8 ≤ c') => by omega)
    replace hf0_links := OwS.fr hf0_links F113 (fun c' hc (hm : (N + 4 ≤ c' ∧ c' < N + 4 + 2) ∨ N + 8 ≤ c') => by omega)
    replace hf0_order := OwS.fr hf0_order F113 (fun c' hc (hm : (N + 4 ≤ c' ∧ c' < N + 4 + 2) ∨ N + 8 ≤ c') => by omega)
    replace hF := hF.trans F113 (fun c' (hm : (N + 4 ≤ c' ∧ c' < N + 4 + 2) ∨ N + 8 ≤ c') => by show (c0 ≤ c' ∧ c' < c0 + 7) ∨ (r0 ≤ c' ∧ c' < r0 + 2) ∨ N ≤ c'; omega)
    refine d_pure hS112 12 #[true, true, true, true, true, true, true, true, true, true, true, true, true, false, false, false, false] rfl rfl rfl rfl (by kernel_rfl) (fun _ _ _ h => h) (fun _ => (r_move hS112 rfl rfl)) fun a114 hS114 => d_pure hS114 13 #[true, true, true, true, true, true, true, true, true, true, true, true, true, true, false, false, false] rfl rfl rfl rfl (by kernel_rfl) (fun _ _ _ h => h) (fun _ => (r_extract hS114 rfl rfl rfl)) fun a115 hS115 => d_pure hS115 14 #[true, true, true, true, true, true, true, true, true, true, true, true, true, true, true, false, false] rfl rfl rfl rfl (by kernel_rfl) (fun _ _ _ h => h) (fun _ => (r_extract hS115 rfl rfl rfl)) fun a116 hS116 => d_pure hS116 15 #[true, true, true, true, true, true, true, true, true, true, true, true, true, true, true, true, false] rfl rfl rfl rfl (by kernel_rfl) (fun _ _ _ h => h) (fun _ => (r_assign hS116 rfl rfl)) fun a117 hS117 => d_pure hS117 16 #[true, true, true, true, true, true, true, true, true, true, true, true, true, true, true, true, true] rfl rfl rfl rfl (by kernel_rfl) (fun _ _ _ h => h) (fun _ => (r_assign hS117 rfl rfl)) fun a118 hS118 => d_done (by kernel_rfl) (hK _ _ ?_)
    replace hS : Sl 94 _ [(0, .pointer (some ⟨b_p0, 0, none⟩)), (2, .int .u64 p2), (8, .slice A51 r49.2.length cap52), (9, .slice A108 r86.1.length cap109)] := hS118.re ⟨rfl, rfl, rfl, rfl, trivial⟩
    clear hK K hC
    try clear hS93 hS94 hS95 hS96 hS97 hS98 hS99 hS100 hS101 hS102 hS106 hS112 hS114 hS115 hS116 hS117 hS118
    obtain ⟨a, ha⟩ : ∃ a', a' = a118 := ⟨_, rfl⟩
    rw [← ha] at hS ⊢; clear ha
    obtain ⟨v123, H, Hl125⟩ := bind_el H
    refine c_cut (fun a w119 => ∃ (g119 : Nat → Nat), ∃ (A120 : Option Addr), ∃ (cap121 : Nat), Sl 94 a [(8, .slice A120 v123.1.length cap121)] ∧ OwS kd_api_PowerOp 47 w119 g119 (N + 0) A120 cap121 v123.1 ∧ Bx w119 g119 (c0) b_p0 85 [.slice A_devices_p0 v123.2.devices.length cap_devices_p0, .slice A_links_p0 v123.2.links.length cap_links_p0, .slice A_order_p0 v123.2.order.length cap_order_p0, .int .u64 v123.2.now] ∧ OwS kd_runtimepm_device 88 w119 g119 (c0 + 1) A_devices_p0 cap_devices_p0 v123.2.devices ∧ OwS kd_api_Link 67 w119 g119 (c0 + 3) A_links_p0 cap_links_p0 v123.2.links ∧ OwS (kint .i64) 3 w119 g119 (c0 + 5) A_order_p0 cap_order_p0 v123.2.order ∧ Fr (fun q => (c0 ≤ q ∧ q < c0 + 7) ∨ (r0 ≤ q ∧ q < r0 + 2) ∨ N ≤ q) w g w119 g119) ?_ ?_
    · refine c_pure [(0, .pointer (some ⟨b_p0, 0, none⟩)), (2, .int .u64 p2), (8, .slice A51 r49.2.length cap52), (9, .slice A108 r86.1.length cap109), (59, .slice A_order_p0 r49.1.order.length cap_order_p0), (60, .int .i64 (r49.1.order.length : Int)), (61, .int .i64 0)] (fun R hR => st_val hS rfl rfl rfl (r_move hS rfl rfl) fun a126 hS126 => st_val hS126 rfl rfl rfl (r_nil hS126 rfl rfl) fun a127 hS127 => st_val hS127 rfl rfl rfl (r_fieldB (off := 2) hS127 rfl rfl (by kernel_rfl)) fun a128 hS128 => st_val hS128 rfl rfl rfl (r_load1 (n := 1) hS128 rfl rfl (by kernel_rfl) (Bx.cell hb0 rfl)) fun a129 hS129 => st_val hS129 rfl rfl rfl (r_len (e := 3) (sz := 1) (by_ := 8) hS129 rfl rfl (by kernel_rfl)) fun a130 hS130 => st_val hS130 rfl rfl rfl (r_move hS130 rfl rfl) fun a131 hS131 => wpList_nil (hR _ (hS131.re ⟨rfl, rfl, rfl, rfl, rfl, rfl, rfl, trivial⟩))) ?_
      clear hS
      clear a
      intro a hS
      refine wp_block ?_
      refine wp_loop_ghost (fun kq => fun a w132 => ∃ (m0_0 : runtimepm_Manager), ∃ (m0_1 : List api_PowerOp), ∃ (m0_2 : Int), ∃ (g132 : Nat → Nat), ∃ (A133 : Option Addr), ∃ (cap134 : Nat), runtimepm_Manager_Get.l0 p2 r49 r86 kq m0_0 m0_1 m0_2 = some v123 ∧ Sl 94 a [(0, .pointer (some ⟨b_p0, 0, none⟩)), (2, .int .u64 p2), (8, .slice A133 m0_1.length cap134), (9, .slice A108 r86.1.length cap109), (59, .slice A_order_p0 m0_0.order.length cap_order_p0), (60, .int .i64 (r49.1.order.length : Int)), (61, .int .i64 m0_2)] ∧ OwS (kint .i64) 3 w132 g132 (N + 4) A108 cap109 r86.1 ∧ OwS kd_api_PowerOp 47 w132 g132 (N + 0) A133 cap134 m0_1 ∧ Bx w132 g132 (c0) b_p0 85 [.slice A_devices_p0 m0_0.devices.length cap_devices_p0, .slice A_links_p0 m0_0.links.length cap_links_p0, .slice A_order_p0 m0_0.order.length cap_order_p0, .int .u64 m0_0.now] ∧ OwS kd_runtimepm_device 88 w132 g132 (c0 + 1) A_devices_p0 cap_devices_p0 m0_0.devices ∧ OwS kd_api_Link 67 w132 g132 (c0 + 3) A_links_p0 cap_links_p0 m0_0.links ∧ OwS (kint .i64) 3 w132 g132 (c0 + 5) A_order_p0 cap_order_p0 m0_0.order ∧ Fr (fun q => (c0 ≤ q ∧ q < c0 + 7) ∨ (r0 ≤ q ∧ q < r0 + 2) ∨ N ≤ q) w g w132 g132) FUEL ?_ ?_
      · exact ⟨(runtimepm_Manager.mk (upd r49.1.devices p1 ({ x63 with count := wi (x63.count + 1) } : runtimepm_device)) r49.1.links r49.1.order r49.1.now), r49.2, 0, g113, A51, cap52, H, hS.re ⟨rfl, rfl, rfl, rfl, rfl, rfl, rfl, trivial⟩, h110, h53, hb0, hf0_devices, hf0_links, hf0_order, hF⟩
      · clear H
        clear hf0_devices hf0_links hf0_order hb0 h53 h110 hF
        clear hS
        rintro k136 a w132 ⟨m0_0, m0_1, m0_2, g132, A133, cap134, hpre0, hS, h110, h135, hb0, hf0_devices, hf0_links, hf0_order, hF⟩
        have H := hpre0
        clear hpre0
        cases k136 with
        | zero => exact absurd H (by simp [runtimepm_Manager_Get.l0])
        | succ k136 =>
          rw [runtimepm_Manager_Get.l0] at H
          refine c_pure [(0, .pointer (some ⟨b_p0, 0, none⟩)), (2, .int .u64 p2), (8, .slice A133 m0_1.length cap134), (9, .slice A108 r86.1.length cap109), (59, .slice A_order_p0 m0_0.order.length cap_order_p0), (60, .int .i64 (r49.1.order.length : Int)), (61, .int .i64 m0_2), (62, .bool (decide (m0_2 < (r49.1.order.length : Int))))] (fun R hR => st_val hS rfl rfl rfl (r_bin hS rfl rfl rfl b_lss) fun a137 hS137 => wpList_nil (hR _ (hS137.re ⟨rfl, rfl, rfl, rfl, rfl, rfl, rfl, rfl, trivial⟩))) ?_
          clear hS
          clear a
          intro a hS
          refine c_if hS rfl (fun hb138 => ?_) (fun hb138 => ?_)
          · replace H := ite_t hb138 H
            refine wp_skip ?_
            change Code.wp _ _ _ _ _
            obtain ⟨v143, H, Hl145⟩ := bind_el H
            refine c_cut (fun a w139 => ∃ (g139 : Nat → Nat), ∃ (A140 : Option Addr), ∃ (cap141 : Nat), Sl 94 a [(0, .pointer (some ⟨b_p0, 0, none⟩)), (2, .int .u64 p2), (8, .slice A140 v143.2.length cap141), (9, .slice A108 r86.1.length cap109), (59, .slice A_order_p0 v143.1.order.length cap_order_p0), (60, .int .i64 (r49.1.order.length : Int)), (61, .int .i64 m0_2)] ∧ OwS (kint .i64) 3 w139 g139 (N + 4) A108 cap109 r86.1 ∧ OwS kd_api_PowerOp 47 w139 g139 (N + 0) A140 cap141 v143.2 ∧ Bx w139 g139 (c0) b_p0 85 [.slice A_devices_p0 v143.1.devices.length cap_devices_p0, .slice A_links_p0 v143.1.links.length cap_links_p0, .slice A_order_p0 v143.1.order.length cap_order_p0, .int .u64 v143.1.now] ∧ OwS kd_runtimepm_device 88 w139 g139 (c0 + 1) A_devices_p0 cap_devices_p0 v143.1.devices ∧ OwS kd_api_Link 67 w139 g139 (c0 + 3) A_links_p0 cap_links_p0 v143.1.links ∧ OwS (kint .i64) 3 w139 g139 (c0 + 5) A_order_p0 cap_order_p0 v143.1.order ∧ Fr (fun q => (c0 ≤ q ∧ q < c0 + 7) ∨ (r0 ≤ q ∧ q < r0 + 2) ∨ N ≤ q) w g w139 g139) ?_ ?_
            · refine wp_block ?_
              obtain ⟨x146, hx147, H⟩ := bind_el H
              refine c_pure [(0, .pointer (some ⟨b_p0, 0, none⟩)), (2, .int .u64 p2), (8, .slice A133 m0_1.length cap134), (9, .slice A108 r86.1.length cap109), (12, .int .i64 x146), (59, .slice A_order_p0 m0_0.order.length cap_order_p0), (60, .int .i64 (r49.1.order.length : Int)), (61, .int .i64 m0_2)] (fun R hR => st_val hS rfl rfl rfl (r_index (e := 3) (sz := 1) (by_ := 8) hS rfl rfl rfl (by kernel_rfl) (RdS.some_ (OwS.rd hf0_order) hx147) (idx_lo hx147) (idx_hi hx147)) fun a148 hS148 => st_val hS148 rfl rfl rfl (r_load1 (n := 1) hS148 rfl rfl (by kernel_rfl) (RdS.cell (i := m0_2) (sz := 1) (j := 0) (OwS.rd hf0_order) hx147 rfl)) fun a149 hS149 => st_val hS149 rfl rfl rfl (r_assign hS149 rfl rfl) fun a150 hS150 => wpList_nil (hR _ (hS150.re ⟨rfl, rfl, rfl, rfl, rfl, rfl, rfl, rfl, trivial⟩))) ?_
              clear hS
              clear a
              intro a hS
              obtain ⟨r153, hr154, H⟩ := bind_el H
              obtain ⟨t180, ht181, H⟩ := bind_el H
              refine c_region (fun K hK => ?_)
              refine st_val hS rfl rfl rfl (r_move hS rfl rfl) fun a151 hS151 => st_val hS151 rfl rfl rfl (r_move hS151 rfl rfl) fun a152 hS152 => ?_
              refine st_enter hS152 rfl rfl rfl (r_call hS152 rfl rfl (by kernel_rfl)) (slices_Contains_int_int.calls (C0 := (fun q => q = N + 4)) (p0 := r86.1) (p1 := x146) (g := g132) (N + 8)  (OwD.rdf (fun _ _ _ _ _ _ h => h) h110) (fun q (hq : q = N + 4) => by omega) hr154) ?_
              rintro _ a155 w156 ⟨g156, rfl, F156⟩ hS155
              replace h110 := OwS.fr h110 F156 (fun c' hc (hm : N + 8 ≤ c') => by omega)
              replace h135 := OwS.fr h135 F156 (fun c' hc (hm : N + 8 ≤ c') => by omega)
              replace hb0 := hb0.fr F156 (fun (hm : N + 8 ≤ c0) => by omega)
              replace hf0_devices := OwS.fr hf0_devices F156 (fun c' hc (hm : N + 8 ≤ c') => by omega)
              replace hf0_links := OwS.fr hf0_links F156 (fun c' hc (hm : N + 8 ≤ c') => by omega)
              replace hf0_order := OwS.fr hf0_order F156 (fun c' hc (hm : N + 8 ≤ c') => by omega)
              replace hF := hF.trans F156 (fun c' (hm : N + 8 ≤ c') => by show (c0 ≤ c' ∧ c' < c0 + 7) ∨ (r0 ≤ c' ∧ c' < r0 + 2) ∨ N ≤ c'; omega)
              refine st_val hS155 rfl rfl rfl (r_move hS155 rfl rfl) fun a157 hS157 => ?_
              refine g_join (N := 94) 10 [(0, .pointer (some ⟨b_p0, 0, none⟩)), (2, .int .u64 p2), (8, .slice A133 m0_1.length cap134), (9, .slice A108 r86.1.length cap109), (12, .int .i64 x146), (59, .slice A_order_p0 m0_0.order.length cap_order_p0), (60, .int .i64 (r49.1.order.length : Int)), (61, .int .i64 m0_2), (78, .bool t180)] ?_ (fun hk => ?_)
              rotate_left
              · rcases Bool.eq_false_or_eq_true (r153) with hb158 | hb158
                · have H := ite_t hb158 ht181
                  obtain ⟨x187, hx188, H⟩ := bind_el H
                  have e203 := Option.some.inj H
                  refine st_valW hS157 (want_on hS157 rfl rfl rfl hb158) rfl rfl (r_move hS157 rfl rfl) fun a182 hS182 => st_valW hS182 (want_on hS182 rfl rfl rfl hb158) rfl rfl (r_nil hS182 rfl rfl) fun a183 hS183 => st_valW hS183 (want_on hS183 rfl rfl rfl hb158) rfl rfl (r_fieldB (off := 0) hS183 rfl rfl (by kernel_rfl)) fun a184 hS184 => st_valW hS184 (want_on hS184 rfl rfl rfl hb158) rfl rfl (r_load1 (n := 1) hS184 rfl rfl (by kernel_rfl) (Bx.cell hb0 rfl)) fun a185 hS185 => st_valW hS185 (want_on hS185 rfl rfl rfl hb158) rfl rfl (r_move hS185 rfl rfl) fun a186 hS186 => ?_
                  obtain ⟨_, ⟨A190, cap191, A194, cap195, rfl, h192, h196⟩, hel189⟩ := El.of (OwD.rdx hf0_devices) hx188 (by decide)
                  replace hel189 : El w156 g156 (fun q => q = c0 + 1) A_devices_p0 (x146.toNat * 6) [.int .u64 x187.delay, .slice A190 x187.suppliers.length cap191, .slice A194 x187.consumers.length cap195, .bool x187.active, .int .i64 x187.count, .int .u64 x187.idle] := hel189
                  refine st_valW hS186 (want_on hS186 rfl rfl rfl hb158) rfl rfl (r_index (e := 88) (sz := 6) (by_ := 80) hS186 rfl rfl rfl (by kernel_rfl) (RdS.some_ (OwS.rd hf0_devices) hx188) (idx_lo hx188) (idx_hi hx188)) fun a199 hS199 => st_valW hS199 (want_on hS199 rfl rfl rfl hb158) rfl rfl (r_fieldE (off := 3) hS199 rfl rfl (by kernel_rfl)) fun a200 hS200 => st_valW hS200 (want_on hS200 rfl rfl rfl hb158) rfl rfl (r_load1 (n := 1) hS200 rfl rfl (by kernel_rfl) (El.cell (j := 3) hel189 rfl)) fun a201 hS201 => st_valW hS201 (want_on hS201 rfl rfl rfl hb158) rfl rfl (r_not hS201 rfl rfl) fun a202 hS202 => st_val hS202 rfl rfl rfl (r_pickT hS202 rfl rfl rfl hb158) fun a204 hS204 => hk _ (hS204.re ⟨rfl, rfl, rfl, rfl, rfl, rfl, rfl, rfl, (by rw [← e203]; rfl), trivial⟩)
                · have H := ite_f hb158 ht181
                  have e205 := Option.some.inj H
                  refine st_off hS157 (want_off hS157 rfl rfl rfl hb158) rfl rfl fun a206 hS206 => st_off hS206 (want_off hS206 rfl rfl rfl hb158) rfl rfl fun a207 hS207 => st_off hS207 (want_off hS207 rfl rfl rfl hb158) rfl rfl fun a208 hS208 => st_off hS208 (want_off hS208 rfl rfl rfl hb158) rfl rfl fun a209 hS209 => st_off hS209 (want_off hS209 rfl rfl rfl hb158) rfl rfl fun a210 hS210 => st_off hS210 (want_off hS210 rfl rfl rfl hb158) rfl rfl fun a211 hS211 => st_off hS211 (want_off hS211 rfl rfl rfl hb158) rfl rfl fun a212 hS212 => st_off hS212 (want_off hS212 rfl rfl rfl hb158) rfl rfl fun a213 hS213 => st_off hS213 (want_off hS213 rfl rfl rfl hb158) rfl rfl fun a214 hS214 => st_val hS214 rfl rfl rfl (r_pickF hS214 rfl rfl rfl hb158) fun a215 hS215 => hk _ (hS215.re ⟨rfl, rfl, rfl, rfl, rfl, rfl, rfl, rfl, (by rw [← e205]; rfl), trivial⟩)
              intro a216 hS216
              refine wpList_nil (hK _ _ ?_)
              replace hS : Sl 94 _ [(0, .pointer (some ⟨b_p0, 0, none⟩)), (2, .int .u64 p2), (8, .slice A133 m0_1.length cap134), (9, .slice A108 r86.1.length cap109), (12, .int .i64 x146), (59, .slice A_order_p0 m0_0.order.length cap_order_p0), (60, .int .i64 (r49.1.order.length : Int)), (61, .int .i64 m0_2), (78, .bool t180)] := hS216.re ⟨rfl, rfl, rfl, rfl, rfl, rfl, rfl, rfl, rfl, trivial⟩
              clear hK K
              try clear hS151 hS152 hS155 hS157 hS216
              obtain ⟨a, ha⟩ : ∃ a', a' = a216 := ⟨_, rfl⟩
              rw [← ha] at hS ⊢; clear ha
              refine c_cond hS rfl (fun hb217 => ?_) (fun hb217 => ?_)
              · replace H := ite_t hb217 H
                obtain ⟨x223, hx224, H⟩ := bind_el H
                refine c_region (fun K hK => ?_)
                refine st_val hS rfl rfl rfl (r_move hS rfl rfl) fun a218 hS218 => st_val hS218 rfl rfl rfl (r_nil hS218 rfl rfl) fun a219 hS219 => st_val hS219 rfl rfl rfl (r_fieldB (off := 0) hS219 rfl rfl (by kernel_rfl)) fun a220 hS220 => st_val hS220 rfl rfl rfl (r_load1 (n := 1) hS220 rfl rfl (by kernel_rfl) (Bx.cell hb0 rfl)) fun a221 hS221 => st_val hS221 rfl rfl rfl (r_move hS221 rfl rfl) fun a222 hS222 => ?_
                obtain ⟨_, ⟨A226, cap227, A230, cap231, rfl, h228, h232⟩, hel225⟩ := El.of (OwD.rdx hf0_devices) hx224 (by decide)
                replace hel225 : El w156 g156 (fun q => q = c0 + 1) A_devices_p0 (x146.toNat * 6) [.int .u64 x223.delay, .slice A226 x223.suppliers.length cap227, .slice A230 x223.consumers.length cap231, .bool x223.active, .int .i64 x223.count, .int .u64 x223.idle] := hel225
                refine st_val hS222 rfl rfl rfl (r_index (e := 88) (sz := 6) (by_ := 80) hS222 rfl rfl rfl (by kernel_rfl) (RdS.some_ (OwS.rd hf0_devices) hx224) (idx_lo hx224) (idx_hi hx224)) fun a235 hS235 => st_val hS235 rfl rfl rfl (r_fieldE (off := 3) hS235 rfl rfl (by kernel_rfl)) fun a236 hS236 => ?_
                refine st_effS hS236 rfl rfl (e_storeE (n := 1) (bb := false) (kd := kd_runtimepm_device) (j := 3) (x' := ({ x223 with active := true } : runtimepm_device)) (us := [.bool true]) g156 hS236 rfl rfl rfl rfl (by kernel_rfl) rfl rfl (by intro v hv; simp only [List.mem_cons, List.not_mem_nil, or_false] at hv; rcases hv with rfl <;> rfl) hf0_devices hx224 rfl (fun _ _ cs hR => by obtain ⟨A0, cap0, A1, cap1, rfl, h0, h1⟩ := hR; exact ⟨A0, cap0, A1, cap1, rfl, h0, h1⟩)) ?_
                rintro a237 w238 g238 ⟨hf0_devices, F238⟩ hS237
                replace h110 := OwS.fr h110 F238 (fun c' hc (hm : c' = c0 + 1) => by omega)
                replace h228 := RdS.fr h228 F238 (by decide) (fun q (hq : q = c0 + 1 + 1) (hm : q = c0 + 1) => by omega)
                replace h232 := RdS.fr h232 F238 (by decide) (fun q (hq : q = c0 + 1 + 1) (hm : q = c0 + 1) => by omega)
                replace h135 := OwS.fr h135 F238 (fun c' hc (hm : c' = c0 + 1) => by omega)
                replace hb0 := hb0.fr F238 (fun (hm : c0 = c0 + 1) => by omega)
                replace hf0_links := OwS.fr hf0_links F238 (fun c' hc (hm : c' = c0 + 1) => by omega)
                replace hf0_order := OwS.fr hf0_order F238 (fun c' hc (hm : c' = c0 + 1) => by omega)
                replace hF := hF.trans F238 (fun c' (hm : c' = c0 + 1) => by show (c0 ≤ c' ∧ c' < c0 + 7) ∨ (r0 ≤ c' ∧ c' < r0 + 2) ∨ N ≤ c'; omega)
                replace hb0 : Bx w238 g238 (c0) b_p0 85 [.slice A_devices_p0 (upd m0_0.devices x146 ({ x223 with active := true } : runtimepm_device)).length cap_devices_p0, .slice A_links_p0 m0_0.links.length cap_links_p0, .slice A_order_p0 m0_0.order.length cap_order_p0, .int .u64 m0_0.now] := by simpa only [upd_length] using hb0
                refine wpList_nil (hK _ _ ?_)
                replace hS : Sl 94 _ [(0, .pointer (some ⟨b_p0, 0, none⟩)), (2, .int .u64 p2), (8, .slice A133 m0_1.length cap134), (9, .slice A108 r86.1.length cap109), (12, .int .i64 x146), (59, .slice A_order_p0 m0_0.order.length cap_order_p0), (60, .int .i64 (r49.1.order.length : Int)), (61, .int .i64 m0_2)] := hS237.re ⟨rfl, rfl, rfl, rfl, rfl, rfl, rfl, rfl, trivial⟩
                clear hK K
                try clear hS218 hS219 hS220 hS221 hS222 hS235 hS236 hS237
                obtain ⟨a, ha⟩ : ∃ a', a' = a237 := ⟨_, rfl⟩
                rw [← ha] at hS ⊢; clear ha
                obtain ⟨y248, hy249, H⟩ := bind_el H
                refine c_region1 (fun K hK => ?_)
                refine st_val hS rfl rfl rfl (r_move hS rfl rfl) fun a239 hS239 => st_val hS239 rfl rfl rfl (r_move hS239 rfl rfl) fun a240 hS240 => st_val hS240 rfl rfl rfl (r_move hS240 rfl rfl) fun a241 hS241 => st_val hS241 rfl rfl rfl (r_build (parts := [(0, .int .i64 x146), (1, .bool true), (2, .int .u64 p2)]) (u := .agg #[.int .i64 x146, .bool true, .int .u64 p2]) hS241 rfl rfl (fun _ => by kernel_rfl)) fun a242 hS242 => ?_
                refine st_eff hS242 rfl rfl rfl (e_lit (e := 47) (parts := [(0, .agg #[.int .i64 x146, .bool true, .int .u64 p2])]) (cs := [.int .i64 x146, .bool true, .int .u64 p2]) kd_api_PowerOp [(api_PowerOp.mk x146 true p2)] (N + 6) g238 hS242 rfl rfl (fun _ => by kernel_rfl) rfl (by decide) (Rows.cons (cs := [.int .i64 x146, .bool true, .int .u64 p2]) rfl Rows.nil)) ?_
                rintro _ a246 w247 g247 ⟨⟨A243, rfl, h244⟩, F247⟩ hS246
                replace h110 := OwS.fr h110 F247 (fun _ _ h => h)
                replace h135 := OwS.fr h135 F247 (fun _ _ h => h)
                replace hb0 := hb0.fr F247 (fun h => h)
                replace hf0_devices := OwS.fr hf0_devices F247 (fun _ _ h => h)
                replace hf0_links := OwS.fr hf0_links F247 (fun _ _ h => h)
                replace hf0_order := OwS.fr hf0_order F247 (fun _ _ h => h)
                replace hF := hF.trans F247 (fun _ h => h.elim)
                refine st_eff hS246 rfl rfl rfl (e_append (e := 47) (sz := 3) (by_ := 24) (z := [.int .i64 0, .bool false, .int .u64 0]) (kd := kd_api_PowerOp) g247 hS246 rfl rfl rfl rfl (by kernel_rfl) (by kernel_rfl) rfl rfl rfl rfl h135 (OwD.rdx h244) (fun _ _ _ h => h) hy249) ?_
                rintro _ a254 w255 g255 ⟨⟨A250, cap251, rfl, h252⟩, F255⟩ hS254
                replace h110 := OwS.fr h110 F255 (fun c' hc (hm : c' = N + 0) => by omega)
                replace h244 := OwS.fr h244 F255 (fun c' hc (hm : c' = N + 0) => by omega)
                replace hb0 := hb0.fr F255 (fun (hm : c0 = N + 0) => by omega)
                replace hf0_devices := OwS.fr hf0_devices F255 (fun c' hc (hm : c' = N + 0) => by omega)
                replace hf0_links := OwS.fr hf0_links F255 (fun c' hc (hm : c' = N + 0) => by omega)
                replace hf0_order := OwS.fr hf0_order F255 (fun c' hc (hm : c' = N + 0) => by omega)
                replace hF := hF.trans F255 (fun c' (hm : c' = N + 0) => by show (c0 ≤ c' ∧ c' < c0 + 7) ∨ (r0 ≤ c' ∧ c' < r0 + 2) ∨ N ≤ c'; omega)
                refine st_val hS254 rfl rfl rfl (r_assign hS254 rfl rfl) fun a256 hS256 => wpList_nil (hK _ _ ?_)
                replace hS : Sl 94 _ [(0, .pointer (some ⟨b_p0, 0, none⟩)), (2, .int .u64 p2), (8, .slice A250 y248.length cap251), (9, .slice A108 r86.1.length cap109), (59, .slice A_order_p0 m0_0.order.length cap_order_p0), (60, .int .i64 (r49.1.order.length : Int)), (61, .int .i64 m0_2)] := hS256.re ⟨rfl, rfl, rfl, rfl, rfl, rfl, rfl, trivial⟩
                clear hK K
                try clear hS239 hS240 hS241 hS242 hS246 hS254 hS256
                obtain ⟨a, ha⟩ : ∃ a', a' = a256 := ⟨_, rfl⟩
                rw [← ha] at hS ⊢; clear ha
                have e := Option.some.inj H
                subst e
                exact ⟨g255, A250, cap251, hS.re ⟨rfl, rfl, rfl, rfl, rfl, rfl, rfl, trivial⟩, h110, h252, hb0, hf0_devices, hf0_links, hf0_order, hF⟩
              · replace H := ite_f hb217 H
                refine wp_skip ?_
                have e := Option.some.inj H
                subst e
                exact ⟨g156, A133, cap134, hS.re ⟨rfl, rfl, rfl, rfl, rfl, rfl, rfl, trivial⟩, h110, h135, hb0, hf0_devices, hf0_links, hf0_order, hF⟩
            · clear H
              clear hf0_devices hf0_links hf0_order hb0 h110 h135 hF
              clear hS
              rintro a w139 ⟨g139, A140, cap141, hS, h110, h142, hb0, hf0_devices, hf0_links, hf0_order, hF⟩
              have H := Hl145
              clear Hl145
              refine c_pure1 [(0, .pointer (some ⟨b_p0, 0, none⟩)), (2, .int .u64 p2), (8, .slice A140 v143.2.length cap141), (9, .slice A108 r86.1.length cap109), (59, .slice A_order_p0 v143.1.order.length cap_order_p0), (60, .int .i64 (r49.1.order.length : Int)), (61, .int .i64 (wi (m0_2 + 1)))] (fun R hR => st_val hS rfl rfl rfl (r_bin hS rfl rfl rfl b_add) fun a257 hS257 => st_val hS257 rfl rfl rfl (r_move hS257 rfl rfl) fun a258 hS258 => wpList_nil (hR _ (hS258.re ⟨rfl, rfl, rfl, rfl, rfl, rfl, rfl, trivial⟩))) ?_
              clear hS
              clear a
              intro a hS
              refine ⟨k136, Nat.lt_succ_self _, ?_⟩
              exact ⟨v143.1, v143.2, wi (m0_2 + 1), g139, A140, cap141, H, hS.re ⟨rfl, rfl, rfl, rfl, rfl, rfl, rfl, trivial⟩, h110, h142, hb0, hf0_devices, hf0_links, hf0_order, hF⟩
          · replace H := ite_f hb138 H
            refine wp_exit ?_
            have e := Option.some.inj H
            subst e
            exact ⟨g132, A133, cap134, hS.re ⟨rfl, trivial⟩, h135, hb0, hf0_devices, hf0_links, hf0_order, hF⟩
    · clear H
      clear hf0_devices hf0_links hf0_order hb0 h53 h110 hF
      clear hS
      rintro a w119 ⟨g119, A120, cap121, hS, h122, hb0, hf0_devices, hf0_links, hf0_order, hF⟩
      have H := Hl125
      clear Hl125
      refine c_pure [(6, .slice A120 v123.1.length cap121), (7, .int .i64 0)] (fun R hR => st_val hS rfl rfl rfl (r_move hS rfl rfl) fun a259 hS259 => st_val hS259 rfl rfl rfl (r_assign hS259 rfl rfl) fun a260 hS260 => st_val hS260 rfl rfl rfl (r_assign hS260 rfl rfl) fun a261 hS261 => wpList_nil (hR _ (hS261.re ⟨rfl, rfl, trivial⟩))) ?_
      clear hS
      clear a
      intro a hS
      refine wp_ret ?_
      have e := Option.some.inj H
      subst e
      have F262 := Fr.recol2 w119 g119 (N + 0) r0
      replace h122 := h122.recol2 r0
      replace hb0 := hb0.fr F262 (fun (hm : c0 = N + 0 ∨ c0 = N + 0 + 1) => by omega)
      replace hf0_devices := OwS.fr hf0_devices F262 (fun c' hc (hm : c' = N + 0 ∨ c' = N + 0 + 1) => by omega)
      replace hf0_links := OwS.fr hf0_links F262 (fun c' hc (hm : c' = N + 0 ∨ c' = N + 0 + 1) => by omega)
      replace hf0_order := OwS.fr hf0_order F262 (fun c' hc (hm : c' = N + 0 ∨ c' = N + 0 + 1) => by omega)
      replace hF := hF.trans F262 (fun c' (hm : c' = N + 0 ∨ c' = N + 0 + 1) => by show (c0 ≤ c' ∧ c' < c0 + 7) ∨ (r0 ≤ c' ∧ c' < r0 + 2) ∨ N ≤ c'; omega)
      repeat (with_reducible first | refine then_ret ?_ | refine inBlock_ret ?_)
      exact c_ret2 hS Try.results43 rfl rfl ⟨_, rfl, (recol2 g119 (N + 0) r0), A120, cap121, rfl, ⟨hb0, hf0_devices, hf0_links, hf0_order⟩, h122, hF⟩


end Go.Proofs.Ytcfcffbjdjacfaa.Sim

namespace Go.Proofs.Ytcfcffbjdjacfaa.Sim
open Go
set_option linter.unusedVariables false
set_option linter.unusedSimpArgs false

/-! ### runtimepm_Manager_NextExpiry: function 24 -/
def runtimepm_Manager_NextExpiry.f (p0 : runtimepm_Manager) : Option (Int × Bool) := (runtimepm_Manager_next.f p0).bind fun r4 => some (r4.2, decide (0 ≤ r4.1))
set_option maxRecDepth 100000 in
set_option maxHeartbeats 4000000 in
theorem runtimepm_Manager_NextExpiry.calls {p0 : runtimepm_Manager} {c0 : Nat}  {b_p0 : Nat} {A_devices_p0 : Option Addr} {cap_devices_p0 : Nat} {A_links_p0 : Option Addr} {cap_links_p0 : Nat} {A_order_p0 : Option Addr} {cap_order_p0 : Nat} {w : World} {g : Nat → Nat} {out : Int × Bool} (N : Nat) (hp0 : runtimepm_Manager_At w g c0 b_p0 A_devices_p0 cap_devices_p0 A_links_p0 cap_links_p0 A_order_p0 cap_order_p0 p0) (hc0 : c0 + 7 ≤ N) (H : runtimepm_Manager_NextExpiry.f p0 = some out) :
    Calls Try.prog 24 #[.pointer (some ⟨b_p0, 0, none⟩)] w (fun e w' => ∃ v, e = .returned v ∧ ∃ (g' : Nat → Nat), v = .tuple #[.int .u64 out.1, .bool out.2] ∧ Fr (fun q => N ≤ q) w g w' g') := by
  unfold runtimepm_Manager_NextExpiry.f at H
  refine calls_enter Try.func24 rfl Try.ntmps24 rfl (fun a hS => ?_)
  replace hS : Sl 14 a [(0, .pointer (some ⟨b_p0, 0, none⟩))] := hS
  have hF : Fr (fun q => N ≤ q) w g w g := Fr.refl _ _ _
  obtain ⟨hb0, hf0_devices, hf0_links, hf0_order⟩ := hp0
  refine c_pure [(0, .pointer (some ⟨b_p0, 0, none⟩))] (fun R hR => st_val hS rfl rfl rfl (r_assign hS rfl rfl) fun a1 hS1 => st_val hS1 rfl rfl rfl (r_assign hS1 rfl rfl) fun a2 hS2 => wpList_nil (hR _ (hS2.re ⟨rfl, trivial⟩))) ?_
  clear hS
  clear a
  intro a hS
  obtain ⟨r4, hr5, H⟩ := bind_el H
  refine c_region (fun K hK => ?_)
  refine st_val hS rfl rfl rfl (r_move hS rfl rfl) fun a3 hS3 => ?_
  refine st_enter hS3 rfl rfl rfl (r_call hS3 rfl rfl (by kernel_rfl)) (runtimepm_Manager_next.calls (c0 := c0) (b_p0 := b_p0) (A_devices_p0 := A_devices_p0) (cap_devices_p0 := cap_devices_p0) (A_links_p0 := A_links_p0) (cap_links_p0 := cap_links_p0) (A_order_p0 := A_order_p0) (cap_order_p0 := cap_order_p0) (p0 := p0) (g := g) (N + 0)  ⟨hb0, hf0_devices, hf0_links, hf0_order⟩ (by omega) hr5) ?_
  rintro _ a6 w7 ⟨g7, rfl, F7⟩ hS6
  replace hb0 := hb0.fr F7 (fun (hm : N + 0 ≤ c0) => by omega)
  replace hf0_devices := OwS.fr hf0_devices F7 (fun c' hc (hm : N + 0 ≤ c') => by omega)
  replace hf0_links := OwS.fr hf0_links F7 (fun c' hc (hm : N + 0 ≤ c') => by omega)
  replace hf0_order := OwS.fr hf0_order F7 (fun c' hc (hm : N + 0 ≤ c') => by omega)
  replace hF := hF.trans F7 (fun c' (hm : N + 0 ≤ c') => by show N ≤ c'; omega)
  refine st_val hS6 rfl rfl rfl (r_move hS6 rfl rfl) fun a8 hS8 => st_val hS8 rfl rfl rfl (r_extract hS8 rfl rfl rfl) fun a9 hS9 => st_val hS9 rfl rfl rfl (r_extract hS9 rfl rfl rfl) fun a10 hS10 => st_val hS10 rfl rfl rfl (r_assign hS10 rfl rfl) fun a11 hS11 => st_val hS11 rfl rfl rfl (r_assign hS11 rfl rfl) fun a12 hS12 => wpList_nil (hK _ _ ?_)
  replace hS : Sl 14 _ [(4, .int .i64 r4.1), (5, .int .u64 r4.2)] := hS12.re ⟨rfl, rfl, trivial⟩
  clear hK K
  try clear hS3 hS6 hS8 hS9 hS10 hS11 hS12
  obtain ⟨a, ha⟩ : ∃ a', a' = a12 := ⟨_, rfl⟩
  rw [← ha] at hS ⊢; clear ha
  refine c_pure [(2, .int .u64 r4.2), (3, .bool (decide (0 ≤ r4.1)))] (fun R hR => st_val hS rfl rfl rfl (r_move hS rfl rfl) fun a13 hS13 => st_val hS13 rfl rfl rfl (r_move hS13 rfl rfl) fun a14 hS14 => st_val hS14 rfl rfl rfl (r_bin hS14 rfl rfl rfl b_geq) fun a15 hS15 => st_val hS15 rfl rfl rfl (r_assign hS15 rfl rfl) fun a16 hS16 => st_val hS16 rfl rfl rfl (r_assign hS16 rfl rfl) fun a17 hS17 => wpList_nil (hR _ (hS17.re ⟨rfl, rfl, trivial⟩))) ?_
  clear hS
  clear a
  intro a hS
  refine wp_ret ?_
  have e := Option.some.inj H
  subst e
  repeat (with_reducible first | refine then_ret ?_ | refine inBlock_ret ?_)
  exact c_ret2 hS Try.results24 rfl rfl ⟨_, rfl, g7, rfl, hF⟩


end Go.Proofs.Ytcfcffbjdjacfaa.Sim
